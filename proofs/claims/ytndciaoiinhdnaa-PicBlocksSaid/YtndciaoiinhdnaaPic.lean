/- Chapter 22: the contracts that its laws share. -/
import Derived.Test.YtndciaoiinhdnaaPriB
import Derived.Test.YtndciaoiinhdnaaMakeP
namespace Go.Proofs.Ytndciaoiinhdnaa.pc
open Go Go.Sx Go.Proofs.Ytndciaoiinhdnaa.mk
set_option maxRecDepth 100000
noncomputable def G (W : World) : List (Nat × Sx.Spec) := (11, specN 49 (FPic W)) :: pr.G
theorem gok (W : World) : GOk W Try.prog (G W) := gok_cons (pic_ok W) (pr.gok W)
end Go.Proofs.Ytndciaoiinhdnaa.pc
