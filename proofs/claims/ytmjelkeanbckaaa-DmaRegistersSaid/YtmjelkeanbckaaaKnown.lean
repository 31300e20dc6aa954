/- The fixed example of the chapter is true. -/
import Derived.Test.YtmjelkeanbckaaaRows
import Derived.Test.YtmjelkeanbckaaaLaw
import Derived.Test.YtmjelkeanbckaaaNum
namespace Go.Proofs.Ytmjelkeanbckaaa.kn
open Go Go.Sx
def G : List (Nat × Sx.Spec) := [(11, specF FK)]
theorem knownv : eval Try.prog [] 11 [] = some (.one (.bool (.lit true))) := by kernel_rfl
theorem gok (W : World) : GOk W Try.prog G := gok_cons (known_ok ⟨Try.f11, Try.func11, by kernel_rfl, by kernel_rfl⟩ knownv) (gok_nil W)
end Go.Proofs.Ytmjelkeanbckaaa.kn
