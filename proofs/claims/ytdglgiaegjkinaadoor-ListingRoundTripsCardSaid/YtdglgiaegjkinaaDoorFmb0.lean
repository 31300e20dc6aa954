/- Format (the document) at the opcodes 0 to 63. Printed by mkfmt.py. -/
import Derived.Test.YtdglgiaegjkinaaDoorSpc
namespace Go.Proofs.YtdglgiaegjkinaaDoor
open Go Go.Sx
set_option maxRecDepth 100000
theorem f8_0_n : Fmt8 0 none := fun W c b o n cap => by kernel_rfl
theorem f8_0 : FmAll Fmt8 0 := all_none (by kernel_rfl) (by kernel_rfl) f8_0_n
theorem f8_1_n : Fmt8 1 none := fun W c b o n cap => by kernel_rfl
theorem f8_1 : FmAll Fmt8 1 := all_none (by kernel_rfl) (by kernel_rfl) f8_1_n
theorem f8_2_n : Fmt8 2 none := fun W c b o n cap => by kernel_rfl
theorem f8_2 : FmAll Fmt8 2 := all_none (by kernel_rfl) (by kernel_rfl) f8_2_n
theorem f8_3_n : Fmt8 3 none := fun W c b o n cap => by kernel_rfl
theorem f8_3 : FmAll Fmt8 3 := all_none (by kernel_rfl) (by kernel_rfl) f8_3_n
theorem f8_4_n : Fmt8 4 none := fun W c b o n cap => by kernel_rfl
theorem f8_4 : FmAll Fmt8 4 := all_none (by kernel_rfl) (by kernel_rfl) f8_4_n
theorem f8_5_n : Fmt8 5 none := fun W c b o n cap => by kernel_rfl
theorem f8_5 : FmAll Fmt8 5 := all_none (by kernel_rfl) (by kernel_rfl) f8_5_n
theorem f8_6_n : Fmt8 6 none := fun W c b o n cap => by kernel_rfl
theorem f8_6 : FmAll Fmt8 6 := all_none (by kernel_rfl) (by kernel_rfl) f8_6_n
theorem f8_7_n : Fmt8 7 none := fun W c b o n cap => by kernel_rfl
theorem f8_7 : FmAll Fmt8 7 := all_none (by kernel_rfl) (by kernel_rfl) f8_7_n
theorem f8_8_t : Fmt8 8 (some true) := fun W c b o n cap => by kernel_rfl
theorem f8_8_f : Fmt8 8 (some false) := fun W c b o n cap => by kernel_rfl
theorem f8_8 : FmAll Fmt8 8 := all_some f8_8_t f8_8_f
theorem f8_9_n : Fmt8 9 none := fun W c b o n cap => by kernel_rfl
theorem f8_9 : FmAll Fmt8 9 := all_none (by kernel_rfl) (by kernel_rfl) f8_9_n
theorem f8_10_n : Fmt8 10 none := fun W c b o n cap => by kernel_rfl
theorem f8_10 : FmAll Fmt8 10 := all_none (by kernel_rfl) (by kernel_rfl) f8_10_n
theorem f8_11_n : Fmt8 11 none := fun W c b o n cap => by kernel_rfl
theorem f8_11 : FmAll Fmt8 11 := all_none (by kernel_rfl) (by kernel_rfl) f8_11_n
theorem f8_12_n : Fmt8 12 none := fun W c b o n cap => by kernel_rfl
theorem f8_12 : FmAll Fmt8 12 := all_none (by kernel_rfl) (by kernel_rfl) f8_12_n
theorem f8_13_n : Fmt8 13 none := fun W c b o n cap => by kernel_rfl
theorem f8_13 : FmAll Fmt8 13 := all_none (by kernel_rfl) (by kernel_rfl) f8_13_n
theorem f8_14_n : Fmt8 14 none := fun W c b o n cap => by kernel_rfl
theorem f8_14 : FmAll Fmt8 14 := all_none (by kernel_rfl) (by kernel_rfl) f8_14_n
theorem f8_15_n : Fmt8 15 none := fun W c b o n cap => by kernel_rfl
theorem f8_15 : FmAll Fmt8 15 := all_none (by kernel_rfl) (by kernel_rfl) f8_15_n
theorem f8_16_t : Fmt8 16 (some true) := fun W c b o n cap => by kernel_rfl
theorem f8_16_f : Fmt8 16 (some false) := fun W c b o n cap => by kernel_rfl
theorem f8_16 : FmAll Fmt8 16 := all_some f8_16_t f8_16_f
theorem f8_17_n : Fmt8 17 none := fun W c b o n cap => by kernel_rfl
theorem f8_17 : FmAll Fmt8 17 := all_none (by kernel_rfl) (by kernel_rfl) f8_17_n
theorem f8_18_n : Fmt8 18 none := fun W c b o n cap => by kernel_rfl
theorem f8_18 : FmAll Fmt8 18 := all_none (by kernel_rfl) (by kernel_rfl) f8_18_n
theorem f8_19_n : Fmt8 19 none := fun W c b o n cap => by kernel_rfl
theorem f8_19 : FmAll Fmt8 19 := all_none (by kernel_rfl) (by kernel_rfl) f8_19_n
theorem f8_20_n : Fmt8 20 none := fun W c b o n cap => by kernel_rfl
theorem f8_20 : FmAll Fmt8 20 := all_none (by kernel_rfl) (by kernel_rfl) f8_20_n
theorem f8_21_n : Fmt8 21 none := fun W c b o n cap => by kernel_rfl
theorem f8_21 : FmAll Fmt8 21 := all_none (by kernel_rfl) (by kernel_rfl) f8_21_n
theorem f8_22_n : Fmt8 22 none := fun W c b o n cap => by kernel_rfl
theorem f8_22 : FmAll Fmt8 22 := all_none (by kernel_rfl) (by kernel_rfl) f8_22_n
theorem f8_23_n : Fmt8 23 none := fun W c b o n cap => by kernel_rfl
theorem f8_23 : FmAll Fmt8 23 := all_none (by kernel_rfl) (by kernel_rfl) f8_23_n
theorem f8_24_t : Fmt8 24 (some true) := fun W c b o n cap => by kernel_rfl
theorem f8_24_f : Fmt8 24 (some false) := fun W c b o n cap => by kernel_rfl
theorem f8_24 : FmAll Fmt8 24 := all_some f8_24_t f8_24_f
theorem f8_25_n : Fmt8 25 none := fun W c b o n cap => by kernel_rfl
theorem f8_25 : FmAll Fmt8 25 := all_none (by kernel_rfl) (by kernel_rfl) f8_25_n
theorem f8_26_n : Fmt8 26 none := fun W c b o n cap => by kernel_rfl
theorem f8_26 : FmAll Fmt8 26 := all_none (by kernel_rfl) (by kernel_rfl) f8_26_n
theorem f8_27_n : Fmt8 27 none := fun W c b o n cap => by kernel_rfl
theorem f8_27 : FmAll Fmt8 27 := all_none (by kernel_rfl) (by kernel_rfl) f8_27_n
theorem f8_28_n : Fmt8 28 none := fun W c b o n cap => by kernel_rfl
theorem f8_28 : FmAll Fmt8 28 := all_none (by kernel_rfl) (by kernel_rfl) f8_28_n
theorem f8_29_n : Fmt8 29 none := fun W c b o n cap => by kernel_rfl
theorem f8_29 : FmAll Fmt8 29 := all_none (by kernel_rfl) (by kernel_rfl) f8_29_n
theorem f8_30_n : Fmt8 30 none := fun W c b o n cap => by kernel_rfl
theorem f8_30 : FmAll Fmt8 30 := all_none (by kernel_rfl) (by kernel_rfl) f8_30_n
theorem f8_31_n : Fmt8 31 none := fun W c b o n cap => by kernel_rfl
theorem f8_31 : FmAll Fmt8 31 := all_none (by kernel_rfl) (by kernel_rfl) f8_31_n
theorem f8_32_t : Fmt8 32 (some true) := fun W c b o n cap => by kernel_rfl
theorem f8_32_f : Fmt8 32 (some false) := fun W c b o n cap => by kernel_rfl
theorem f8_32 : FmAll Fmt8 32 := all_some f8_32_t f8_32_f
theorem f8_33_n : Fmt8 33 none := fun W c b o n cap => by kernel_rfl
theorem f8_33 : FmAll Fmt8 33 := all_none (by kernel_rfl) (by kernel_rfl) f8_33_n
theorem f8_34_n : Fmt8 34 none := fun W c b o n cap => by kernel_rfl
theorem f8_34 : FmAll Fmt8 34 := all_none (by kernel_rfl) (by kernel_rfl) f8_34_n
theorem f8_35_n : Fmt8 35 none := fun W c b o n cap => by kernel_rfl
theorem f8_35 : FmAll Fmt8 35 := all_none (by kernel_rfl) (by kernel_rfl) f8_35_n
theorem f8_36_n : Fmt8 36 none := fun W c b o n cap => by kernel_rfl
theorem f8_36 : FmAll Fmt8 36 := all_none (by kernel_rfl) (by kernel_rfl) f8_36_n
theorem f8_37_n : Fmt8 37 none := fun W c b o n cap => by kernel_rfl
theorem f8_37 : FmAll Fmt8 37 := all_none (by kernel_rfl) (by kernel_rfl) f8_37_n
theorem f8_38_n : Fmt8 38 none := fun W c b o n cap => by kernel_rfl
theorem f8_38 : FmAll Fmt8 38 := all_none (by kernel_rfl) (by kernel_rfl) f8_38_n
theorem f8_39_n : Fmt8 39 none := fun W c b o n cap => by kernel_rfl
theorem f8_39 : FmAll Fmt8 39 := all_none (by kernel_rfl) (by kernel_rfl) f8_39_n
theorem f8_40_t : Fmt8 40 (some true) := fun W c b o n cap => by kernel_rfl
theorem f8_40_f : Fmt8 40 (some false) := fun W c b o n cap => by kernel_rfl
theorem f8_40 : FmAll Fmt8 40 := all_some f8_40_t f8_40_f
theorem f8_41_n : Fmt8 41 none := fun W c b o n cap => by kernel_rfl
theorem f8_41 : FmAll Fmt8 41 := all_none (by kernel_rfl) (by kernel_rfl) f8_41_n
theorem f8_42_n : Fmt8 42 none := fun W c b o n cap => by kernel_rfl
theorem f8_42 : FmAll Fmt8 42 := all_none (by kernel_rfl) (by kernel_rfl) f8_42_n
theorem f8_43_n : Fmt8 43 none := fun W c b o n cap => by kernel_rfl
theorem f8_43 : FmAll Fmt8 43 := all_none (by kernel_rfl) (by kernel_rfl) f8_43_n
theorem f8_44_n : Fmt8 44 none := fun W c b o n cap => by kernel_rfl
theorem f8_44 : FmAll Fmt8 44 := all_none (by kernel_rfl) (by kernel_rfl) f8_44_n
theorem f8_45_n : Fmt8 45 none := fun W c b o n cap => by kernel_rfl
theorem f8_45 : FmAll Fmt8 45 := all_none (by kernel_rfl) (by kernel_rfl) f8_45_n
theorem f8_46_n : Fmt8 46 none := fun W c b o n cap => by kernel_rfl
theorem f8_46 : FmAll Fmt8 46 := all_none (by kernel_rfl) (by kernel_rfl) f8_46_n
theorem f8_47_n : Fmt8 47 none := fun W c b o n cap => by kernel_rfl
theorem f8_47 : FmAll Fmt8 47 := all_none (by kernel_rfl) (by kernel_rfl) f8_47_n
theorem f8_48_t : Fmt8 48 (some true) := fun W c b o n cap => by kernel_rfl
theorem f8_48_f : Fmt8 48 (some false) := fun W c b o n cap => by kernel_rfl
theorem f8_48 : FmAll Fmt8 48 := all_some f8_48_t f8_48_f
theorem f8_49_n : Fmt8 49 none := fun W c b o n cap => by kernel_rfl
theorem f8_49 : FmAll Fmt8 49 := all_none (by kernel_rfl) (by kernel_rfl) f8_49_n
theorem f8_50_n : Fmt8 50 none := fun W c b o n cap => by kernel_rfl
theorem f8_50 : FmAll Fmt8 50 := all_none (by kernel_rfl) (by kernel_rfl) f8_50_n
theorem f8_51_n : Fmt8 51 none := fun W c b o n cap => by kernel_rfl
theorem f8_51 : FmAll Fmt8 51 := all_none (by kernel_rfl) (by kernel_rfl) f8_51_n
theorem f8_52_n : Fmt8 52 none := fun W c b o n cap => by kernel_rfl
theorem f8_52 : FmAll Fmt8 52 := all_none (by kernel_rfl) (by kernel_rfl) f8_52_n
theorem f8_53_n : Fmt8 53 none := fun W c b o n cap => by kernel_rfl
theorem f8_53 : FmAll Fmt8 53 := all_none (by kernel_rfl) (by kernel_rfl) f8_53_n
theorem f8_54_n : Fmt8 54 none := fun W c b o n cap => by kernel_rfl
theorem f8_54 : FmAll Fmt8 54 := all_none (by kernel_rfl) (by kernel_rfl) f8_54_n
theorem f8_55_n : Fmt8 55 none := fun W c b o n cap => by kernel_rfl
theorem f8_55 : FmAll Fmt8 55 := all_none (by kernel_rfl) (by kernel_rfl) f8_55_n
theorem f8_56_t : Fmt8 56 (some true) := fun W c b o n cap => by kernel_rfl
theorem f8_56_f : Fmt8 56 (some false) := fun W c b o n cap => by kernel_rfl
theorem f8_56 : FmAll Fmt8 56 := all_some f8_56_t f8_56_f
theorem f8_57_n : Fmt8 57 none := fun W c b o n cap => by kernel_rfl
theorem f8_57 : FmAll Fmt8 57 := all_none (by kernel_rfl) (by kernel_rfl) f8_57_n
theorem f8_58_n : Fmt8 58 none := fun W c b o n cap => by kernel_rfl
theorem f8_58 : FmAll Fmt8 58 := all_none (by kernel_rfl) (by kernel_rfl) f8_58_n
theorem f8_59_n : Fmt8 59 none := fun W c b o n cap => by kernel_rfl
theorem f8_59 : FmAll Fmt8 59 := all_none (by kernel_rfl) (by kernel_rfl) f8_59_n
theorem f8_60_n : Fmt8 60 none := fun W c b o n cap => by kernel_rfl
theorem f8_60 : FmAll Fmt8 60 := all_none (by kernel_rfl) (by kernel_rfl) f8_60_n
theorem f8_61_n : Fmt8 61 none := fun W c b o n cap => by kernel_rfl
theorem f8_61 : FmAll Fmt8 61 := all_none (by kernel_rfl) (by kernel_rfl) f8_61_n
theorem f8_62_n : Fmt8 62 none := fun W c b o n cap => by kernel_rfl
theorem f8_62 : FmAll Fmt8 62 := all_none (by kernel_rfl) (by kernel_rfl) f8_62_n
theorem f8_63_n : Fmt8 63 none := fun W c b o n cap => by kernel_rfl
theorem f8_63 : FmAll Fmt8 63 := all_none (by kernel_rfl) (by kernel_rfl) f8_63_n
theorem f8_0_64 (v : Nat) (h : 0 ≤ v) (h' : v < 64) : FmAll Fmt8 v := by
  rcases Nat.lt_or_ge v 32 with h2 | h2
  · skip
    rcases Nat.lt_or_ge v 16 with h4 | h4
    · skip
      rcases Nat.lt_or_ge v 8 with h6 | h6
      · skip
        rcases Nat.lt_or_ge v 4 with h8 | h8
        · skip
          rcases Nat.lt_or_ge v 2 with h10 | h10
          · skip
            rcases Nat.lt_or_ge v 1 with h12 | h12
            · skip
              obtain rfl : v = 0 := by omega
              exact f8_0
            · skip
              obtain rfl : v = 1 := by omega
              exact f8_1
          · skip
            rcases Nat.lt_or_ge v 3 with h12 | h12
            · skip
              obtain rfl : v = 2 := by omega
              exact f8_2
            · skip
              obtain rfl : v = 3 := by omega
              exact f8_3
        · skip
          rcases Nat.lt_or_ge v 6 with h10 | h10
          · skip
            rcases Nat.lt_or_ge v 5 with h12 | h12
            · skip
              obtain rfl : v = 4 := by omega
              exact f8_4
            · skip
              obtain rfl : v = 5 := by omega
              exact f8_5
          · skip
            rcases Nat.lt_or_ge v 7 with h12 | h12
            · skip
              obtain rfl : v = 6 := by omega
              exact f8_6
            · skip
              obtain rfl : v = 7 := by omega
              exact f8_7
      · skip
        rcases Nat.lt_or_ge v 12 with h8 | h8
        · skip
          rcases Nat.lt_or_ge v 10 with h10 | h10
          · skip
            rcases Nat.lt_or_ge v 9 with h12 | h12
            · skip
              obtain rfl : v = 8 := by omega
              exact f8_8
            · skip
              obtain rfl : v = 9 := by omega
              exact f8_9
          · skip
            rcases Nat.lt_or_ge v 11 with h12 | h12
            · skip
              obtain rfl : v = 10 := by omega
              exact f8_10
            · skip
              obtain rfl : v = 11 := by omega
              exact f8_11
        · skip
          rcases Nat.lt_or_ge v 14 with h10 | h10
          · skip
            rcases Nat.lt_or_ge v 13 with h12 | h12
            · skip
              obtain rfl : v = 12 := by omega
              exact f8_12
            · skip
              obtain rfl : v = 13 := by omega
              exact f8_13
          · skip
            rcases Nat.lt_or_ge v 15 with h12 | h12
            · skip
              obtain rfl : v = 14 := by omega
              exact f8_14
            · skip
              obtain rfl : v = 15 := by omega
              exact f8_15
    · skip
      rcases Nat.lt_or_ge v 24 with h6 | h6
      · skip
        rcases Nat.lt_or_ge v 20 with h8 | h8
        · skip
          rcases Nat.lt_or_ge v 18 with h10 | h10
          · skip
            rcases Nat.lt_or_ge v 17 with h12 | h12
            · skip
              obtain rfl : v = 16 := by omega
              exact f8_16
            · skip
              obtain rfl : v = 17 := by omega
              exact f8_17
          · skip
            rcases Nat.lt_or_ge v 19 with h12 | h12
            · skip
              obtain rfl : v = 18 := by omega
              exact f8_18
            · skip
              obtain rfl : v = 19 := by omega
              exact f8_19
        · skip
          rcases Nat.lt_or_ge v 22 with h10 | h10
          · skip
            rcases Nat.lt_or_ge v 21 with h12 | h12
            · skip
              obtain rfl : v = 20 := by omega
              exact f8_20
            · skip
              obtain rfl : v = 21 := by omega
              exact f8_21
          · skip
            rcases Nat.lt_or_ge v 23 with h12 | h12
            · skip
              obtain rfl : v = 22 := by omega
              exact f8_22
            · skip
              obtain rfl : v = 23 := by omega
              exact f8_23
      · skip
        rcases Nat.lt_or_ge v 28 with h8 | h8
        · skip
          rcases Nat.lt_or_ge v 26 with h10 | h10
          · skip
            rcases Nat.lt_or_ge v 25 with h12 | h12
            · skip
              obtain rfl : v = 24 := by omega
              exact f8_24
            · skip
              obtain rfl : v = 25 := by omega
              exact f8_25
          · skip
            rcases Nat.lt_or_ge v 27 with h12 | h12
            · skip
              obtain rfl : v = 26 := by omega
              exact f8_26
            · skip
              obtain rfl : v = 27 := by omega
              exact f8_27
        · skip
          rcases Nat.lt_or_ge v 30 with h10 | h10
          · skip
            rcases Nat.lt_or_ge v 29 with h12 | h12
            · skip
              obtain rfl : v = 28 := by omega
              exact f8_28
            · skip
              obtain rfl : v = 29 := by omega
              exact f8_29
          · skip
            rcases Nat.lt_or_ge v 31 with h12 | h12
            · skip
              obtain rfl : v = 30 := by omega
              exact f8_30
            · skip
              obtain rfl : v = 31 := by omega
              exact f8_31
  · skip
    rcases Nat.lt_or_ge v 48 with h4 | h4
    · skip
      rcases Nat.lt_or_ge v 40 with h6 | h6
      · skip
        rcases Nat.lt_or_ge v 36 with h8 | h8
        · skip
          rcases Nat.lt_or_ge v 34 with h10 | h10
          · skip
            rcases Nat.lt_or_ge v 33 with h12 | h12
            · skip
              obtain rfl : v = 32 := by omega
              exact f8_32
            · skip
              obtain rfl : v = 33 := by omega
              exact f8_33
          · skip
            rcases Nat.lt_or_ge v 35 with h12 | h12
            · skip
              obtain rfl : v = 34 := by omega
              exact f8_34
            · skip
              obtain rfl : v = 35 := by omega
              exact f8_35
        · skip
          rcases Nat.lt_or_ge v 38 with h10 | h10
          · skip
            rcases Nat.lt_or_ge v 37 with h12 | h12
            · skip
              obtain rfl : v = 36 := by omega
              exact f8_36
            · skip
              obtain rfl : v = 37 := by omega
              exact f8_37
          · skip
            rcases Nat.lt_or_ge v 39 with h12 | h12
            · skip
              obtain rfl : v = 38 := by omega
              exact f8_38
            · skip
              obtain rfl : v = 39 := by omega
              exact f8_39
      · skip
        rcases Nat.lt_or_ge v 44 with h8 | h8
        · skip
          rcases Nat.lt_or_ge v 42 with h10 | h10
          · skip
            rcases Nat.lt_or_ge v 41 with h12 | h12
            · skip
              obtain rfl : v = 40 := by omega
              exact f8_40
            · skip
              obtain rfl : v = 41 := by omega
              exact f8_41
          · skip
            rcases Nat.lt_or_ge v 43 with h12 | h12
            · skip
              obtain rfl : v = 42 := by omega
              exact f8_42
            · skip
              obtain rfl : v = 43 := by omega
              exact f8_43
        · skip
          rcases Nat.lt_or_ge v 46 with h10 | h10
          · skip
            rcases Nat.lt_or_ge v 45 with h12 | h12
            · skip
              obtain rfl : v = 44 := by omega
              exact f8_44
            · skip
              obtain rfl : v = 45 := by omega
              exact f8_45
          · skip
            rcases Nat.lt_or_ge v 47 with h12 | h12
            · skip
              obtain rfl : v = 46 := by omega
              exact f8_46
            · skip
              obtain rfl : v = 47 := by omega
              exact f8_47
    · skip
      rcases Nat.lt_or_ge v 56 with h6 | h6
      · skip
        rcases Nat.lt_or_ge v 52 with h8 | h8
        · skip
          rcases Nat.lt_or_ge v 50 with h10 | h10
          · skip
            rcases Nat.lt_or_ge v 49 with h12 | h12
            · skip
              obtain rfl : v = 48 := by omega
              exact f8_48
            · skip
              obtain rfl : v = 49 := by omega
              exact f8_49
          · skip
            rcases Nat.lt_or_ge v 51 with h12 | h12
            · skip
              obtain rfl : v = 50 := by omega
              exact f8_50
            · skip
              obtain rfl : v = 51 := by omega
              exact f8_51
        · skip
          rcases Nat.lt_or_ge v 54 with h10 | h10
          · skip
            rcases Nat.lt_or_ge v 53 with h12 | h12
            · skip
              obtain rfl : v = 52 := by omega
              exact f8_52
            · skip
              obtain rfl : v = 53 := by omega
              exact f8_53
          · skip
            rcases Nat.lt_or_ge v 55 with h12 | h12
            · skip
              obtain rfl : v = 54 := by omega
              exact f8_54
            · skip
              obtain rfl : v = 55 := by omega
              exact f8_55
      · skip
        rcases Nat.lt_or_ge v 60 with h8 | h8
        · skip
          rcases Nat.lt_or_ge v 58 with h10 | h10
          · skip
            rcases Nat.lt_or_ge v 57 with h12 | h12
            · skip
              obtain rfl : v = 56 := by omega
              exact f8_56
            · skip
              obtain rfl : v = 57 := by omega
              exact f8_57
          · skip
            rcases Nat.lt_or_ge v 59 with h12 | h12
            · skip
              obtain rfl : v = 58 := by omega
              exact f8_58
            · skip
              obtain rfl : v = 59 := by omega
              exact f8_59
        · skip
          rcases Nat.lt_or_ge v 62 with h10 | h10
          · skip
            rcases Nat.lt_or_ge v 61 with h12 | h12
            · skip
              obtain rfl : v = 60 := by omega
              exact f8_60
            · skip
              obtain rfl : v = 61 := by omega
              exact f8_61
          · skip
            rcases Nat.lt_or_ge v 63 with h12 | h12
            · skip
              obtain rfl : v = 62 := by omega
              exact f8_62
            · skip
              obtain rfl : v = 63 := by omega
              exact f8_63
end Go.Proofs.YtdglgiaegjkinaaDoor
