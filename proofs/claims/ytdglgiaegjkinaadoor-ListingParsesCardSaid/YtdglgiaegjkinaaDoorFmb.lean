/- Format (the document) at the opcodes 0 to 63. Printed by mkfmt.py. (Several texts in one.) -/
import Derived.Test.YtdglgiaegjkinaaDoorSpc
namespace Go.Proofs.YtdglgiaegjkinaaDoor
open Go Go.Sx
set_option maxRecDepth 100000
theorem f8_0_n : Fmt8 0 none := fun W c b o n cap => by kernel_rfl
theorem f8_0 : FmAll Fmt8 0 := all_none (by kernel_rfl) (by kernel_rfl) f8_0_n
theorem f8_1_n : Fmt8 1 none := fun W c b o n cap => by kernel_rfl
theorem f8_1 : FmAll Fmt8 1 := all_none (by kernel_rfl) (by kernel_rfl) f8_1_n
theorem f8_2_n : Fmt8 2 none := fun W c b o n cap => by kernel_rfl
theorem f8_2 : FmAll Fmt8 2 := all_none (by kernel_rfl) (by kernel_rfl) f8_2_n
theorem f8_3_n : Fmt8 3 none := fun W c b o n cap => by kernel_rfl
theorem f8_3 : FmAll Fmt8 3 := all_none (by kernel_rfl) (by kernel_rfl) f8_3_n
theorem f8_4_n : Fmt8 4 none := fun W c b o n cap => by kernel_rfl
theorem f8_4 : FmAll Fmt8 4 := all_none (by kernel_rfl) (by kernel_rfl) f8_4_n
theorem f8_5_n : Fmt8 5 none := fun W c b o n cap => by kernel_rfl
theorem f8_5 : FmAll Fmt8 5 := all_none (by kernel_rfl) (by kernel_rfl) f8_5_n
theorem f8_6_n : Fmt8 6 none := fun W c b o n cap => by kernel_rfl
theorem f8_6 : FmAll Fmt8 6 := all_none (by kernel_rfl) (by kernel_rfl) f8_6_n
theorem f8_7_n : Fmt8 7 none := fun W c b o n cap => by kernel_rfl
theorem f8_7 : FmAll Fmt8 7 := all_none (by kernel_rfl) (by kernel_rfl) f8_7_n
theorem f8_8_t : Fmt8 8 (some true) := fun W c b o n cap => by kernel_rfl
theorem f8_8_f : Fmt8 8 (some false) := fun W c b o n cap => by kernel_rfl
theorem f8_8 : FmAll Fmt8 8 := all_some f8_8_t f8_8_f
theorem f8_9_n : Fmt8 9 none := fun W c b o n cap => by kernel_rfl
theorem f8_9 : FmAll Fmt8 9 := all_none (by kernel_rfl) (by kernel_rfl) f8_9_n
theorem f8_10_n : Fmt8 10 none := fun W c b o n cap => by kernel_rfl
theorem f8_10 : FmAll Fmt8 10 := all_none (by kernel_rfl) (by kernel_rfl) f8_10_n
theorem f8_11_n : Fmt8 11 none := fun W c b o n cap => by kernel_rfl
theorem f8_11 : FmAll Fmt8 11 := all_none (by kernel_rfl) (by kernel_rfl) f8_11_n
theorem f8_12_n : Fmt8 12 none := fun W c b o n cap => by kernel_rfl
theorem f8_12 : FmAll Fmt8 12 := all_none (by kernel_rfl) (by kernel_rfl) f8_12_n
theorem f8_13_n : Fmt8 13 none := fun W c b o n cap => by kernel_rfl
theorem f8_13 : FmAll Fmt8 13 := all_none (by kernel_rfl) (by kernel_rfl) f8_13_n
theorem f8_14_n : Fmt8 14 none := fun W c b o n cap => by kernel_rfl
theorem f8_14 : FmAll Fmt8 14 := all_none (by kernel_rfl) (by kernel_rfl) f8_14_n
theorem f8_15_n : Fmt8 15 none := fun W c b o n cap => by kernel_rfl
theorem f8_15 : FmAll Fmt8 15 := all_none (by kernel_rfl) (by kernel_rfl) f8_15_n
theorem f8_16_t : Fmt8 16 (some true) := fun W c b o n cap => by kernel_rfl
theorem f8_16_f : Fmt8 16 (some false) := fun W c b o n cap => by kernel_rfl
theorem f8_16 : FmAll Fmt8 16 := all_some f8_16_t f8_16_f
theorem f8_17_n : Fmt8 17 none := fun W c b o n cap => by kernel_rfl
theorem f8_17 : FmAll Fmt8 17 := all_none (by kernel_rfl) (by kernel_rfl) f8_17_n
theorem f8_18_n : Fmt8 18 none := fun W c b o n cap => by kernel_rfl
theorem f8_18 : FmAll Fmt8 18 := all_none (by kernel_rfl) (by kernel_rfl) f8_18_n
theorem f8_19_n : Fmt8 19 none := fun W c b o n cap => by kernel_rfl
theorem f8_19 : FmAll Fmt8 19 := all_none (by kernel_rfl) (by kernel_rfl) f8_19_n
theorem f8_20_n : Fmt8 20 none := fun W c b o n cap => by kernel_rfl
theorem f8_20 : FmAll Fmt8 20 := all_none (by kernel_rfl) (by kernel_rfl) f8_20_n
theorem f8_21_n : Fmt8 21 none := fun W c b o n cap => by kernel_rfl
theorem f8_21 : FmAll Fmt8 21 := all_none (by kernel_rfl) (by kernel_rfl) f8_21_n
theorem f8_22_n : Fmt8 22 none := fun W c b o n cap => by kernel_rfl
theorem f8_22 : FmAll Fmt8 22 := all_none (by kernel_rfl) (by kernel_rfl) f8_22_n
theorem f8_23_n : Fmt8 23 none := fun W c b o n cap => by kernel_rfl
theorem f8_23 : FmAll Fmt8 23 := all_none (by kernel_rfl) (by kernel_rfl) f8_23_n
theorem f8_24_t : Fmt8 24 (some true) := fun W c b o n cap => by kernel_rfl
theorem f8_24_f : Fmt8 24 (some false) := fun W c b o n cap => by kernel_rfl
theorem f8_24 : FmAll Fmt8 24 := all_some f8_24_t f8_24_f
theorem f8_25_n : Fmt8 25 none := fun W c b o n cap => by kernel_rfl
theorem f8_25 : FmAll Fmt8 25 := all_none (by kernel_rfl) (by kernel_rfl) f8_25_n
theorem f8_26_n : Fmt8 26 none := fun W c b o n cap => by kernel_rfl
theorem f8_26 : FmAll Fmt8 26 := all_none (by kernel_rfl) (by kernel_rfl) f8_26_n
theorem f8_27_n : Fmt8 27 none := fun W c b o n cap => by kernel_rfl
theorem f8_27 : FmAll Fmt8 27 := all_none (by kernel_rfl) (by kernel_rfl) f8_27_n
theorem f8_28_n : Fmt8 28 none := fun W c b o n cap => by kernel_rfl
theorem f8_28 : FmAll Fmt8 28 := all_none (by kernel_rfl) (by kernel_rfl) f8_28_n
theorem f8_29_n : Fmt8 29 none := fun W c b o n cap => by kernel_rfl
theorem f8_29 : FmAll Fmt8 29 := all_none (by kernel_rfl) (by kernel_rfl) f8_29_n
theorem f8_30_n : Fmt8 30 none := fun W c b o n cap => by kernel_rfl
theorem f8_30 : FmAll Fmt8 30 := all_none (by kernel_rfl) (by kernel_rfl) f8_30_n
theorem f8_31_n : Fmt8 31 none := fun W c b o n cap => by kernel_rfl
theorem f8_31 : FmAll Fmt8 31 := all_none (by kernel_rfl) (by kernel_rfl) f8_31_n
theorem f8_32_t : Fmt8 32 (some true) := fun W c b o n cap => by kernel_rfl
theorem f8_32_f : Fmt8 32 (some false) := fun W c b o n cap => by kernel_rfl
theorem f8_32 : FmAll Fmt8 32 := all_some f8_32_t f8_32_f
theorem f8_33_n : Fmt8 33 none := fun W c b o n cap => by kernel_rfl
theorem f8_33 : FmAll Fmt8 33 := all_none (by kernel_rfl) (by kernel_rfl) f8_33_n
theorem f8_34_n : Fmt8 34 none := fun W c b o n cap => by kernel_rfl
theorem f8_34 : FmAll Fmt8 34 := all_none (by kernel_rfl) (by kernel_rfl) f8_34_n
theorem f8_35_n : Fmt8 35 none := fun W c b o n cap => by kernel_rfl
theorem f8_35 : FmAll Fmt8 35 := all_none (by kernel_rfl) (by kernel_rfl) f8_35_n
theorem f8_36_n : Fmt8 36 none := fun W c b o n cap => by kernel_rfl
theorem f8_36 : FmAll Fmt8 36 := all_none (by kernel_rfl) (by kernel_rfl) f8_36_n
theorem f8_37_n : Fmt8 37 none := fun W c b o n cap => by kernel_rfl
theorem f8_37 : FmAll Fmt8 37 := all_none (by kernel_rfl) (by kernel_rfl) f8_37_n
theorem f8_38_n : Fmt8 38 none := fun W c b o n cap => by kernel_rfl
theorem f8_38 : FmAll Fmt8 38 := all_none (by kernel_rfl) (by kernel_rfl) f8_38_n
theorem f8_39_n : Fmt8 39 none := fun W c b o n cap => by kernel_rfl
theorem f8_39 : FmAll Fmt8 39 := all_none (by kernel_rfl) (by kernel_rfl) f8_39_n
theorem f8_40_t : Fmt8 40 (some true) := fun W c b o n cap => by kernel_rfl
theorem f8_40_f : Fmt8 40 (some false) := fun W c b o n cap => by kernel_rfl
theorem f8_40 : FmAll Fmt8 40 := all_some f8_40_t f8_40_f
theorem f8_41_n : Fmt8 41 none := fun W c b o n cap => by kernel_rfl
theorem f8_41 : FmAll Fmt8 41 := all_none (by kernel_rfl) (by kernel_rfl) f8_41_n
theorem f8_42_n : Fmt8 42 none := fun W c b o n cap => by kernel_rfl
theorem f8_42 : FmAll Fmt8 42 := all_none (by kernel_rfl) (by kernel_rfl) f8_42_n
theorem f8_43_n : Fmt8 43 none := fun W c b o n cap => by kernel_rfl
theorem f8_43 : FmAll Fmt8 43 := all_none (by kernel_rfl) (by kernel_rfl) f8_43_n
theorem f8_44_n : Fmt8 44 none := fun W c b o n cap => by kernel_rfl
theorem f8_44 : FmAll Fmt8 44 := all_none (by kernel_rfl) (by kernel_rfl) f8_44_n
theorem f8_45_n : Fmt8 45 none := fun W c b o n cap => by kernel_rfl
theorem f8_45 : FmAll Fmt8 45 := all_none (by kernel_rfl) (by kernel_rfl) f8_45_n
theorem f8_46_n : Fmt8 46 none := fun W c b o n cap => by kernel_rfl
theorem f8_46 : FmAll Fmt8 46 := all_none (by kernel_rfl) (by kernel_rfl) f8_46_n
theorem f8_47_n : Fmt8 47 none := fun W c b o n cap => by kernel_rfl
theorem f8_47 : FmAll Fmt8 47 := all_none (by kernel_rfl) (by kernel_rfl) f8_47_n
theorem f8_48_t : Fmt8 48 (some true) := fun W c b o n cap => by kernel_rfl
theorem f8_48_f : Fmt8 48 (some false) := fun W c b o n cap => by kernel_rfl
theorem f8_48 : FmAll Fmt8 48 := all_some f8_48_t f8_48_f
theorem f8_49_n : Fmt8 49 none := fun W c b o n cap => by kernel_rfl
theorem f8_49 : FmAll Fmt8 49 := all_none (by kernel_rfl) (by kernel_rfl) f8_49_n
theorem f8_50_n : Fmt8 50 none := fun W c b o n cap => by kernel_rfl
theorem f8_50 : FmAll Fmt8 50 := all_none (by kernel_rfl) (by kernel_rfl) f8_50_n
theorem f8_51_n : Fmt8 51 none := fun W c b o n cap => by kernel_rfl
theorem f8_51 : FmAll Fmt8 51 := all_none (by kernel_rfl) (by kernel_rfl) f8_51_n
theorem f8_52_n : Fmt8 52 none := fun W c b o n cap => by kernel_rfl
theorem f8_52 : FmAll Fmt8 52 := all_none (by kernel_rfl) (by kernel_rfl) f8_52_n
theorem f8_53_n : Fmt8 53 none := fun W c b o n cap => by kernel_rfl
theorem f8_53 : FmAll Fmt8 53 := all_none (by kernel_rfl) (by kernel_rfl) f8_53_n
theorem f8_54_n : Fmt8 54 none := fun W c b o n cap => by kernel_rfl
theorem f8_54 : FmAll Fmt8 54 := all_none (by kernel_rfl) (by kernel_rfl) f8_54_n
theorem f8_55_n : Fmt8 55 none := fun W c b o n cap => by kernel_rfl
theorem f8_55 : FmAll Fmt8 55 := all_none (by kernel_rfl) (by kernel_rfl) f8_55_n
theorem f8_56_t : Fmt8 56 (some true) := fun W c b o n cap => by kernel_rfl
theorem f8_56_f : Fmt8 56 (some false) := fun W c b o n cap => by kernel_rfl
theorem f8_56 : FmAll Fmt8 56 := all_some f8_56_t f8_56_f
theorem f8_57_n : Fmt8 57 none := fun W c b o n cap => by kernel_rfl
theorem f8_57 : FmAll Fmt8 57 := all_none (by kernel_rfl) (by kernel_rfl) f8_57_n
theorem f8_58_n : Fmt8 58 none := fun W c b o n cap => by kernel_rfl
theorem f8_58 : FmAll Fmt8 58 := all_none (by kernel_rfl) (by kernel_rfl) f8_58_n
theorem f8_59_n : Fmt8 59 none := fun W c b o n cap => by kernel_rfl
theorem f8_59 : FmAll Fmt8 59 := all_none (by kernel_rfl) (by kernel_rfl) f8_59_n
theorem f8_60_n : Fmt8 60 none := fun W c b o n cap => by kernel_rfl
theorem f8_60 : FmAll Fmt8 60 := all_none (by kernel_rfl) (by kernel_rfl) f8_60_n
theorem f8_61_n : Fmt8 61 none := fun W c b o n cap => by kernel_rfl
theorem f8_61 : FmAll Fmt8 61 := all_none (by kernel_rfl) (by kernel_rfl) f8_61_n
theorem f8_62_n : Fmt8 62 none := fun W c b o n cap => by kernel_rfl
theorem f8_62 : FmAll Fmt8 62 := all_none (by kernel_rfl) (by kernel_rfl) f8_62_n
theorem f8_63_n : Fmt8 63 none := fun W c b o n cap => by kernel_rfl
theorem f8_63 : FmAll Fmt8 63 := all_none (by kernel_rfl) (by kernel_rfl) f8_63_n
theorem f8_0_64 (v : Nat) (h : 0 ≤ v) (h' : v < 64) : FmAll Fmt8 v := by
  rcases Nat.lt_or_ge v 32 with h2 | h2
  · skip
    rcases Nat.lt_or_ge v 16 with h4 | h4
    · skip
      rcases Nat.lt_or_ge v 8 with h6 | h6
      · skip
        rcases Nat.lt_or_ge v 4 with h8 | h8
        · skip
          rcases Nat.lt_or_ge v 2 with h10 | h10
          · skip
            rcases Nat.lt_or_ge v 1 with h12 | h12
            · skip
              obtain rfl : v = 0 := by omega
              exact f8_0
            · skip
              obtain rfl : v = 1 := by omega
              exact f8_1
          · skip
            rcases Nat.lt_or_ge v 3 with h12 | h12
            · skip
              obtain rfl : v = 2 := by omega
              exact f8_2
            · skip
              obtain rfl : v = 3 := by omega
              exact f8_3
        · skip
          rcases Nat.lt_or_ge v 6 with h10 | h10
          · skip
            rcases Nat.lt_or_ge v 5 with h12 | h12
            · skip
              obtain rfl : v = 4 := by omega
              exact f8_4
            · skip
              obtain rfl : v = 5 := by omega
              exact f8_5
          · skip
            rcases Nat.lt_or_ge v 7 with h12 | h12
            · skip
              obtain rfl : v = 6 := by omega
              exact f8_6
            · skip
              obtain rfl : v = 7 := by omega
              exact f8_7
      · skip
        rcases Nat.lt_or_ge v 12 with h8 | h8
        · skip
          rcases Nat.lt_or_ge v 10 with h10 | h10
          · skip
            rcases Nat.lt_or_ge v 9 with h12 | h12
            · skip
              obtain rfl : v = 8 := by omega
              exact f8_8
            · skip
              obtain rfl : v = 9 := by omega
              exact f8_9
          · skip
            rcases Nat.lt_or_ge v 11 with h12 | h12
            · skip
              obtain rfl : v = 10 := by omega
              exact f8_10
            · skip
              obtain rfl : v = 11 := by omega
              exact f8_11
        · skip
          rcases Nat.lt_or_ge v 14 with h10 | h10
          · skip
            rcases Nat.lt_or_ge v 13 with h12 | h12
            · skip
              obtain rfl : v = 12 := by omega
              exact f8_12
            · skip
              obtain rfl : v = 13 := by omega
              exact f8_13
          · skip
            rcases Nat.lt_or_ge v 15 with h12 | h12
            · skip
              obtain rfl : v = 14 := by omega
              exact f8_14
            · skip
              obtain rfl : v = 15 := by omega
              exact f8_15
    · skip
      rcases Nat.lt_or_ge v 24 with h6 | h6
      · skip
        rcases Nat.lt_or_ge v 20 with h8 | h8
        · skip
          rcases Nat.lt_or_ge v 18 with h10 | h10
          · skip
            rcases Nat.lt_or_ge v 17 with h12 | h12
            · skip
              obtain rfl : v = 16 := by omega
              exact f8_16
            · skip
              obtain rfl : v = 17 := by omega
              exact f8_17
          · skip
            rcases Nat.lt_or_ge v 19 with h12 | h12
            · skip
              obtain rfl : v = 18 := by omega
              exact f8_18
            · skip
              obtain rfl : v = 19 := by omega
              exact f8_19
        · skip
          rcases Nat.lt_or_ge v 22 with h10 | h10
          · skip
            rcases Nat.lt_or_ge v 21 with h12 | h12
            · skip
              obtain rfl : v = 20 := by omega
              exact f8_20
            · skip
              obtain rfl : v = 21 := by omega
              exact f8_21
          · skip
            rcases Nat.lt_or_ge v 23 with h12 | h12
            · skip
              obtain rfl : v = 22 := by omega
              exact f8_22
            · skip
              obtain rfl : v = 23 := by omega
              exact f8_23
      · skip
        rcases Nat.lt_or_ge v 28 with h8 | h8
        · skip
          rcases Nat.lt_or_ge v 26 with h10 | h10
          · skip
            rcases Nat.lt_or_ge v 25 with h12 | h12
            · skip
              obtain rfl : v = 24 := by omega
              exact f8_24
            · skip
              obtain rfl : v = 25 := by omega
              exact f8_25
          · skip
            rcases Nat.lt_or_ge v 27 with h12 | h12
            · skip
              obtain rfl : v = 26 := by omega
              exact f8_26
            · skip
              obtain rfl : v = 27 := by omega
              exact f8_27
        · skip
          rcases Nat.lt_or_ge v 30 with h10 | h10
          · skip
            rcases Nat.lt_or_ge v 29 with h12 | h12
            · skip
              obtain rfl : v = 28 := by omega
              exact f8_28
            · skip
              obtain rfl : v = 29 := by omega
              exact f8_29
          · skip
            rcases Nat.lt_or_ge v 31 with h12 | h12
            · skip
              obtain rfl : v = 30 := by omega
              exact f8_30
            · skip
              obtain rfl : v = 31 := by omega
              exact f8_31
  · skip
    rcases Nat.lt_or_ge v 48 with h4 | h4
    · skip
      rcases Nat.lt_or_ge v 40 with h6 | h6
      · skip
        rcases Nat.lt_or_ge v 36 with h8 | h8
        · skip
          rcases Nat.lt_or_ge v 34 with h10 | h10
          · skip
            rcases Nat.lt_or_ge v 33 with h12 | h12
            · skip
              obtain rfl : v = 32 := by omega
              exact f8_32
            · skip
              obtain rfl : v = 33 := by omega
              exact f8_33
          · skip
            rcases Nat.lt_or_ge v 35 with h12 | h12
            · skip
              obtain rfl : v = 34 := by omega
              exact f8_34
            · skip
              obtain rfl : v = 35 := by omega
              exact f8_35
        · skip
          rcases Nat.lt_or_ge v 38 with h10 | h10
          · skip
            rcases Nat.lt_or_ge v 37 with h12 | h12
            · skip
              obtain rfl : v = 36 := by omega
              exact f8_36
            · skip
              obtain rfl : v = 37 := by omega
              exact f8_37
          · skip
            rcases Nat.lt_or_ge v 39 with h12 | h12
            · skip
              obtain rfl : v = 38 := by omega
              exact f8_38
            · skip
              obtain rfl : v = 39 := by omega
              exact f8_39
      · skip
        rcases Nat.lt_or_ge v 44 with h8 | h8
        · skip
          rcases Nat.lt_or_ge v 42 with h10 | h10
          · skip
            rcases Nat.lt_or_ge v 41 with h12 | h12
            · skip
              obtain rfl : v = 40 := by omega
              exact f8_40
            · skip
              obtain rfl : v = 41 := by omega
              exact f8_41
          · skip
            rcases Nat.lt_or_ge v 43 with h12 | h12
            · skip
              obtain rfl : v = 42 := by omega
              exact f8_42
            · skip
              obtain rfl : v = 43 := by omega
              exact f8_43
        · skip
          rcases Nat.lt_or_ge v 46 with h10 | h10
          · skip
            rcases Nat.lt_or_ge v 45 with h12 | h12
            · skip
              obtain rfl : v = 44 := by omega
              exact f8_44
            · skip
              obtain rfl : v = 45 := by omega
              exact f8_45
          · skip
            rcases Nat.lt_or_ge v 47 with h12 | h12
            · skip
              obtain rfl : v = 46 := by omega
              exact f8_46
            · skip
              obtain rfl : v = 47 := by omega
              exact f8_47
    · skip
      rcases Nat.lt_or_ge v 56 with h6 | h6
      · skip
        rcases Nat.lt_or_ge v 52 with h8 | h8
        · skip
          rcases Nat.lt_or_ge v 50 with h10 | h10
          · skip
            rcases Nat.lt_or_ge v 49 with h12 | h12
            · skip
              obtain rfl : v = 48 := by omega
              exact f8_48
            · skip
              obtain rfl : v = 49 := by omega
              exact f8_49
          · skip
            rcases Nat.lt_or_ge v 51 with h12 | h12
            · skip
              obtain rfl : v = 50 := by omega
              exact f8_50
            · skip
              obtain rfl : v = 51 := by omega
              exact f8_51
        · skip
          rcases Nat.lt_or_ge v 54 with h10 | h10
          · skip
            rcases Nat.lt_or_ge v 53 with h12 | h12
            · skip
              obtain rfl : v = 52 := by omega
              exact f8_52
            · skip
              obtain rfl : v = 53 := by omega
              exact f8_53
          · skip
            rcases Nat.lt_or_ge v 55 with h12 | h12
            · skip
              obtain rfl : v = 54 := by omega
              exact f8_54
            · skip
              obtain rfl : v = 55 := by omega
              exact f8_55
      · skip
        rcases Nat.lt_or_ge v 60 with h8 | h8
        · skip
          rcases Nat.lt_or_ge v 58 with h10 | h10
          · skip
            rcases Nat.lt_or_ge v 57 with h12 | h12
            · skip
              obtain rfl : v = 56 := by omega
              exact f8_56
            · skip
              obtain rfl : v = 57 := by omega
              exact f8_57
          · skip
            rcases Nat.lt_or_ge v 59 with h12 | h12
            · skip
              obtain rfl : v = 58 := by omega
              exact f8_58
            · skip
              obtain rfl : v = 59 := by omega
              exact f8_59
        · skip
          rcases Nat.lt_or_ge v 62 with h10 | h10
          · skip
            rcases Nat.lt_or_ge v 61 with h12 | h12
            · skip
              obtain rfl : v = 60 := by omega
              exact f8_60
            · skip
              obtain rfl : v = 61 := by omega
              exact f8_61
          · skip
            rcases Nat.lt_or_ge v 63 with h12 | h12
            · skip
              obtain rfl : v = 62 := by omega
              exact f8_62
            · skip
              obtain rfl : v = 63 := by omega
              exact f8_63
end Go.Proofs.YtdglgiaegjkinaaDoor

/- Format (the document) at the opcodes 64 to 127. Printed by mkfmt.py. -/

namespace Go.Proofs.YtdglgiaegjkinaaDoor
open Go Go.Sx
set_option maxRecDepth 100000
theorem f8_64_n : Fmt8 64 none := fun W c b o n cap => by kernel_rfl
theorem f8_64 : FmAll Fmt8 64 := all_none (by kernel_rfl) (by kernel_rfl) f8_64_n
theorem f8_65_n : Fmt8 65 none := fun W c b o n cap => by kernel_rfl
theorem f8_65 : FmAll Fmt8 65 := all_none (by kernel_rfl) (by kernel_rfl) f8_65_n
theorem f8_66_n : Fmt8 66 none := fun W c b o n cap => by kernel_rfl
theorem f8_66 : FmAll Fmt8 66 := all_none (by kernel_rfl) (by kernel_rfl) f8_66_n
theorem f8_67_n : Fmt8 67 none := fun W c b o n cap => by kernel_rfl
theorem f8_67 : FmAll Fmt8 67 := all_none (by kernel_rfl) (by kernel_rfl) f8_67_n
theorem f8_68_n : Fmt8 68 none := fun W c b o n cap => by kernel_rfl
theorem f8_68 : FmAll Fmt8 68 := all_none (by kernel_rfl) (by kernel_rfl) f8_68_n
theorem f8_69_n : Fmt8 69 none := fun W c b o n cap => by kernel_rfl
theorem f8_69 : FmAll Fmt8 69 := all_none (by kernel_rfl) (by kernel_rfl) f8_69_n
theorem f8_70_n : Fmt8 70 none := fun W c b o n cap => by kernel_rfl
theorem f8_70 : FmAll Fmt8 70 := all_none (by kernel_rfl) (by kernel_rfl) f8_70_n
theorem f8_71_n : Fmt8 71 none := fun W c b o n cap => by kernel_rfl
theorem f8_71 : FmAll Fmt8 71 := all_none (by kernel_rfl) (by kernel_rfl) f8_71_n
theorem f8_72_n : Fmt8 72 none := fun W c b o n cap => by kernel_rfl
theorem f8_72 : FmAll Fmt8 72 := all_none (by kernel_rfl) (by kernel_rfl) f8_72_n
theorem f8_73_n : Fmt8 73 none := fun W c b o n cap => by kernel_rfl
theorem f8_73 : FmAll Fmt8 73 := all_none (by kernel_rfl) (by kernel_rfl) f8_73_n
theorem f8_74_n : Fmt8 74 none := fun W c b o n cap => by kernel_rfl
theorem f8_74 : FmAll Fmt8 74 := all_none (by kernel_rfl) (by kernel_rfl) f8_74_n
theorem f8_75_n : Fmt8 75 none := fun W c b o n cap => by kernel_rfl
theorem f8_75 : FmAll Fmt8 75 := all_none (by kernel_rfl) (by kernel_rfl) f8_75_n
theorem f8_76_n : Fmt8 76 none := fun W c b o n cap => by kernel_rfl
theorem f8_76 : FmAll Fmt8 76 := all_none (by kernel_rfl) (by kernel_rfl) f8_76_n
theorem f8_77_n : Fmt8 77 none := fun W c b o n cap => by kernel_rfl
theorem f8_77 : FmAll Fmt8 77 := all_none (by kernel_rfl) (by kernel_rfl) f8_77_n
theorem f8_78_n : Fmt8 78 none := fun W c b o n cap => by kernel_rfl
theorem f8_78 : FmAll Fmt8 78 := all_none (by kernel_rfl) (by kernel_rfl) f8_78_n
theorem f8_79_n : Fmt8 79 none := fun W c b o n cap => by kernel_rfl
theorem f8_79 : FmAll Fmt8 79 := all_none (by kernel_rfl) (by kernel_rfl) f8_79_n
theorem f8_80_n : Fmt8 80 none := fun W c b o n cap => by kernel_rfl
theorem f8_80 : FmAll Fmt8 80 := all_none (by kernel_rfl) (by kernel_rfl) f8_80_n
theorem f8_81_n : Fmt8 81 none := fun W c b o n cap => by kernel_rfl
theorem f8_81 : FmAll Fmt8 81 := all_none (by kernel_rfl) (by kernel_rfl) f8_81_n
theorem f8_82_n : Fmt8 82 none := fun W c b o n cap => by kernel_rfl
theorem f8_82 : FmAll Fmt8 82 := all_none (by kernel_rfl) (by kernel_rfl) f8_82_n
theorem f8_83_n : Fmt8 83 none := fun W c b o n cap => by kernel_rfl
theorem f8_83 : FmAll Fmt8 83 := all_none (by kernel_rfl) (by kernel_rfl) f8_83_n
theorem f8_84_n : Fmt8 84 none := fun W c b o n cap => by kernel_rfl
theorem f8_84 : FmAll Fmt8 84 := all_none (by kernel_rfl) (by kernel_rfl) f8_84_n
theorem f8_85_n : Fmt8 85 none := fun W c b o n cap => by kernel_rfl
theorem f8_85 : FmAll Fmt8 85 := all_none (by kernel_rfl) (by kernel_rfl) f8_85_n
theorem f8_86_n : Fmt8 86 none := fun W c b o n cap => by kernel_rfl
theorem f8_86 : FmAll Fmt8 86 := all_none (by kernel_rfl) (by kernel_rfl) f8_86_n
theorem f8_87_n : Fmt8 87 none := fun W c b o n cap => by kernel_rfl
theorem f8_87 : FmAll Fmt8 87 := all_none (by kernel_rfl) (by kernel_rfl) f8_87_n
theorem f8_88_n : Fmt8 88 none := fun W c b o n cap => by kernel_rfl
theorem f8_88 : FmAll Fmt8 88 := all_none (by kernel_rfl) (by kernel_rfl) f8_88_n
theorem f8_89_n : Fmt8 89 none := fun W c b o n cap => by kernel_rfl
theorem f8_89 : FmAll Fmt8 89 := all_none (by kernel_rfl) (by kernel_rfl) f8_89_n
theorem f8_90_n : Fmt8 90 none := fun W c b o n cap => by kernel_rfl
theorem f8_90 : FmAll Fmt8 90 := all_none (by kernel_rfl) (by kernel_rfl) f8_90_n
theorem f8_91_n : Fmt8 91 none := fun W c b o n cap => by kernel_rfl
theorem f8_91 : FmAll Fmt8 91 := all_none (by kernel_rfl) (by kernel_rfl) f8_91_n
theorem f8_92_n : Fmt8 92 none := fun W c b o n cap => by kernel_rfl
theorem f8_92 : FmAll Fmt8 92 := all_none (by kernel_rfl) (by kernel_rfl) f8_92_n
theorem f8_93_n : Fmt8 93 none := fun W c b o n cap => by kernel_rfl
theorem f8_93 : FmAll Fmt8 93 := all_none (by kernel_rfl) (by kernel_rfl) f8_93_n
theorem f8_94_n : Fmt8 94 none := fun W c b o n cap => by kernel_rfl
theorem f8_94 : FmAll Fmt8 94 := all_none (by kernel_rfl) (by kernel_rfl) f8_94_n
theorem f8_95_n : Fmt8 95 none := fun W c b o n cap => by kernel_rfl
theorem f8_95 : FmAll Fmt8 95 := all_none (by kernel_rfl) (by kernel_rfl) f8_95_n
theorem f8_96_n : Fmt8 96 none := fun W c b o n cap => by kernel_rfl
theorem f8_96 : FmAll Fmt8 96 := all_none (by kernel_rfl) (by kernel_rfl) f8_96_n
theorem f8_97_n : Fmt8 97 none := fun W c b o n cap => by kernel_rfl
theorem f8_97 : FmAll Fmt8 97 := all_none (by kernel_rfl) (by kernel_rfl) f8_97_n
theorem f8_98_n : Fmt8 98 none := fun W c b o n cap => by kernel_rfl
theorem f8_98 : FmAll Fmt8 98 := all_none (by kernel_rfl) (by kernel_rfl) f8_98_n
theorem f8_99_n : Fmt8 99 none := fun W c b o n cap => by kernel_rfl
theorem f8_99 : FmAll Fmt8 99 := all_none (by kernel_rfl) (by kernel_rfl) f8_99_n
theorem f8_100_n : Fmt8 100 none := fun W c b o n cap => by kernel_rfl
theorem f8_100 : FmAll Fmt8 100 := all_none (by kernel_rfl) (by kernel_rfl) f8_100_n
theorem f8_101_n : Fmt8 101 none := fun W c b o n cap => by kernel_rfl
theorem f8_101 : FmAll Fmt8 101 := all_none (by kernel_rfl) (by kernel_rfl) f8_101_n
theorem f8_102_n : Fmt8 102 none := fun W c b o n cap => by kernel_rfl
theorem f8_102 : FmAll Fmt8 102 := all_none (by kernel_rfl) (by kernel_rfl) f8_102_n
theorem f8_103_n : Fmt8 103 none := fun W c b o n cap => by kernel_rfl
theorem f8_103 : FmAll Fmt8 103 := all_none (by kernel_rfl) (by kernel_rfl) f8_103_n
theorem f8_104_n : Fmt8 104 none := fun W c b o n cap => by kernel_rfl
theorem f8_104 : FmAll Fmt8 104 := all_none (by kernel_rfl) (by kernel_rfl) f8_104_n
theorem f8_105_n : Fmt8 105 none := fun W c b o n cap => by kernel_rfl
theorem f8_105 : FmAll Fmt8 105 := all_none (by kernel_rfl) (by kernel_rfl) f8_105_n
theorem f8_106_n : Fmt8 106 none := fun W c b o n cap => by kernel_rfl
theorem f8_106 : FmAll Fmt8 106 := all_none (by kernel_rfl) (by kernel_rfl) f8_106_n
theorem f8_107_n : Fmt8 107 none := fun W c b o n cap => by kernel_rfl
theorem f8_107 : FmAll Fmt8 107 := all_none (by kernel_rfl) (by kernel_rfl) f8_107_n
theorem f8_108_n : Fmt8 108 none := fun W c b o n cap => by kernel_rfl
theorem f8_108 : FmAll Fmt8 108 := all_none (by kernel_rfl) (by kernel_rfl) f8_108_n
theorem f8_109_n : Fmt8 109 none := fun W c b o n cap => by kernel_rfl
theorem f8_109 : FmAll Fmt8 109 := all_none (by kernel_rfl) (by kernel_rfl) f8_109_n
theorem f8_110_n : Fmt8 110 none := fun W c b o n cap => by kernel_rfl
theorem f8_110 : FmAll Fmt8 110 := all_none (by kernel_rfl) (by kernel_rfl) f8_110_n
theorem f8_111_n : Fmt8 111 none := fun W c b o n cap => by kernel_rfl
theorem f8_111 : FmAll Fmt8 111 := all_none (by kernel_rfl) (by kernel_rfl) f8_111_n
theorem f8_112_n : Fmt8 112 none := fun W c b o n cap => by kernel_rfl
theorem f8_112 : FmAll Fmt8 112 := all_none (by kernel_rfl) (by kernel_rfl) f8_112_n
theorem f8_113_n : Fmt8 113 none := fun W c b o n cap => by kernel_rfl
theorem f8_113 : FmAll Fmt8 113 := all_none (by kernel_rfl) (by kernel_rfl) f8_113_n
theorem f8_114_n : Fmt8 114 none := fun W c b o n cap => by kernel_rfl
theorem f8_114 : FmAll Fmt8 114 := all_none (by kernel_rfl) (by kernel_rfl) f8_114_n
theorem f8_115_n : Fmt8 115 none := fun W c b o n cap => by kernel_rfl
theorem f8_115 : FmAll Fmt8 115 := all_none (by kernel_rfl) (by kernel_rfl) f8_115_n
theorem f8_116_n : Fmt8 116 none := fun W c b o n cap => by kernel_rfl
theorem f8_116 : FmAll Fmt8 116 := all_none (by kernel_rfl) (by kernel_rfl) f8_116_n
theorem f8_117_n : Fmt8 117 none := fun W c b o n cap => by kernel_rfl
theorem f8_117 : FmAll Fmt8 117 := all_none (by kernel_rfl) (by kernel_rfl) f8_117_n
theorem f8_118_n : Fmt8 118 none := fun W c b o n cap => by kernel_rfl
theorem f8_118 : FmAll Fmt8 118 := all_none (by kernel_rfl) (by kernel_rfl) f8_118_n
theorem f8_119_n : Fmt8 119 none := fun W c b o n cap => by kernel_rfl
theorem f8_119 : FmAll Fmt8 119 := all_none (by kernel_rfl) (by kernel_rfl) f8_119_n
theorem f8_120_n : Fmt8 120 none := fun W c b o n cap => by kernel_rfl
theorem f8_120 : FmAll Fmt8 120 := all_none (by kernel_rfl) (by kernel_rfl) f8_120_n
theorem f8_121_n : Fmt8 121 none := fun W c b o n cap => by kernel_rfl
theorem f8_121 : FmAll Fmt8 121 := all_none (by kernel_rfl) (by kernel_rfl) f8_121_n
theorem f8_122_n : Fmt8 122 none := fun W c b o n cap => by kernel_rfl
theorem f8_122 : FmAll Fmt8 122 := all_none (by kernel_rfl) (by kernel_rfl) f8_122_n
theorem f8_123_n : Fmt8 123 none := fun W c b o n cap => by kernel_rfl
theorem f8_123 : FmAll Fmt8 123 := all_none (by kernel_rfl) (by kernel_rfl) f8_123_n
theorem f8_124_n : Fmt8 124 none := fun W c b o n cap => by kernel_rfl
theorem f8_124 : FmAll Fmt8 124 := all_none (by kernel_rfl) (by kernel_rfl) f8_124_n
theorem f8_125_n : Fmt8 125 none := fun W c b o n cap => by kernel_rfl
theorem f8_125 : FmAll Fmt8 125 := all_none (by kernel_rfl) (by kernel_rfl) f8_125_n
theorem f8_126_n : Fmt8 126 none := fun W c b o n cap => by kernel_rfl
theorem f8_126 : FmAll Fmt8 126 := all_none (by kernel_rfl) (by kernel_rfl) f8_126_n
theorem f8_127_n : Fmt8 127 none := fun W c b o n cap => by kernel_rfl
theorem f8_127 : FmAll Fmt8 127 := all_none (by kernel_rfl) (by kernel_rfl) f8_127_n
theorem f8_64_128 (v : Nat) (h : 64 ≤ v) (h' : v < 128) : FmAll Fmt8 v := by
  rcases Nat.lt_or_ge v 96 with h2 | h2
  · skip
    rcases Nat.lt_or_ge v 80 with h4 | h4
    · skip
      rcases Nat.lt_or_ge v 72 with h6 | h6
      · skip
        rcases Nat.lt_or_ge v 68 with h8 | h8
        · skip
          rcases Nat.lt_or_ge v 66 with h10 | h10
          · skip
            rcases Nat.lt_or_ge v 65 with h12 | h12
            · skip
              obtain rfl : v = 64 := by omega
              exact f8_64
            · skip
              obtain rfl : v = 65 := by omega
              exact f8_65
          · skip
            rcases Nat.lt_or_ge v 67 with h12 | h12
            · skip
              obtain rfl : v = 66 := by omega
              exact f8_66
            · skip
              obtain rfl : v = 67 := by omega
              exact f8_67
        · skip
          rcases Nat.lt_or_ge v 70 with h10 | h10
          · skip
            rcases Nat.lt_or_ge v 69 with h12 | h12
            · skip
              obtain rfl : v = 68 := by omega
              exact f8_68
            · skip
              obtain rfl : v = 69 := by omega
              exact f8_69
          · skip
            rcases Nat.lt_or_ge v 71 with h12 | h12
            · skip
              obtain rfl : v = 70 := by omega
              exact f8_70
            · skip
              obtain rfl : v = 71 := by omega
              exact f8_71
      · skip
        rcases Nat.lt_or_ge v 76 with h8 | h8
        · skip
          rcases Nat.lt_or_ge v 74 with h10 | h10
          · skip
            rcases Nat.lt_or_ge v 73 with h12 | h12
            · skip
              obtain rfl : v = 72 := by omega
              exact f8_72
            · skip
              obtain rfl : v = 73 := by omega
              exact f8_73
          · skip
            rcases Nat.lt_or_ge v 75 with h12 | h12
            · skip
              obtain rfl : v = 74 := by omega
              exact f8_74
            · skip
              obtain rfl : v = 75 := by omega
              exact f8_75
        · skip
          rcases Nat.lt_or_ge v 78 with h10 | h10
          · skip
            rcases Nat.lt_or_ge v 77 with h12 | h12
            · skip
              obtain rfl : v = 76 := by omega
              exact f8_76
            · skip
              obtain rfl : v = 77 := by omega
              exact f8_77
          · skip
            rcases Nat.lt_or_ge v 79 with h12 | h12
            · skip
              obtain rfl : v = 78 := by omega
              exact f8_78
            · skip
              obtain rfl : v = 79 := by omega
              exact f8_79
    · skip
      rcases Nat.lt_or_ge v 88 with h6 | h6
      · skip
        rcases Nat.lt_or_ge v 84 with h8 | h8
        · skip
          rcases Nat.lt_or_ge v 82 with h10 | h10
          · skip
            rcases Nat.lt_or_ge v 81 with h12 | h12
            · skip
              obtain rfl : v = 80 := by omega
              exact f8_80
            · skip
              obtain rfl : v = 81 := by omega
              exact f8_81
          · skip
            rcases Nat.lt_or_ge v 83 with h12 | h12
            · skip
              obtain rfl : v = 82 := by omega
              exact f8_82
            · skip
              obtain rfl : v = 83 := by omega
              exact f8_83
        · skip
          rcases Nat.lt_or_ge v 86 with h10 | h10
          · skip
            rcases Nat.lt_or_ge v 85 with h12 | h12
            · skip
              obtain rfl : v = 84 := by omega
              exact f8_84
            · skip
              obtain rfl : v = 85 := by omega
              exact f8_85
          · skip
            rcases Nat.lt_or_ge v 87 with h12 | h12
            · skip
              obtain rfl : v = 86 := by omega
              exact f8_86
            · skip
              obtain rfl : v = 87 := by omega
              exact f8_87
      · skip
        rcases Nat.lt_or_ge v 92 with h8 | h8
        · skip
          rcases Nat.lt_or_ge v 90 with h10 | h10
          · skip
            rcases Nat.lt_or_ge v 89 with h12 | h12
            · skip
              obtain rfl : v = 88 := by omega
              exact f8_88
            · skip
              obtain rfl : v = 89 := by omega
              exact f8_89
          · skip
            rcases Nat.lt_or_ge v 91 with h12 | h12
            · skip
              obtain rfl : v = 90 := by omega
              exact f8_90
            · skip
              obtain rfl : v = 91 := by omega
              exact f8_91
        · skip
          rcases Nat.lt_or_ge v 94 with h10 | h10
          · skip
            rcases Nat.lt_or_ge v 93 with h12 | h12
            · skip
              obtain rfl : v = 92 := by omega
              exact f8_92
            · skip
              obtain rfl : v = 93 := by omega
              exact f8_93
          · skip
            rcases Nat.lt_or_ge v 95 with h12 | h12
            · skip
              obtain rfl : v = 94 := by omega
              exact f8_94
            · skip
              obtain rfl : v = 95 := by omega
              exact f8_95
  · skip
    rcases Nat.lt_or_ge v 112 with h4 | h4
    · skip
      rcases Nat.lt_or_ge v 104 with h6 | h6
      · skip
        rcases Nat.lt_or_ge v 100 with h8 | h8
        · skip
          rcases Nat.lt_or_ge v 98 with h10 | h10
          · skip
            rcases Nat.lt_or_ge v 97 with h12 | h12
            · skip
              obtain rfl : v = 96 := by omega
              exact f8_96
            · skip
              obtain rfl : v = 97 := by omega
              exact f8_97
          · skip
            rcases Nat.lt_or_ge v 99 with h12 | h12
            · skip
              obtain rfl : v = 98 := by omega
              exact f8_98
            · skip
              obtain rfl : v = 99 := by omega
              exact f8_99
        · skip
          rcases Nat.lt_or_ge v 102 with h10 | h10
          · skip
            rcases Nat.lt_or_ge v 101 with h12 | h12
            · skip
              obtain rfl : v = 100 := by omega
              exact f8_100
            · skip
              obtain rfl : v = 101 := by omega
              exact f8_101
          · skip
            rcases Nat.lt_or_ge v 103 with h12 | h12
            · skip
              obtain rfl : v = 102 := by omega
              exact f8_102
            · skip
              obtain rfl : v = 103 := by omega
              exact f8_103
      · skip
        rcases Nat.lt_or_ge v 108 with h8 | h8
        · skip
          rcases Nat.lt_or_ge v 106 with h10 | h10
          · skip
            rcases Nat.lt_or_ge v 105 with h12 | h12
            · skip
              obtain rfl : v = 104 := by omega
              exact f8_104
            · skip
              obtain rfl : v = 105 := by omega
              exact f8_105
          · skip
            rcases Nat.lt_or_ge v 107 with h12 | h12
            · skip
              obtain rfl : v = 106 := by omega
              exact f8_106
            · skip
              obtain rfl : v = 107 := by omega
              exact f8_107
        · skip
          rcases Nat.lt_or_ge v 110 with h10 | h10
          · skip
            rcases Nat.lt_or_ge v 109 with h12 | h12
            · skip
              obtain rfl : v = 108 := by omega
              exact f8_108
            · skip
              obtain rfl : v = 109 := by omega
              exact f8_109
          · skip
            rcases Nat.lt_or_ge v 111 with h12 | h12
            · skip
              obtain rfl : v = 110 := by omega
              exact f8_110
            · skip
              obtain rfl : v = 111 := by omega
              exact f8_111
    · skip
      rcases Nat.lt_or_ge v 120 with h6 | h6
      · skip
        rcases Nat.lt_or_ge v 116 with h8 | h8
        · skip
          rcases Nat.lt_or_ge v 114 with h10 | h10
          · skip
            rcases Nat.lt_or_ge v 113 with h12 | h12
            · skip
              obtain rfl : v = 112 := by omega
              exact f8_112
            · skip
              obtain rfl : v = 113 := by omega
              exact f8_113
          · skip
            rcases Nat.lt_or_ge v 115 with h12 | h12
            · skip
              obtain rfl : v = 114 := by omega
              exact f8_114
            · skip
              obtain rfl : v = 115 := by omega
              exact f8_115
        · skip
          rcases Nat.lt_or_ge v 118 with h10 | h10
          · skip
            rcases Nat.lt_or_ge v 117 with h12 | h12
            · skip
              obtain rfl : v = 116 := by omega
              exact f8_116
            · skip
              obtain rfl : v = 117 := by omega
              exact f8_117
          · skip
            rcases Nat.lt_or_ge v 119 with h12 | h12
            · skip
              obtain rfl : v = 118 := by omega
              exact f8_118
            · skip
              obtain rfl : v = 119 := by omega
              exact f8_119
      · skip
        rcases Nat.lt_or_ge v 124 with h8 | h8
        · skip
          rcases Nat.lt_or_ge v 122 with h10 | h10
          · skip
            rcases Nat.lt_or_ge v 121 with h12 | h12
            · skip
              obtain rfl : v = 120 := by omega
              exact f8_120
            · skip
              obtain rfl : v = 121 := by omega
              exact f8_121
          · skip
            rcases Nat.lt_or_ge v 123 with h12 | h12
            · skip
              obtain rfl : v = 122 := by omega
              exact f8_122
            · skip
              obtain rfl : v = 123 := by omega
              exact f8_123
        · skip
          rcases Nat.lt_or_ge v 126 with h10 | h10
          · skip
            rcases Nat.lt_or_ge v 125 with h12 | h12
            · skip
              obtain rfl : v = 124 := by omega
              exact f8_124
            · skip
              obtain rfl : v = 125 := by omega
              exact f8_125
          · skip
            rcases Nat.lt_or_ge v 127 with h12 | h12
            · skip
              obtain rfl : v = 126 := by omega
              exact f8_126
            · skip
              obtain rfl : v = 127 := by omega
              exact f8_127
end Go.Proofs.YtdglgiaegjkinaaDoor

/- Format (the document) at the opcodes 128 to 191. Printed by mkfmt.py. -/

namespace Go.Proofs.YtdglgiaegjkinaaDoor
open Go Go.Sx
set_option maxRecDepth 100000
theorem f8_128_n : Fmt8 128 none := fun W c b o n cap => by kernel_rfl
theorem f8_128 : FmAll Fmt8 128 := all_none (by kernel_rfl) (by kernel_rfl) f8_128_n
theorem f8_129_n : Fmt8 129 none := fun W c b o n cap => by kernel_rfl
theorem f8_129 : FmAll Fmt8 129 := all_none (by kernel_rfl) (by kernel_rfl) f8_129_n
theorem f8_130_n : Fmt8 130 none := fun W c b o n cap => by kernel_rfl
theorem f8_130 : FmAll Fmt8 130 := all_none (by kernel_rfl) (by kernel_rfl) f8_130_n
theorem f8_131_n : Fmt8 131 none := fun W c b o n cap => by kernel_rfl
theorem f8_131 : FmAll Fmt8 131 := all_none (by kernel_rfl) (by kernel_rfl) f8_131_n
theorem f8_132_n : Fmt8 132 none := fun W c b o n cap => by kernel_rfl
theorem f8_132 : FmAll Fmt8 132 := all_none (by kernel_rfl) (by kernel_rfl) f8_132_n
theorem f8_133_n : Fmt8 133 none := fun W c b o n cap => by kernel_rfl
theorem f8_133 : FmAll Fmt8 133 := all_none (by kernel_rfl) (by kernel_rfl) f8_133_n
theorem f8_134_n : Fmt8 134 none := fun W c b o n cap => by kernel_rfl
theorem f8_134 : FmAll Fmt8 134 := all_none (by kernel_rfl) (by kernel_rfl) f8_134_n
theorem f8_135_n : Fmt8 135 none := fun W c b o n cap => by kernel_rfl
theorem f8_135 : FmAll Fmt8 135 := all_none (by kernel_rfl) (by kernel_rfl) f8_135_n
theorem f8_136_n : Fmt8 136 none := fun W c b o n cap => by kernel_rfl
theorem f8_136 : FmAll Fmt8 136 := all_none (by kernel_rfl) (by kernel_rfl) f8_136_n
theorem f8_137_n : Fmt8 137 none := fun W c b o n cap => by kernel_rfl
theorem f8_137 : FmAll Fmt8 137 := all_none (by kernel_rfl) (by kernel_rfl) f8_137_n
theorem f8_138_n : Fmt8 138 none := fun W c b o n cap => by kernel_rfl
theorem f8_138 : FmAll Fmt8 138 := all_none (by kernel_rfl) (by kernel_rfl) f8_138_n
theorem f8_139_n : Fmt8 139 none := fun W c b o n cap => by kernel_rfl
theorem f8_139 : FmAll Fmt8 139 := all_none (by kernel_rfl) (by kernel_rfl) f8_139_n
theorem f8_140_n : Fmt8 140 none := fun W c b o n cap => by kernel_rfl
theorem f8_140 : FmAll Fmt8 140 := all_none (by kernel_rfl) (by kernel_rfl) f8_140_n
theorem f8_141_n : Fmt8 141 none := fun W c b o n cap => by kernel_rfl
theorem f8_141 : FmAll Fmt8 141 := all_none (by kernel_rfl) (by kernel_rfl) f8_141_n
theorem f8_142_n : Fmt8 142 none := fun W c b o n cap => by kernel_rfl
theorem f8_142 : FmAll Fmt8 142 := all_none (by kernel_rfl) (by kernel_rfl) f8_142_n
theorem f8_143_n : Fmt8 143 none := fun W c b o n cap => by kernel_rfl
theorem f8_143 : FmAll Fmt8 143 := all_none (by kernel_rfl) (by kernel_rfl) f8_143_n
theorem f8_144_n : Fmt8 144 none := fun W c b o n cap => by kernel_rfl
theorem f8_144 : FmAll Fmt8 144 := all_none (by kernel_rfl) (by kernel_rfl) f8_144_n
theorem f8_145_n : Fmt8 145 none := fun W c b o n cap => by kernel_rfl
theorem f8_145 : FmAll Fmt8 145 := all_none (by kernel_rfl) (by kernel_rfl) f8_145_n
theorem f8_146_n : Fmt8 146 none := fun W c b o n cap => by kernel_rfl
theorem f8_146 : FmAll Fmt8 146 := all_none (by kernel_rfl) (by kernel_rfl) f8_146_n
theorem f8_147_n : Fmt8 147 none := fun W c b o n cap => by kernel_rfl
theorem f8_147 : FmAll Fmt8 147 := all_none (by kernel_rfl) (by kernel_rfl) f8_147_n
theorem f8_148_n : Fmt8 148 none := fun W c b o n cap => by kernel_rfl
theorem f8_148 : FmAll Fmt8 148 := all_none (by kernel_rfl) (by kernel_rfl) f8_148_n
theorem f8_149_n : Fmt8 149 none := fun W c b o n cap => by kernel_rfl
theorem f8_149 : FmAll Fmt8 149 := all_none (by kernel_rfl) (by kernel_rfl) f8_149_n
theorem f8_150_n : Fmt8 150 none := fun W c b o n cap => by kernel_rfl
theorem f8_150 : FmAll Fmt8 150 := all_none (by kernel_rfl) (by kernel_rfl) f8_150_n
theorem f8_151_n : Fmt8 151 none := fun W c b o n cap => by kernel_rfl
theorem f8_151 : FmAll Fmt8 151 := all_none (by kernel_rfl) (by kernel_rfl) f8_151_n
theorem f8_152_n : Fmt8 152 none := fun W c b o n cap => by kernel_rfl
theorem f8_152 : FmAll Fmt8 152 := all_none (by kernel_rfl) (by kernel_rfl) f8_152_n
theorem f8_153_n : Fmt8 153 none := fun W c b o n cap => by kernel_rfl
theorem f8_153 : FmAll Fmt8 153 := all_none (by kernel_rfl) (by kernel_rfl) f8_153_n
theorem f8_154_n : Fmt8 154 none := fun W c b o n cap => by kernel_rfl
theorem f8_154 : FmAll Fmt8 154 := all_none (by kernel_rfl) (by kernel_rfl) f8_154_n
theorem f8_155_n : Fmt8 155 none := fun W c b o n cap => by kernel_rfl
theorem f8_155 : FmAll Fmt8 155 := all_none (by kernel_rfl) (by kernel_rfl) f8_155_n
theorem f8_156_n : Fmt8 156 none := fun W c b o n cap => by kernel_rfl
theorem f8_156 : FmAll Fmt8 156 := all_none (by kernel_rfl) (by kernel_rfl) f8_156_n
theorem f8_157_n : Fmt8 157 none := fun W c b o n cap => by kernel_rfl
theorem f8_157 : FmAll Fmt8 157 := all_none (by kernel_rfl) (by kernel_rfl) f8_157_n
theorem f8_158_n : Fmt8 158 none := fun W c b o n cap => by kernel_rfl
theorem f8_158 : FmAll Fmt8 158 := all_none (by kernel_rfl) (by kernel_rfl) f8_158_n
theorem f8_159_n : Fmt8 159 none := fun W c b o n cap => by kernel_rfl
theorem f8_159 : FmAll Fmt8 159 := all_none (by kernel_rfl) (by kernel_rfl) f8_159_n
theorem f8_160_n : Fmt8 160 none := fun W c b o n cap => by kernel_rfl
theorem f8_160 : FmAll Fmt8 160 := all_none (by kernel_rfl) (by kernel_rfl) f8_160_n
theorem f8_161_n : Fmt8 161 none := fun W c b o n cap => by kernel_rfl
theorem f8_161 : FmAll Fmt8 161 := all_none (by kernel_rfl) (by kernel_rfl) f8_161_n
theorem f8_162_n : Fmt8 162 none := fun W c b o n cap => by kernel_rfl
theorem f8_162 : FmAll Fmt8 162 := all_none (by kernel_rfl) (by kernel_rfl) f8_162_n
theorem f8_163_n : Fmt8 163 none := fun W c b o n cap => by kernel_rfl
theorem f8_163 : FmAll Fmt8 163 := all_none (by kernel_rfl) (by kernel_rfl) f8_163_n
theorem f8_164_n : Fmt8 164 none := fun W c b o n cap => by kernel_rfl
theorem f8_164 : FmAll Fmt8 164 := all_none (by kernel_rfl) (by kernel_rfl) f8_164_n
theorem f8_165_n : Fmt8 165 none := fun W c b o n cap => by kernel_rfl
theorem f8_165 : FmAll Fmt8 165 := all_none (by kernel_rfl) (by kernel_rfl) f8_165_n
theorem f8_166_n : Fmt8 166 none := fun W c b o n cap => by kernel_rfl
theorem f8_166 : FmAll Fmt8 166 := all_none (by kernel_rfl) (by kernel_rfl) f8_166_n
theorem f8_167_n : Fmt8 167 none := fun W c b o n cap => by kernel_rfl
theorem f8_167 : FmAll Fmt8 167 := all_none (by kernel_rfl) (by kernel_rfl) f8_167_n
theorem f8_168_n : Fmt8 168 none := fun W c b o n cap => by kernel_rfl
theorem f8_168 : FmAll Fmt8 168 := all_none (by kernel_rfl) (by kernel_rfl) f8_168_n
theorem f8_169_n : Fmt8 169 none := fun W c b o n cap => by kernel_rfl
theorem f8_169 : FmAll Fmt8 169 := all_none (by kernel_rfl) (by kernel_rfl) f8_169_n
theorem f8_170_n : Fmt8 170 none := fun W c b o n cap => by kernel_rfl
theorem f8_170 : FmAll Fmt8 170 := all_none (by kernel_rfl) (by kernel_rfl) f8_170_n
theorem f8_171_n : Fmt8 171 none := fun W c b o n cap => by kernel_rfl
theorem f8_171 : FmAll Fmt8 171 := all_none (by kernel_rfl) (by kernel_rfl) f8_171_n
theorem f8_172_n : Fmt8 172 none := fun W c b o n cap => by kernel_rfl
theorem f8_172 : FmAll Fmt8 172 := all_none (by kernel_rfl) (by kernel_rfl) f8_172_n
theorem f8_173_n : Fmt8 173 none := fun W c b o n cap => by kernel_rfl
theorem f8_173 : FmAll Fmt8 173 := all_none (by kernel_rfl) (by kernel_rfl) f8_173_n
theorem f8_174_n : Fmt8 174 none := fun W c b o n cap => by kernel_rfl
theorem f8_174 : FmAll Fmt8 174 := all_none (by kernel_rfl) (by kernel_rfl) f8_174_n
theorem f8_175_n : Fmt8 175 none := fun W c b o n cap => by kernel_rfl
theorem f8_175 : FmAll Fmt8 175 := all_none (by kernel_rfl) (by kernel_rfl) f8_175_n
theorem f8_176_n : Fmt8 176 none := fun W c b o n cap => by kernel_rfl
theorem f8_176 : FmAll Fmt8 176 := all_none (by kernel_rfl) (by kernel_rfl) f8_176_n
theorem f8_177_n : Fmt8 177 none := fun W c b o n cap => by kernel_rfl
theorem f8_177 : FmAll Fmt8 177 := all_none (by kernel_rfl) (by kernel_rfl) f8_177_n
theorem f8_178_n : Fmt8 178 none := fun W c b o n cap => by kernel_rfl
theorem f8_178 : FmAll Fmt8 178 := all_none (by kernel_rfl) (by kernel_rfl) f8_178_n
theorem f8_179_n : Fmt8 179 none := fun W c b o n cap => by kernel_rfl
theorem f8_179 : FmAll Fmt8 179 := all_none (by kernel_rfl) (by kernel_rfl) f8_179_n
theorem f8_180_n : Fmt8 180 none := fun W c b o n cap => by kernel_rfl
theorem f8_180 : FmAll Fmt8 180 := all_none (by kernel_rfl) (by kernel_rfl) f8_180_n
theorem f8_181_n : Fmt8 181 none := fun W c b o n cap => by kernel_rfl
theorem f8_181 : FmAll Fmt8 181 := all_none (by kernel_rfl) (by kernel_rfl) f8_181_n
theorem f8_182_n : Fmt8 182 none := fun W c b o n cap => by kernel_rfl
theorem f8_182 : FmAll Fmt8 182 := all_none (by kernel_rfl) (by kernel_rfl) f8_182_n
theorem f8_183_n : Fmt8 183 none := fun W c b o n cap => by kernel_rfl
theorem f8_183 : FmAll Fmt8 183 := all_none (by kernel_rfl) (by kernel_rfl) f8_183_n
theorem f8_184_n : Fmt8 184 none := fun W c b o n cap => by kernel_rfl
theorem f8_184 : FmAll Fmt8 184 := all_none (by kernel_rfl) (by kernel_rfl) f8_184_n
theorem f8_185_n : Fmt8 185 none := fun W c b o n cap => by kernel_rfl
theorem f8_185 : FmAll Fmt8 185 := all_none (by kernel_rfl) (by kernel_rfl) f8_185_n
theorem f8_186_n : Fmt8 186 none := fun W c b o n cap => by kernel_rfl
theorem f8_186 : FmAll Fmt8 186 := all_none (by kernel_rfl) (by kernel_rfl) f8_186_n
theorem f8_187_n : Fmt8 187 none := fun W c b o n cap => by kernel_rfl
theorem f8_187 : FmAll Fmt8 187 := all_none (by kernel_rfl) (by kernel_rfl) f8_187_n
theorem f8_188_n : Fmt8 188 none := fun W c b o n cap => by kernel_rfl
theorem f8_188 : FmAll Fmt8 188 := all_none (by kernel_rfl) (by kernel_rfl) f8_188_n
theorem f8_189_n : Fmt8 189 none := fun W c b o n cap => by kernel_rfl
theorem f8_189 : FmAll Fmt8 189 := all_none (by kernel_rfl) (by kernel_rfl) f8_189_n
theorem f8_190_n : Fmt8 190 none := fun W c b o n cap => by kernel_rfl
theorem f8_190 : FmAll Fmt8 190 := all_none (by kernel_rfl) (by kernel_rfl) f8_190_n
theorem f8_191_n : Fmt8 191 none := fun W c b o n cap => by kernel_rfl
theorem f8_191 : FmAll Fmt8 191 := all_none (by kernel_rfl) (by kernel_rfl) f8_191_n
theorem f8_128_192 (v : Nat) (h : 128 ≤ v) (h' : v < 192) : FmAll Fmt8 v := by
  rcases Nat.lt_or_ge v 160 with h2 | h2
  · skip
    rcases Nat.lt_or_ge v 144 with h4 | h4
    · skip
      rcases Nat.lt_or_ge v 136 with h6 | h6
      · skip
        rcases Nat.lt_or_ge v 132 with h8 | h8
        · skip
          rcases Nat.lt_or_ge v 130 with h10 | h10
          · skip
            rcases Nat.lt_or_ge v 129 with h12 | h12
            · skip
              obtain rfl : v = 128 := by omega
              exact f8_128
            · skip
              obtain rfl : v = 129 := by omega
              exact f8_129
          · skip
            rcases Nat.lt_or_ge v 131 with h12 | h12
            · skip
              obtain rfl : v = 130 := by omega
              exact f8_130
            · skip
              obtain rfl : v = 131 := by omega
              exact f8_131
        · skip
          rcases Nat.lt_or_ge v 134 with h10 | h10
          · skip
            rcases Nat.lt_or_ge v 133 with h12 | h12
            · skip
              obtain rfl : v = 132 := by omega
              exact f8_132
            · skip
              obtain rfl : v = 133 := by omega
              exact f8_133
          · skip
            rcases Nat.lt_or_ge v 135 with h12 | h12
            · skip
              obtain rfl : v = 134 := by omega
              exact f8_134
            · skip
              obtain rfl : v = 135 := by omega
              exact f8_135
      · skip
        rcases Nat.lt_or_ge v 140 with h8 | h8
        · skip
          rcases Nat.lt_or_ge v 138 with h10 | h10
          · skip
            rcases Nat.lt_or_ge v 137 with h12 | h12
            · skip
              obtain rfl : v = 136 := by omega
              exact f8_136
            · skip
              obtain rfl : v = 137 := by omega
              exact f8_137
          · skip
            rcases Nat.lt_or_ge v 139 with h12 | h12
            · skip
              obtain rfl : v = 138 := by omega
              exact f8_138
            · skip
              obtain rfl : v = 139 := by omega
              exact f8_139
        · skip
          rcases Nat.lt_or_ge v 142 with h10 | h10
          · skip
            rcases Nat.lt_or_ge v 141 with h12 | h12
            · skip
              obtain rfl : v = 140 := by omega
              exact f8_140
            · skip
              obtain rfl : v = 141 := by omega
              exact f8_141
          · skip
            rcases Nat.lt_or_ge v 143 with h12 | h12
            · skip
              obtain rfl : v = 142 := by omega
              exact f8_142
            · skip
              obtain rfl : v = 143 := by omega
              exact f8_143
    · skip
      rcases Nat.lt_or_ge v 152 with h6 | h6
      · skip
        rcases Nat.lt_or_ge v 148 with h8 | h8
        · skip
          rcases Nat.lt_or_ge v 146 with h10 | h10
          · skip
            rcases Nat.lt_or_ge v 145 with h12 | h12
            · skip
              obtain rfl : v = 144 := by omega
              exact f8_144
            · skip
              obtain rfl : v = 145 := by omega
              exact f8_145
          · skip
            rcases Nat.lt_or_ge v 147 with h12 | h12
            · skip
              obtain rfl : v = 146 := by omega
              exact f8_146
            · skip
              obtain rfl : v = 147 := by omega
              exact f8_147
        · skip
          rcases Nat.lt_or_ge v 150 with h10 | h10
          · skip
            rcases Nat.lt_or_ge v 149 with h12 | h12
            · skip
              obtain rfl : v = 148 := by omega
              exact f8_148
            · skip
              obtain rfl : v = 149 := by omega
              exact f8_149
          · skip
            rcases Nat.lt_or_ge v 151 with h12 | h12
            · skip
              obtain rfl : v = 150 := by omega
              exact f8_150
            · skip
              obtain rfl : v = 151 := by omega
              exact f8_151
      · skip
        rcases Nat.lt_or_ge v 156 with h8 | h8
        · skip
          rcases Nat.lt_or_ge v 154 with h10 | h10
          · skip
            rcases Nat.lt_or_ge v 153 with h12 | h12
            · skip
              obtain rfl : v = 152 := by omega
              exact f8_152
            · skip
              obtain rfl : v = 153 := by omega
              exact f8_153
          · skip
            rcases Nat.lt_or_ge v 155 with h12 | h12
            · skip
              obtain rfl : v = 154 := by omega
              exact f8_154
            · skip
              obtain rfl : v = 155 := by omega
              exact f8_155
        · skip
          rcases Nat.lt_or_ge v 158 with h10 | h10
          · skip
            rcases Nat.lt_or_ge v 157 with h12 | h12
            · skip
              obtain rfl : v = 156 := by omega
              exact f8_156
            · skip
              obtain rfl : v = 157 := by omega
              exact f8_157
          · skip
            rcases Nat.lt_or_ge v 159 with h12 | h12
            · skip
              obtain rfl : v = 158 := by omega
              exact f8_158
            · skip
              obtain rfl : v = 159 := by omega
              exact f8_159
  · skip
    rcases Nat.lt_or_ge v 176 with h4 | h4
    · skip
      rcases Nat.lt_or_ge v 168 with h6 | h6
      · skip
        rcases Nat.lt_or_ge v 164 with h8 | h8
        · skip
          rcases Nat.lt_or_ge v 162 with h10 | h10
          · skip
            rcases Nat.lt_or_ge v 161 with h12 | h12
            · skip
              obtain rfl : v = 160 := by omega
              exact f8_160
            · skip
              obtain rfl : v = 161 := by omega
              exact f8_161
          · skip
            rcases Nat.lt_or_ge v 163 with h12 | h12
            · skip
              obtain rfl : v = 162 := by omega
              exact f8_162
            · skip
              obtain rfl : v = 163 := by omega
              exact f8_163
        · skip
          rcases Nat.lt_or_ge v 166 with h10 | h10
          · skip
            rcases Nat.lt_or_ge v 165 with h12 | h12
            · skip
              obtain rfl : v = 164 := by omega
              exact f8_164
            · skip
              obtain rfl : v = 165 := by omega
              exact f8_165
          · skip
            rcases Nat.lt_or_ge v 167 with h12 | h12
            · skip
              obtain rfl : v = 166 := by omega
              exact f8_166
            · skip
              obtain rfl : v = 167 := by omega
              exact f8_167
      · skip
        rcases Nat.lt_or_ge v 172 with h8 | h8
        · skip
          rcases Nat.lt_or_ge v 170 with h10 | h10
          · skip
            rcases Nat.lt_or_ge v 169 with h12 | h12
            · skip
              obtain rfl : v = 168 := by omega
              exact f8_168
            · skip
              obtain rfl : v = 169 := by omega
              exact f8_169
          · skip
            rcases Nat.lt_or_ge v 171 with h12 | h12
            · skip
              obtain rfl : v = 170 := by omega
              exact f8_170
            · skip
              obtain rfl : v = 171 := by omega
              exact f8_171
        · skip
          rcases Nat.lt_or_ge v 174 with h10 | h10
          · skip
            rcases Nat.lt_or_ge v 173 with h12 | h12
            · skip
              obtain rfl : v = 172 := by omega
              exact f8_172
            · skip
              obtain rfl : v = 173 := by omega
              exact f8_173
          · skip
            rcases Nat.lt_or_ge v 175 with h12 | h12
            · skip
              obtain rfl : v = 174 := by omega
              exact f8_174
            · skip
              obtain rfl : v = 175 := by omega
              exact f8_175
    · skip
      rcases Nat.lt_or_ge v 184 with h6 | h6
      · skip
        rcases Nat.lt_or_ge v 180 with h8 | h8
        · skip
          rcases Nat.lt_or_ge v 178 with h10 | h10
          · skip
            rcases Nat.lt_or_ge v 177 with h12 | h12
            · skip
              obtain rfl : v = 176 := by omega
              exact f8_176
            · skip
              obtain rfl : v = 177 := by omega
              exact f8_177
          · skip
            rcases Nat.lt_or_ge v 179 with h12 | h12
            · skip
              obtain rfl : v = 178 := by omega
              exact f8_178
            · skip
              obtain rfl : v = 179 := by omega
              exact f8_179
        · skip
          rcases Nat.lt_or_ge v 182 with h10 | h10
          · skip
            rcases Nat.lt_or_ge v 181 with h12 | h12
            · skip
              obtain rfl : v = 180 := by omega
              exact f8_180
            · skip
              obtain rfl : v = 181 := by omega
              exact f8_181
          · skip
            rcases Nat.lt_or_ge v 183 with h12 | h12
            · skip
              obtain rfl : v = 182 := by omega
              exact f8_182
            · skip
              obtain rfl : v = 183 := by omega
              exact f8_183
      · skip
        rcases Nat.lt_or_ge v 188 with h8 | h8
        · skip
          rcases Nat.lt_or_ge v 186 with h10 | h10
          · skip
            rcases Nat.lt_or_ge v 185 with h12 | h12
            · skip
              obtain rfl : v = 184 := by omega
              exact f8_184
            · skip
              obtain rfl : v = 185 := by omega
              exact f8_185
          · skip
            rcases Nat.lt_or_ge v 187 with h12 | h12
            · skip
              obtain rfl : v = 186 := by omega
              exact f8_186
            · skip
              obtain rfl : v = 187 := by omega
              exact f8_187
        · skip
          rcases Nat.lt_or_ge v 190 with h10 | h10
          · skip
            rcases Nat.lt_or_ge v 189 with h12 | h12
            · skip
              obtain rfl : v = 188 := by omega
              exact f8_188
            · skip
              obtain rfl : v = 189 := by omega
              exact f8_189
          · skip
            rcases Nat.lt_or_ge v 191 with h12 | h12
            · skip
              obtain rfl : v = 190 := by omega
              exact f8_190
            · skip
              obtain rfl : v = 191 := by omega
              exact f8_191
end Go.Proofs.YtdglgiaegjkinaaDoor

/- Format (the document) at the opcodes 192 to 255. Printed by mkfmt.py. -/

namespace Go.Proofs.YtdglgiaegjkinaaDoor
open Go Go.Sx
set_option maxRecDepth 100000
theorem f8_192_n : Fmt8 192 none := fun W c b o n cap => by kernel_rfl
theorem f8_192 : FmAll Fmt8 192 := all_none (by kernel_rfl) (by kernel_rfl) f8_192_n
theorem f8_193_n : Fmt8 193 none := fun W c b o n cap => by kernel_rfl
theorem f8_193 : FmAll Fmt8 193 := all_none (by kernel_rfl) (by kernel_rfl) f8_193_n
theorem f8_194_n : Fmt8 194 none := fun W c b o n cap => by kernel_rfl
theorem f8_194 : FmAll Fmt8 194 := all_none (by kernel_rfl) (by kernel_rfl) f8_194_n
theorem f8_195_n : Fmt8 195 none := fun W c b o n cap => by kernel_rfl
theorem f8_195 : FmAll Fmt8 195 := all_none (by kernel_rfl) (by kernel_rfl) f8_195_n
theorem f8_196_n : Fmt8 196 none := fun W c b o n cap => by kernel_rfl
theorem f8_196 : FmAll Fmt8 196 := all_none (by kernel_rfl) (by kernel_rfl) f8_196_n
theorem f8_197_n : Fmt8 197 none := fun W c b o n cap => by kernel_rfl
theorem f8_197 : FmAll Fmt8 197 := all_none (by kernel_rfl) (by kernel_rfl) f8_197_n
theorem f8_198_n : Fmt8 198 none := fun W c b o n cap => by kernel_rfl
theorem f8_198 : FmAll Fmt8 198 := all_none (by kernel_rfl) (by kernel_rfl) f8_198_n
theorem f8_199_n : Fmt8 199 none := fun W c b o n cap => by kernel_rfl
theorem f8_199 : FmAll Fmt8 199 := all_none (by kernel_rfl) (by kernel_rfl) f8_199_n
theorem f8_200_n : Fmt8 200 none := fun W c b o n cap => by kernel_rfl
theorem f8_200 : FmAll Fmt8 200 := all_none (by kernel_rfl) (by kernel_rfl) f8_200_n
theorem f8_201_n : Fmt8 201 none := fun W c b o n cap => by kernel_rfl
theorem f8_201 : FmAll Fmt8 201 := all_none (by kernel_rfl) (by kernel_rfl) f8_201_n
theorem f8_202_n : Fmt8 202 none := fun W c b o n cap => by kernel_rfl
theorem f8_202 : FmAll Fmt8 202 := all_none (by kernel_rfl) (by kernel_rfl) f8_202_n
theorem f8_203_t : Fmt8 203 (some true) := fun W c b o n cap => by kernel_rfl
theorem f8_203_f : Fmt8 203 (some false) := fun W c b o n cap => by kernel_rfl
theorem f8_203 : FmAll Fmt8 203 := all_some f8_203_t f8_203_f
theorem f8_204_n : Fmt8 204 none := fun W c b o n cap => by kernel_rfl
theorem f8_204 : FmAll Fmt8 204 := all_none (by kernel_rfl) (by kernel_rfl) f8_204_n
theorem f8_205_n : Fmt8 205 none := fun W c b o n cap => by kernel_rfl
theorem f8_205 : FmAll Fmt8 205 := all_none (by kernel_rfl) (by kernel_rfl) f8_205_n
theorem f8_206_n : Fmt8 206 none := fun W c b o n cap => by kernel_rfl
theorem f8_206 : FmAll Fmt8 206 := all_none (by kernel_rfl) (by kernel_rfl) f8_206_n
theorem f8_207_n : Fmt8 207 none := fun W c b o n cap => by kernel_rfl
theorem f8_207 : FmAll Fmt8 207 := all_none (by kernel_rfl) (by kernel_rfl) f8_207_n
theorem f8_208_n : Fmt8 208 none := fun W c b o n cap => by kernel_rfl
theorem f8_208 : FmAll Fmt8 208 := all_none (by kernel_rfl) (by kernel_rfl) f8_208_n
theorem f8_209_n : Fmt8 209 none := fun W c b o n cap => by kernel_rfl
theorem f8_209 : FmAll Fmt8 209 := all_none (by kernel_rfl) (by kernel_rfl) f8_209_n
theorem f8_210_n : Fmt8 210 none := fun W c b o n cap => by kernel_rfl
theorem f8_210 : FmAll Fmt8 210 := all_none (by kernel_rfl) (by kernel_rfl) f8_210_n
theorem f8_211_n : Fmt8 211 none := fun W c b o n cap => by kernel_rfl
theorem f8_211 : FmAll Fmt8 211 := all_none (by kernel_rfl) (by kernel_rfl) f8_211_n
theorem f8_212_n : Fmt8 212 none := fun W c b o n cap => by kernel_rfl
theorem f8_212 : FmAll Fmt8 212 := all_none (by kernel_rfl) (by kernel_rfl) f8_212_n
theorem f8_213_n : Fmt8 213 none := fun W c b o n cap => by kernel_rfl
theorem f8_213 : FmAll Fmt8 213 := all_none (by kernel_rfl) (by kernel_rfl) f8_213_n
theorem f8_214_n : Fmt8 214 none := fun W c b o n cap => by kernel_rfl
theorem f8_214 : FmAll Fmt8 214 := all_none (by kernel_rfl) (by kernel_rfl) f8_214_n
theorem f8_215_n : Fmt8 215 none := fun W c b o n cap => by kernel_rfl
theorem f8_215 : FmAll Fmt8 215 := all_none (by kernel_rfl) (by kernel_rfl) f8_215_n
theorem f8_216_n : Fmt8 216 none := fun W c b o n cap => by kernel_rfl
theorem f8_216 : FmAll Fmt8 216 := all_none (by kernel_rfl) (by kernel_rfl) f8_216_n
theorem f8_217_t : Fmt8 217 (some true) := fun W c b o n cap => by kernel_rfl
theorem f8_217_f : Fmt8 217 (some false) := fun W c b o n cap => by kernel_rfl
theorem f8_217 : FmAll Fmt8 217 := all_some f8_217_t f8_217_f
theorem f8_218_n : Fmt8 218 none := fun W c b o n cap => by kernel_rfl
theorem f8_218 : FmAll Fmt8 218 := all_none (by kernel_rfl) (by kernel_rfl) f8_218_n
theorem f8_219_n : Fmt8 219 none := fun W c b o n cap => by kernel_rfl
theorem f8_219 : FmAll Fmt8 219 := all_none (by kernel_rfl) (by kernel_rfl) f8_219_n
theorem f8_220_n : Fmt8 220 none := fun W c b o n cap => by kernel_rfl
theorem f8_220 : FmAll Fmt8 220 := all_none (by kernel_rfl) (by kernel_rfl) f8_220_n
theorem f8_221_t : Fmt8 221 (some true) := fun W c b o n cap => by kernel_rfl
theorem f8_221_f : Fmt8 221 (some false) := fun W c b o n cap => by kernel_rfl
theorem f8_221 : FmAll Fmt8 221 := all_some f8_221_t f8_221_f
theorem f8_222_n : Fmt8 222 none := fun W c b o n cap => by kernel_rfl
theorem f8_222 : FmAll Fmt8 222 := all_none (by kernel_rfl) (by kernel_rfl) f8_222_n
theorem f8_223_n : Fmt8 223 none := fun W c b o n cap => by kernel_rfl
theorem f8_223 : FmAll Fmt8 223 := all_none (by kernel_rfl) (by kernel_rfl) f8_223_n
theorem f8_224_n : Fmt8 224 none := fun W c b o n cap => by kernel_rfl
theorem f8_224 : FmAll Fmt8 224 := all_none (by kernel_rfl) (by kernel_rfl) f8_224_n
theorem f8_225_n : Fmt8 225 none := fun W c b o n cap => by kernel_rfl
theorem f8_225 : FmAll Fmt8 225 := all_none (by kernel_rfl) (by kernel_rfl) f8_225_n
theorem f8_226_n : Fmt8 226 none := fun W c b o n cap => by kernel_rfl
theorem f8_226 : FmAll Fmt8 226 := all_none (by kernel_rfl) (by kernel_rfl) f8_226_n
theorem f8_227_n : Fmt8 227 none := fun W c b o n cap => by kernel_rfl
theorem f8_227 : FmAll Fmt8 227 := all_none (by kernel_rfl) (by kernel_rfl) f8_227_n
theorem f8_228_n : Fmt8 228 none := fun W c b o n cap => by kernel_rfl
theorem f8_228 : FmAll Fmt8 228 := all_none (by kernel_rfl) (by kernel_rfl) f8_228_n
theorem f8_229_n : Fmt8 229 none := fun W c b o n cap => by kernel_rfl
theorem f8_229 : FmAll Fmt8 229 := all_none (by kernel_rfl) (by kernel_rfl) f8_229_n
theorem f8_230_n : Fmt8 230 none := fun W c b o n cap => by kernel_rfl
theorem f8_230 : FmAll Fmt8 230 := all_none (by kernel_rfl) (by kernel_rfl) f8_230_n
theorem f8_231_n : Fmt8 231 none := fun W c b o n cap => by kernel_rfl
theorem f8_231 : FmAll Fmt8 231 := all_none (by kernel_rfl) (by kernel_rfl) f8_231_n
theorem f8_232_n : Fmt8 232 none := fun W c b o n cap => by kernel_rfl
theorem f8_232 : FmAll Fmt8 232 := all_none (by kernel_rfl) (by kernel_rfl) f8_232_n
theorem f8_233_n : Fmt8 233 none := fun W c b o n cap => by kernel_rfl
theorem f8_233 : FmAll Fmt8 233 := all_none (by kernel_rfl) (by kernel_rfl) f8_233_n
theorem f8_234_n : Fmt8 234 none := fun W c b o n cap => by kernel_rfl
theorem f8_234 : FmAll Fmt8 234 := all_none (by kernel_rfl) (by kernel_rfl) f8_234_n
theorem f8_235_n : Fmt8 235 none := fun W c b o n cap => by kernel_rfl
theorem f8_235 : FmAll Fmt8 235 := all_none (by kernel_rfl) (by kernel_rfl) f8_235_n
theorem f8_236_n : Fmt8 236 none := fun W c b o n cap => by kernel_rfl
theorem f8_236 : FmAll Fmt8 236 := all_none (by kernel_rfl) (by kernel_rfl) f8_236_n
theorem f8_237_t : Fmt8 237 (some true) := fun W c b o n cap => by kernel_rfl
theorem f8_237_f : Fmt8 237 (some false) := fun W c b o n cap => by kernel_rfl
theorem f8_237 : FmAll Fmt8 237 := all_some f8_237_t f8_237_f
theorem f8_238_n : Fmt8 238 none := fun W c b o n cap => by kernel_rfl
theorem f8_238 : FmAll Fmt8 238 := all_none (by kernel_rfl) (by kernel_rfl) f8_238_n
theorem f8_239_n : Fmt8 239 none := fun W c b o n cap => by kernel_rfl
theorem f8_239 : FmAll Fmt8 239 := all_none (by kernel_rfl) (by kernel_rfl) f8_239_n
theorem f8_240_n : Fmt8 240 none := fun W c b o n cap => by kernel_rfl
theorem f8_240 : FmAll Fmt8 240 := all_none (by kernel_rfl) (by kernel_rfl) f8_240_n
theorem f8_241_n : Fmt8 241 none := fun W c b o n cap => by kernel_rfl
theorem f8_241 : FmAll Fmt8 241 := all_none (by kernel_rfl) (by kernel_rfl) f8_241_n
theorem f8_242_n : Fmt8 242 none := fun W c b o n cap => by kernel_rfl
theorem f8_242 : FmAll Fmt8 242 := all_none (by kernel_rfl) (by kernel_rfl) f8_242_n
theorem f8_243_n : Fmt8 243 none := fun W c b o n cap => by kernel_rfl
theorem f8_243 : FmAll Fmt8 243 := all_none (by kernel_rfl) (by kernel_rfl) f8_243_n
theorem f8_244_n : Fmt8 244 none := fun W c b o n cap => by kernel_rfl
theorem f8_244 : FmAll Fmt8 244 := all_none (by kernel_rfl) (by kernel_rfl) f8_244_n
theorem f8_245_n : Fmt8 245 none := fun W c b o n cap => by kernel_rfl
theorem f8_245 : FmAll Fmt8 245 := all_none (by kernel_rfl) (by kernel_rfl) f8_245_n
theorem f8_246_n : Fmt8 246 none := fun W c b o n cap => by kernel_rfl
theorem f8_246 : FmAll Fmt8 246 := all_none (by kernel_rfl) (by kernel_rfl) f8_246_n
theorem f8_247_n : Fmt8 247 none := fun W c b o n cap => by kernel_rfl
theorem f8_247 : FmAll Fmt8 247 := all_none (by kernel_rfl) (by kernel_rfl) f8_247_n
theorem f8_248_n : Fmt8 248 none := fun W c b o n cap => by kernel_rfl
theorem f8_248 : FmAll Fmt8 248 := all_none (by kernel_rfl) (by kernel_rfl) f8_248_n
theorem f8_249_n : Fmt8 249 none := fun W c b o n cap => by kernel_rfl
theorem f8_249 : FmAll Fmt8 249 := all_none (by kernel_rfl) (by kernel_rfl) f8_249_n
theorem f8_250_n : Fmt8 250 none := fun W c b o n cap => by kernel_rfl
theorem f8_250 : FmAll Fmt8 250 := all_none (by kernel_rfl) (by kernel_rfl) f8_250_n
theorem f8_251_n : Fmt8 251 none := fun W c b o n cap => by kernel_rfl
theorem f8_251 : FmAll Fmt8 251 := all_none (by kernel_rfl) (by kernel_rfl) f8_251_n
theorem f8_252_n : Fmt8 252 none := fun W c b o n cap => by kernel_rfl
theorem f8_252 : FmAll Fmt8 252 := all_none (by kernel_rfl) (by kernel_rfl) f8_252_n
theorem f8_253_t : Fmt8 253 (some true) := fun W c b o n cap => by kernel_rfl
theorem f8_253_f : Fmt8 253 (some false) := fun W c b o n cap => by kernel_rfl
theorem f8_253 : FmAll Fmt8 253 := all_some f8_253_t f8_253_f
theorem f8_254_n : Fmt8 254 none := fun W c b o n cap => by kernel_rfl
theorem f8_254 : FmAll Fmt8 254 := all_none (by kernel_rfl) (by kernel_rfl) f8_254_n
theorem f8_255_n : Fmt8 255 none := fun W c b o n cap => by kernel_rfl
theorem f8_255 : FmAll Fmt8 255 := all_none (by kernel_rfl) (by kernel_rfl) f8_255_n
theorem f8_192_256 (v : Nat) (h : 192 ≤ v) (h' : v < 256) : FmAll Fmt8 v := by
  rcases Nat.lt_or_ge v 224 with h2 | h2
  · skip
    rcases Nat.lt_or_ge v 208 with h4 | h4
    · skip
      rcases Nat.lt_or_ge v 200 with h6 | h6
      · skip
        rcases Nat.lt_or_ge v 196 with h8 | h8
        · skip
          rcases Nat.lt_or_ge v 194 with h10 | h10
          · skip
            rcases Nat.lt_or_ge v 193 with h12 | h12
            · skip
              obtain rfl : v = 192 := by omega
              exact f8_192
            · skip
              obtain rfl : v = 193 := by omega
              exact f8_193
          · skip
            rcases Nat.lt_or_ge v 195 with h12 | h12
            · skip
              obtain rfl : v = 194 := by omega
              exact f8_194
            · skip
              obtain rfl : v = 195 := by omega
              exact f8_195
        · skip
          rcases Nat.lt_or_ge v 198 with h10 | h10
          · skip
            rcases Nat.lt_or_ge v 197 with h12 | h12
            · skip
              obtain rfl : v = 196 := by omega
              exact f8_196
            · skip
              obtain rfl : v = 197 := by omega
              exact f8_197
          · skip
            rcases Nat.lt_or_ge v 199 with h12 | h12
            · skip
              obtain rfl : v = 198 := by omega
              exact f8_198
            · skip
              obtain rfl : v = 199 := by omega
              exact f8_199
      · skip
        rcases Nat.lt_or_ge v 204 with h8 | h8
        · skip
          rcases Nat.lt_or_ge v 202 with h10 | h10
          · skip
            rcases Nat.lt_or_ge v 201 with h12 | h12
            · skip
              obtain rfl : v = 200 := by omega
              exact f8_200
            · skip
              obtain rfl : v = 201 := by omega
              exact f8_201
          · skip
            rcases Nat.lt_or_ge v 203 with h12 | h12
            · skip
              obtain rfl : v = 202 := by omega
              exact f8_202
            · skip
              obtain rfl : v = 203 := by omega
              exact f8_203
        · skip
          rcases Nat.lt_or_ge v 206 with h10 | h10
          · skip
            rcases Nat.lt_or_ge v 205 with h12 | h12
            · skip
              obtain rfl : v = 204 := by omega
              exact f8_204
            · skip
              obtain rfl : v = 205 := by omega
              exact f8_205
          · skip
            rcases Nat.lt_or_ge v 207 with h12 | h12
            · skip
              obtain rfl : v = 206 := by omega
              exact f8_206
            · skip
              obtain rfl : v = 207 := by omega
              exact f8_207
    · skip
      rcases Nat.lt_or_ge v 216 with h6 | h6
      · skip
        rcases Nat.lt_or_ge v 212 with h8 | h8
        · skip
          rcases Nat.lt_or_ge v 210 with h10 | h10
          · skip
            rcases Nat.lt_or_ge v 209 with h12 | h12
            · skip
              obtain rfl : v = 208 := by omega
              exact f8_208
            · skip
              obtain rfl : v = 209 := by omega
              exact f8_209
          · skip
            rcases Nat.lt_or_ge v 211 with h12 | h12
            · skip
              obtain rfl : v = 210 := by omega
              exact f8_210
            · skip
              obtain rfl : v = 211 := by omega
              exact f8_211
        · skip
          rcases Nat.lt_or_ge v 214 with h10 | h10
          · skip
            rcases Nat.lt_or_ge v 213 with h12 | h12
            · skip
              obtain rfl : v = 212 := by omega
              exact f8_212
            · skip
              obtain rfl : v = 213 := by omega
              exact f8_213
          · skip
            rcases Nat.lt_or_ge v 215 with h12 | h12
            · skip
              obtain rfl : v = 214 := by omega
              exact f8_214
            · skip
              obtain rfl : v = 215 := by omega
              exact f8_215
      · skip
        rcases Nat.lt_or_ge v 220 with h8 | h8
        · skip
          rcases Nat.lt_or_ge v 218 with h10 | h10
          · skip
            rcases Nat.lt_or_ge v 217 with h12 | h12
            · skip
              obtain rfl : v = 216 := by omega
              exact f8_216
            · skip
              obtain rfl : v = 217 := by omega
              exact f8_217
          · skip
            rcases Nat.lt_or_ge v 219 with h12 | h12
            · skip
              obtain rfl : v = 218 := by omega
              exact f8_218
            · skip
              obtain rfl : v = 219 := by omega
              exact f8_219
        · skip
          rcases Nat.lt_or_ge v 222 with h10 | h10
          · skip
            rcases Nat.lt_or_ge v 221 with h12 | h12
            · skip
              obtain rfl : v = 220 := by omega
              exact f8_220
            · skip
              obtain rfl : v = 221 := by omega
              exact f8_221
          · skip
            rcases Nat.lt_or_ge v 223 with h12 | h12
            · skip
              obtain rfl : v = 222 := by omega
              exact f8_222
            · skip
              obtain rfl : v = 223 := by omega
              exact f8_223
  · skip
    rcases Nat.lt_or_ge v 240 with h4 | h4
    · skip
      rcases Nat.lt_or_ge v 232 with h6 | h6
      · skip
        rcases Nat.lt_or_ge v 228 with h8 | h8
        · skip
          rcases Nat.lt_or_ge v 226 with h10 | h10
          · skip
            rcases Nat.lt_or_ge v 225 with h12 | h12
            · skip
              obtain rfl : v = 224 := by omega
              exact f8_224
            · skip
              obtain rfl : v = 225 := by omega
              exact f8_225
          · skip
            rcases Nat.lt_or_ge v 227 with h12 | h12
            · skip
              obtain rfl : v = 226 := by omega
              exact f8_226
            · skip
              obtain rfl : v = 227 := by omega
              exact f8_227
        · skip
          rcases Nat.lt_or_ge v 230 with h10 | h10
          · skip
            rcases Nat.lt_or_ge v 229 with h12 | h12
            · skip
              obtain rfl : v = 228 := by omega
              exact f8_228
            · skip
              obtain rfl : v = 229 := by omega
              exact f8_229
          · skip
            rcases Nat.lt_or_ge v 231 with h12 | h12
            · skip
              obtain rfl : v = 230 := by omega
              exact f8_230
            · skip
              obtain rfl : v = 231 := by omega
              exact f8_231
      · skip
        rcases Nat.lt_or_ge v 236 with h8 | h8
        · skip
          rcases Nat.lt_or_ge v 234 with h10 | h10
          · skip
            rcases Nat.lt_or_ge v 233 with h12 | h12
            · skip
              obtain rfl : v = 232 := by omega
              exact f8_232
            · skip
              obtain rfl : v = 233 := by omega
              exact f8_233
          · skip
            rcases Nat.lt_or_ge v 235 with h12 | h12
            · skip
              obtain rfl : v = 234 := by omega
              exact f8_234
            · skip
              obtain rfl : v = 235 := by omega
              exact f8_235
        · skip
          rcases Nat.lt_or_ge v 238 with h10 | h10
          · skip
            rcases Nat.lt_or_ge v 237 with h12 | h12
            · skip
              obtain rfl : v = 236 := by omega
              exact f8_236
            · skip
              obtain rfl : v = 237 := by omega
              exact f8_237
          · skip
            rcases Nat.lt_or_ge v 239 with h12 | h12
            · skip
              obtain rfl : v = 238 := by omega
              exact f8_238
            · skip
              obtain rfl : v = 239 := by omega
              exact f8_239
    · skip
      rcases Nat.lt_or_ge v 248 with h6 | h6
      · skip
        rcases Nat.lt_or_ge v 244 with h8 | h8
        · skip
          rcases Nat.lt_or_ge v 242 with h10 | h10
          · skip
            rcases Nat.lt_or_ge v 241 with h12 | h12
            · skip
              obtain rfl : v = 240 := by omega
              exact f8_240
            · skip
              obtain rfl : v = 241 := by omega
              exact f8_241
          · skip
            rcases Nat.lt_or_ge v 243 with h12 | h12
            · skip
              obtain rfl : v = 242 := by omega
              exact f8_242
            · skip
              obtain rfl : v = 243 := by omega
              exact f8_243
        · skip
          rcases Nat.lt_or_ge v 246 with h10 | h10
          · skip
            rcases Nat.lt_or_ge v 245 with h12 | h12
            · skip
              obtain rfl : v = 244 := by omega
              exact f8_244
            · skip
              obtain rfl : v = 245 := by omega
              exact f8_245
          · skip
            rcases Nat.lt_or_ge v 247 with h12 | h12
            · skip
              obtain rfl : v = 246 := by omega
              exact f8_246
            · skip
              obtain rfl : v = 247 := by omega
              exact f8_247
      · skip
        rcases Nat.lt_or_ge v 252 with h8 | h8
        · skip
          rcases Nat.lt_or_ge v 250 with h10 | h10
          · skip
            rcases Nat.lt_or_ge v 249 with h12 | h12
            · skip
              obtain rfl : v = 248 := by omega
              exact f8_248
            · skip
              obtain rfl : v = 249 := by omega
              exact f8_249
          · skip
            rcases Nat.lt_or_ge v 251 with h12 | h12
            · skip
              obtain rfl : v = 250 := by omega
              exact f8_250
            · skip
              obtain rfl : v = 251 := by omega
              exact f8_251
        · skip
          rcases Nat.lt_or_ge v 254 with h10 | h10
          · skip
            rcases Nat.lt_or_ge v 253 with h12 | h12
            · skip
              obtain rfl : v = 252 := by omega
              exact f8_252
            · skip
              obtain rfl : v = 253 := by omega
              exact f8_253
          · skip
            rcases Nat.lt_or_ge v 255 with h12 | h12
            · skip
              obtain rfl : v = 254 := by omega
              exact f8_254
            · skip
              obtain rfl : v = 255 := by omega
              exact f8_255
end Go.Proofs.YtdglgiaegjkinaaDoor
