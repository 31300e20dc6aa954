/- Format (listing) at the opcodes 0 to 63. Printed by mkfmt.py. (Several texts in one.) -/
import Derived.Test.YtdglgiaegjkinaaDoorSpc
namespace Go.Proofs.YtdglgiaegjkinaaDoor
open Go Go.Sx
set_option maxRecDepth 100000
theorem f7_0_n : Fmt7 0 none := fun W c b o n cap => by kernel_rfl
theorem f7_0 : FmAll Fmt7 0 := all_none (by kernel_rfl) (by kernel_rfl) f7_0_n
theorem f7_1_n : Fmt7 1 none := fun W c b o n cap => by kernel_rfl
theorem f7_1 : FmAll Fmt7 1 := all_none (by kernel_rfl) (by kernel_rfl) f7_1_n
theorem f7_2_n : Fmt7 2 none := fun W c b o n cap => by kernel_rfl
theorem f7_2 : FmAll Fmt7 2 := all_none (by kernel_rfl) (by kernel_rfl) f7_2_n
theorem f7_3_n : Fmt7 3 none := fun W c b o n cap => by kernel_rfl
theorem f7_3 : FmAll Fmt7 3 := all_none (by kernel_rfl) (by kernel_rfl) f7_3_n
theorem f7_4_n : Fmt7 4 none := fun W c b o n cap => by kernel_rfl
theorem f7_4 : FmAll Fmt7 4 := all_none (by kernel_rfl) (by kernel_rfl) f7_4_n
theorem f7_5_n : Fmt7 5 none := fun W c b o n cap => by kernel_rfl
theorem f7_5 : FmAll Fmt7 5 := all_none (by kernel_rfl) (by kernel_rfl) f7_5_n
theorem f7_6_n : Fmt7 6 none := fun W c b o n cap => by kernel_rfl
theorem f7_6 : FmAll Fmt7 6 := all_none (by kernel_rfl) (by kernel_rfl) f7_6_n
theorem f7_7_n : Fmt7 7 none := fun W c b o n cap => by kernel_rfl
theorem f7_7 : FmAll Fmt7 7 := all_none (by kernel_rfl) (by kernel_rfl) f7_7_n
theorem f7_8_t : Fmt7 8 (some true) := fun W c b o n cap => by kernel_rfl
theorem f7_8_f : Fmt7 8 (some false) := fun W c b o n cap => by kernel_rfl
theorem f7_8 : FmAll Fmt7 8 := all_some f7_8_t f7_8_f
theorem f7_9_n : Fmt7 9 none := fun W c b o n cap => by kernel_rfl
theorem f7_9 : FmAll Fmt7 9 := all_none (by kernel_rfl) (by kernel_rfl) f7_9_n
theorem f7_10_n : Fmt7 10 none := fun W c b o n cap => by kernel_rfl
theorem f7_10 : FmAll Fmt7 10 := all_none (by kernel_rfl) (by kernel_rfl) f7_10_n
theorem f7_11_n : Fmt7 11 none := fun W c b o n cap => by kernel_rfl
theorem f7_11 : FmAll Fmt7 11 := all_none (by kernel_rfl) (by kernel_rfl) f7_11_n
theorem f7_12_n : Fmt7 12 none := fun W c b o n cap => by kernel_rfl
theorem f7_12 : FmAll Fmt7 12 := all_none (by kernel_rfl) (by kernel_rfl) f7_12_n
theorem f7_13_n : Fmt7 13 none := fun W c b o n cap => by kernel_rfl
theorem f7_13 : FmAll Fmt7 13 := all_none (by kernel_rfl) (by kernel_rfl) f7_13_n
theorem f7_14_n : Fmt7 14 none := fun W c b o n cap => by kernel_rfl
theorem f7_14 : FmAll Fmt7 14 := all_none (by kernel_rfl) (by kernel_rfl) f7_14_n
theorem f7_15_n : Fmt7 15 none := fun W c b o n cap => by kernel_rfl
theorem f7_15 : FmAll Fmt7 15 := all_none (by kernel_rfl) (by kernel_rfl) f7_15_n
theorem f7_16_t : Fmt7 16 (some true) := fun W c b o n cap => by kernel_rfl
theorem f7_16_f : Fmt7 16 (some false) := fun W c b o n cap => by kernel_rfl
theorem f7_16 : FmAll Fmt7 16 := all_some f7_16_t f7_16_f
theorem f7_17_n : Fmt7 17 none := fun W c b o n cap => by kernel_rfl
theorem f7_17 : FmAll Fmt7 17 := all_none (by kernel_rfl) (by kernel_rfl) f7_17_n
theorem f7_18_n : Fmt7 18 none := fun W c b o n cap => by kernel_rfl
theorem f7_18 : FmAll Fmt7 18 := all_none (by kernel_rfl) (by kernel_rfl) f7_18_n
theorem f7_19_n : Fmt7 19 none := fun W c b o n cap => by kernel_rfl
theorem f7_19 : FmAll Fmt7 19 := all_none (by kernel_rfl) (by kernel_rfl) f7_19_n
theorem f7_20_n : Fmt7 20 none := fun W c b o n cap => by kernel_rfl
theorem f7_20 : FmAll Fmt7 20 := all_none (by kernel_rfl) (by kernel_rfl) f7_20_n
theorem f7_21_n : Fmt7 21 none := fun W c b o n cap => by kernel_rfl
theorem f7_21 : FmAll Fmt7 21 := all_none (by kernel_rfl) (by kernel_rfl) f7_21_n
theorem f7_22_n : Fmt7 22 none := fun W c b o n cap => by kernel_rfl
theorem f7_22 : FmAll Fmt7 22 := all_none (by kernel_rfl) (by kernel_rfl) f7_22_n
theorem f7_23_n : Fmt7 23 none := fun W c b o n cap => by kernel_rfl
theorem f7_23 : FmAll Fmt7 23 := all_none (by kernel_rfl) (by kernel_rfl) f7_23_n
theorem f7_24_t : Fmt7 24 (some true) := fun W c b o n cap => by kernel_rfl
theorem f7_24_f : Fmt7 24 (some false) := fun W c b o n cap => by kernel_rfl
theorem f7_24 : FmAll Fmt7 24 := all_some f7_24_t f7_24_f
theorem f7_25_n : Fmt7 25 none := fun W c b o n cap => by kernel_rfl
theorem f7_25 : FmAll Fmt7 25 := all_none (by kernel_rfl) (by kernel_rfl) f7_25_n
theorem f7_26_n : Fmt7 26 none := fun W c b o n cap => by kernel_rfl
theorem f7_26 : FmAll Fmt7 26 := all_none (by kernel_rfl) (by kernel_rfl) f7_26_n
theorem f7_27_n : Fmt7 27 none := fun W c b o n cap => by kernel_rfl
theorem f7_27 : FmAll Fmt7 27 := all_none (by kernel_rfl) (by kernel_rfl) f7_27_n
theorem f7_28_n : Fmt7 28 none := fun W c b o n cap => by kernel_rfl
theorem f7_28 : FmAll Fmt7 28 := all_none (by kernel_rfl) (by kernel_rfl) f7_28_n
theorem f7_29_n : Fmt7 29 none := fun W c b o n cap => by kernel_rfl
theorem f7_29 : FmAll Fmt7 29 := all_none (by kernel_rfl) (by kernel_rfl) f7_29_n
theorem f7_30_n : Fmt7 30 none := fun W c b o n cap => by kernel_rfl
theorem f7_30 : FmAll Fmt7 30 := all_none (by kernel_rfl) (by kernel_rfl) f7_30_n
theorem f7_31_n : Fmt7 31 none := fun W c b o n cap => by kernel_rfl
theorem f7_31 : FmAll Fmt7 31 := all_none (by kernel_rfl) (by kernel_rfl) f7_31_n
theorem f7_32_t : Fmt7 32 (some true) := fun W c b o n cap => by kernel_rfl
theorem f7_32_f : Fmt7 32 (some false) := fun W c b o n cap => by kernel_rfl
theorem f7_32 : FmAll Fmt7 32 := all_some f7_32_t f7_32_f
theorem f7_33_n : Fmt7 33 none := fun W c b o n cap => by kernel_rfl
theorem f7_33 : FmAll Fmt7 33 := all_none (by kernel_rfl) (by kernel_rfl) f7_33_n
theorem f7_34_n : Fmt7 34 none := fun W c b o n cap => by kernel_rfl
theorem f7_34 : FmAll Fmt7 34 := all_none (by kernel_rfl) (by kernel_rfl) f7_34_n
theorem f7_35_n : Fmt7 35 none := fun W c b o n cap => by kernel_rfl
theorem f7_35 : FmAll Fmt7 35 := all_none (by kernel_rfl) (by kernel_rfl) f7_35_n
theorem f7_36_n : Fmt7 36 none := fun W c b o n cap => by kernel_rfl
theorem f7_36 : FmAll Fmt7 36 := all_none (by kernel_rfl) (by kernel_rfl) f7_36_n
theorem f7_37_n : Fmt7 37 none := fun W c b o n cap => by kernel_rfl
theorem f7_37 : FmAll Fmt7 37 := all_none (by kernel_rfl) (by kernel_rfl) f7_37_n
theorem f7_38_n : Fmt7 38 none := fun W c b o n cap => by kernel_rfl
theorem f7_38 : FmAll Fmt7 38 := all_none (by kernel_rfl) (by kernel_rfl) f7_38_n
theorem f7_39_n : Fmt7 39 none := fun W c b o n cap => by kernel_rfl
theorem f7_39 : FmAll Fmt7 39 := all_none (by kernel_rfl) (by kernel_rfl) f7_39_n
theorem f7_40_t : Fmt7 40 (some true) := fun W c b o n cap => by kernel_rfl
theorem f7_40_f : Fmt7 40 (some false) := fun W c b o n cap => by kernel_rfl
theorem f7_40 : FmAll Fmt7 40 := all_some f7_40_t f7_40_f
theorem f7_41_n : Fmt7 41 none := fun W c b o n cap => by kernel_rfl
theorem f7_41 : FmAll Fmt7 41 := all_none (by kernel_rfl) (by kernel_rfl) f7_41_n
theorem f7_42_n : Fmt7 42 none := fun W c b o n cap => by kernel_rfl
theorem f7_42 : FmAll Fmt7 42 := all_none (by kernel_rfl) (by kernel_rfl) f7_42_n
theorem f7_43_n : Fmt7 43 none := fun W c b o n cap => by kernel_rfl
theorem f7_43 : FmAll Fmt7 43 := all_none (by kernel_rfl) (by kernel_rfl) f7_43_n
theorem f7_44_n : Fmt7 44 none := fun W c b o n cap => by kernel_rfl
theorem f7_44 : FmAll Fmt7 44 := all_none (by kernel_rfl) (by kernel_rfl) f7_44_n
theorem f7_45_n : Fmt7 45 none := fun W c b o n cap => by kernel_rfl
theorem f7_45 : FmAll Fmt7 45 := all_none (by kernel_rfl) (by kernel_rfl) f7_45_n
theorem f7_46_n : Fmt7 46 none := fun W c b o n cap => by kernel_rfl
theorem f7_46 : FmAll Fmt7 46 := all_none (by kernel_rfl) (by kernel_rfl) f7_46_n
theorem f7_47_n : Fmt7 47 none := fun W c b o n cap => by kernel_rfl
theorem f7_47 : FmAll Fmt7 47 := all_none (by kernel_rfl) (by kernel_rfl) f7_47_n
theorem f7_48_t : Fmt7 48 (some true) := fun W c b o n cap => by kernel_rfl
theorem f7_48_f : Fmt7 48 (some false) := fun W c b o n cap => by kernel_rfl
theorem f7_48 : FmAll Fmt7 48 := all_some f7_48_t f7_48_f
theorem f7_49_n : Fmt7 49 none := fun W c b o n cap => by kernel_rfl
theorem f7_49 : FmAll Fmt7 49 := all_none (by kernel_rfl) (by kernel_rfl) f7_49_n
theorem f7_50_n : Fmt7 50 none := fun W c b o n cap => by kernel_rfl
theorem f7_50 : FmAll Fmt7 50 := all_none (by kernel_rfl) (by kernel_rfl) f7_50_n
theorem f7_51_n : Fmt7 51 none := fun W c b o n cap => by kernel_rfl
theorem f7_51 : FmAll Fmt7 51 := all_none (by kernel_rfl) (by kernel_rfl) f7_51_n
theorem f7_52_n : Fmt7 52 none := fun W c b o n cap => by kernel_rfl
theorem f7_52 : FmAll Fmt7 52 := all_none (by kernel_rfl) (by kernel_rfl) f7_52_n
theorem f7_53_n : Fmt7 53 none := fun W c b o n cap => by kernel_rfl
theorem f7_53 : FmAll Fmt7 53 := all_none (by kernel_rfl) (by kernel_rfl) f7_53_n
theorem f7_54_n : Fmt7 54 none := fun W c b o n cap => by kernel_rfl
theorem f7_54 : FmAll Fmt7 54 := all_none (by kernel_rfl) (by kernel_rfl) f7_54_n
theorem f7_55_n : Fmt7 55 none := fun W c b o n cap => by kernel_rfl
theorem f7_55 : FmAll Fmt7 55 := all_none (by kernel_rfl) (by kernel_rfl) f7_55_n
theorem f7_56_t : Fmt7 56 (some true) := fun W c b o n cap => by kernel_rfl
theorem f7_56_f : Fmt7 56 (some false) := fun W c b o n cap => by kernel_rfl
theorem f7_56 : FmAll Fmt7 56 := all_some f7_56_t f7_56_f
theorem f7_57_n : Fmt7 57 none := fun W c b o n cap => by kernel_rfl
theorem f7_57 : FmAll Fmt7 57 := all_none (by kernel_rfl) (by kernel_rfl) f7_57_n
theorem f7_58_n : Fmt7 58 none := fun W c b o n cap => by kernel_rfl
theorem f7_58 : FmAll Fmt7 58 := all_none (by kernel_rfl) (by kernel_rfl) f7_58_n
theorem f7_59_n : Fmt7 59 none := fun W c b o n cap => by kernel_rfl
theorem f7_59 : FmAll Fmt7 59 := all_none (by kernel_rfl) (by kernel_rfl) f7_59_n
theorem f7_60_n : Fmt7 60 none := fun W c b o n cap => by kernel_rfl
theorem f7_60 : FmAll Fmt7 60 := all_none (by kernel_rfl) (by kernel_rfl) f7_60_n
theorem f7_61_n : Fmt7 61 none := fun W c b o n cap => by kernel_rfl
theorem f7_61 : FmAll Fmt7 61 := all_none (by kernel_rfl) (by kernel_rfl) f7_61_n
theorem f7_62_n : Fmt7 62 none := fun W c b o n cap => by kernel_rfl
theorem f7_62 : FmAll Fmt7 62 := all_none (by kernel_rfl) (by kernel_rfl) f7_62_n
theorem f7_63_n : Fmt7 63 none := fun W c b o n cap => by kernel_rfl
theorem f7_63 : FmAll Fmt7 63 := all_none (by kernel_rfl) (by kernel_rfl) f7_63_n
theorem f7_0_64 (v : Nat) (h : 0 ≤ v) (h' : v < 64) : FmAll Fmt7 v := by
  rcases Nat.lt_or_ge v 32 with h2 | h2
  · skip
    rcases Nat.lt_or_ge v 16 with h4 | h4
    · skip
      rcases Nat.lt_or_ge v 8 with h6 | h6
      · skip
        rcases Nat.lt_or_ge v 4 with h8 | h8
        · skip
          rcases Nat.lt_or_ge v 2 with h10 | h10
          · skip
            rcases Nat.lt_or_ge v 1 with h12 | h12
            · skip
              obtain rfl : v = 0 := by omega
              exact f7_0
            · skip
              obtain rfl : v = 1 := by omega
              exact f7_1
          · skip
            rcases Nat.lt_or_ge v 3 with h12 | h12
            · skip
              obtain rfl : v = 2 := by omega
              exact f7_2
            · skip
              obtain rfl : v = 3 := by omega
              exact f7_3
        · skip
          rcases Nat.lt_or_ge v 6 with h10 | h10
          · skip
            rcases Nat.lt_or_ge v 5 with h12 | h12
            · skip
              obtain rfl : v = 4 := by omega
              exact f7_4
            · skip
              obtain rfl : v = 5 := by omega
              exact f7_5
          · skip
            rcases Nat.lt_or_ge v 7 with h12 | h12
            · skip
              obtain rfl : v = 6 := by omega
              exact f7_6
            · skip
              obtain rfl : v = 7 := by omega
              exact f7_7
      · skip
        rcases Nat.lt_or_ge v 12 with h8 | h8
        · skip
          rcases Nat.lt_or_ge v 10 with h10 | h10
          · skip
            rcases Nat.lt_or_ge v 9 with h12 | h12
            · skip
              obtain rfl : v = 8 := by omega
              exact f7_8
            · skip
              obtain rfl : v = 9 := by omega
              exact f7_9
          · skip
            rcases Nat.lt_or_ge v 11 with h12 | h12
            · skip
              obtain rfl : v = 10 := by omega
              exact f7_10
            · skip
              obtain rfl : v = 11 := by omega
              exact f7_11
        · skip
          rcases Nat.lt_or_ge v 14 with h10 | h10
          · skip
            rcases Nat.lt_or_ge v 13 with h12 | h12
            · skip
              obtain rfl : v = 12 := by omega
              exact f7_12
            · skip
              obtain rfl : v = 13 := by omega
              exact f7_13
          · skip
            rcases Nat.lt_or_ge v 15 with h12 | h12
            · skip
              obtain rfl : v = 14 := by omega
              exact f7_14
            · skip
              obtain rfl : v = 15 := by omega
              exact f7_15
    · skip
      rcases Nat.lt_or_ge v 24 with h6 | h6
      · skip
        rcases Nat.lt_or_ge v 20 with h8 | h8
        · skip
          rcases Nat.lt_or_ge v 18 with h10 | h10
          · skip
            rcases Nat.lt_or_ge v 17 with h12 | h12
            · skip
              obtain rfl : v = 16 := by omega
              exact f7_16
            · skip
              obtain rfl : v = 17 := by omega
              exact f7_17
          · skip
            rcases Nat.lt_or_ge v 19 with h12 | h12
            · skip
              obtain rfl : v = 18 := by omega
              exact f7_18
            · skip
              obtain rfl : v = 19 := by omega
              exact f7_19
        · skip
          rcases Nat.lt_or_ge v 22 with h10 | h10
          · skip
            rcases Nat.lt_or_ge v 21 with h12 | h12
            · skip
              obtain rfl : v = 20 := by omega
              exact f7_20
            · skip
              obtain rfl : v = 21 := by omega
              exact f7_21
          · skip
            rcases Nat.lt_or_ge v 23 with h12 | h12
            · skip
              obtain rfl : v = 22 := by omega
              exact f7_22
            · skip
              obtain rfl : v = 23 := by omega
              exact f7_23
      · skip
        rcases Nat.lt_or_ge v 28 with h8 | h8
        · skip
          rcases Nat.lt_or_ge v 26 with h10 | h10
          · skip
            rcases Nat.lt_or_ge v 25 with h12 | h12
            · skip
              obtain rfl : v = 24 := by omega
              exact f7_24
            · skip
              obtain rfl : v = 25 := by omega
              exact f7_25
          · skip
            rcases Nat.lt_or_ge v 27 with h12 | h12
            · skip
              obtain rfl : v = 26 := by omega
              exact f7_26
            · skip
              obtain rfl : v = 27 := by omega
              exact f7_27
        · skip
          rcases Nat.lt_or_ge v 30 with h10 | h10
          · skip
            rcases Nat.lt_or_ge v 29 with h12 | h12
            · skip
              obtain rfl : v = 28 := by omega
              exact f7_28
            · skip
              obtain rfl : v = 29 := by omega
              exact f7_29
          · skip
            rcases Nat.lt_or_ge v 31 with h12 | h12
            · skip
              obtain rfl : v = 30 := by omega
              exact f7_30
            · skip
              obtain rfl : v = 31 := by omega
              exact f7_31
  · skip
    rcases Nat.lt_or_ge v 48 with h4 | h4
    · skip
      rcases Nat.lt_or_ge v 40 with h6 | h6
      · skip
        rcases Nat.lt_or_ge v 36 with h8 | h8
        · skip
          rcases Nat.lt_or_ge v 34 with h10 | h10
          · skip
            rcases Nat.lt_or_ge v 33 with h12 | h12
            · skip
              obtain rfl : v = 32 := by omega
              exact f7_32
            · skip
              obtain rfl : v = 33 := by omega
              exact f7_33
          · skip
            rcases Nat.lt_or_ge v 35 with h12 | h12
            · skip
              obtain rfl : v = 34 := by omega
              exact f7_34
            · skip
              obtain rfl : v = 35 := by omega
              exact f7_35
        · skip
          rcases Nat.lt_or_ge v 38 with h10 | h10
          · skip
            rcases Nat.lt_or_ge v 37 with h12 | h12
            · skip
              obtain rfl : v = 36 := by omega
              exact f7_36
            · skip
              obtain rfl : v = 37 := by omega
              exact f7_37
          · skip
            rcases Nat.lt_or_ge v 39 with h12 | h12
            · skip
              obtain rfl : v = 38 := by omega
              exact f7_38
            · skip
              obtain rfl : v = 39 := by omega
              exact f7_39
      · skip
        rcases Nat.lt_or_ge v 44 with h8 | h8
        · skip
          rcases Nat.lt_or_ge v 42 with h10 | h10
          · skip
            rcases Nat.lt_or_ge v 41 with h12 | h12
            · skip
              obtain rfl : v = 40 := by omega
              exact f7_40
            · skip
              obtain rfl : v = 41 := by omega
              exact f7_41
          · skip
            rcases Nat.lt_or_ge v 43 with h12 | h12
            · skip
              obtain rfl : v = 42 := by omega
              exact f7_42
            · skip
              obtain rfl : v = 43 := by omega
              exact f7_43
        · skip
          rcases Nat.lt_or_ge v 46 with h10 | h10
          · skip
            rcases Nat.lt_or_ge v 45 with h12 | h12
            · skip
              obtain rfl : v = 44 := by omega
              exact f7_44
            · skip
              obtain rfl : v = 45 := by omega
              exact f7_45
          · skip
            rcases Nat.lt_or_ge v 47 with h12 | h12
            · skip
              obtain rfl : v = 46 := by omega
              exact f7_46
            · skip
              obtain rfl : v = 47 := by omega
              exact f7_47
    · skip
      rcases Nat.lt_or_ge v 56 with h6 | h6
      · skip
        rcases Nat.lt_or_ge v 52 with h8 | h8
        · skip
          rcases Nat.lt_or_ge v 50 with h10 | h10
          · skip
            rcases Nat.lt_or_ge v 49 with h12 | h12
            · skip
              obtain rfl : v = 48 := by omega
              exact f7_48
            · skip
              obtain rfl : v = 49 := by omega
              exact f7_49
          · skip
            rcases Nat.lt_or_ge v 51 with h12 | h12
            · skip
              obtain rfl : v = 50 := by omega
              exact f7_50
            · skip
              obtain rfl : v = 51 := by omega
              exact f7_51
        · skip
          rcases Nat.lt_or_ge v 54 with h10 | h10
          · skip
            rcases Nat.lt_or_ge v 53 with h12 | h12
            · skip
              obtain rfl : v = 52 := by omega
              exact f7_52
            · skip
              obtain rfl : v = 53 := by omega
              exact f7_53
          · skip
            rcases Nat.lt_or_ge v 55 with h12 | h12
            · skip
              obtain rfl : v = 54 := by omega
              exact f7_54
            · skip
              obtain rfl : v = 55 := by omega
              exact f7_55
      · skip
        rcases Nat.lt_or_ge v 60 with h8 | h8
        · skip
          rcases Nat.lt_or_ge v 58 with h10 | h10
          · skip
            rcases Nat.lt_or_ge v 57 with h12 | h12
            · skip
              obtain rfl : v = 56 := by omega
              exact f7_56
            · skip
              obtain rfl : v = 57 := by omega
              exact f7_57
          · skip
            rcases Nat.lt_or_ge v 59 with h12 | h12
            · skip
              obtain rfl : v = 58 := by omega
              exact f7_58
            · skip
              obtain rfl : v = 59 := by omega
              exact f7_59
        · skip
          rcases Nat.lt_or_ge v 62 with h10 | h10
          · skip
            rcases Nat.lt_or_ge v 61 with h12 | h12
            · skip
              obtain rfl : v = 60 := by omega
              exact f7_60
            · skip
              obtain rfl : v = 61 := by omega
              exact f7_61
          · skip
            rcases Nat.lt_or_ge v 63 with h12 | h12
            · skip
              obtain rfl : v = 62 := by omega
              exact f7_62
            · skip
              obtain rfl : v = 63 := by omega
              exact f7_63
end Go.Proofs.YtdglgiaegjkinaaDoor

/- Format (listing) at the opcodes 64 to 127. Printed by mkfmt.py. -/

namespace Go.Proofs.YtdglgiaegjkinaaDoor
open Go Go.Sx
set_option maxRecDepth 100000
theorem f7_64_n : Fmt7 64 none := fun W c b o n cap => by kernel_rfl
theorem f7_64 : FmAll Fmt7 64 := all_none (by kernel_rfl) (by kernel_rfl) f7_64_n
theorem f7_65_n : Fmt7 65 none := fun W c b o n cap => by kernel_rfl
theorem f7_65 : FmAll Fmt7 65 := all_none (by kernel_rfl) (by kernel_rfl) f7_65_n
theorem f7_66_n : Fmt7 66 none := fun W c b o n cap => by kernel_rfl
theorem f7_66 : FmAll Fmt7 66 := all_none (by kernel_rfl) (by kernel_rfl) f7_66_n
theorem f7_67_n : Fmt7 67 none := fun W c b o n cap => by kernel_rfl
theorem f7_67 : FmAll Fmt7 67 := all_none (by kernel_rfl) (by kernel_rfl) f7_67_n
theorem f7_68_n : Fmt7 68 none := fun W c b o n cap => by kernel_rfl
theorem f7_68 : FmAll Fmt7 68 := all_none (by kernel_rfl) (by kernel_rfl) f7_68_n
theorem f7_69_n : Fmt7 69 none := fun W c b o n cap => by kernel_rfl
theorem f7_69 : FmAll Fmt7 69 := all_none (by kernel_rfl) (by kernel_rfl) f7_69_n
theorem f7_70_n : Fmt7 70 none := fun W c b o n cap => by kernel_rfl
theorem f7_70 : FmAll Fmt7 70 := all_none (by kernel_rfl) (by kernel_rfl) f7_70_n
theorem f7_71_n : Fmt7 71 none := fun W c b o n cap => by kernel_rfl
theorem f7_71 : FmAll Fmt7 71 := all_none (by kernel_rfl) (by kernel_rfl) f7_71_n
theorem f7_72_n : Fmt7 72 none := fun W c b o n cap => by kernel_rfl
theorem f7_72 : FmAll Fmt7 72 := all_none (by kernel_rfl) (by kernel_rfl) f7_72_n
theorem f7_73_n : Fmt7 73 none := fun W c b o n cap => by kernel_rfl
theorem f7_73 : FmAll Fmt7 73 := all_none (by kernel_rfl) (by kernel_rfl) f7_73_n
theorem f7_74_n : Fmt7 74 none := fun W c b o n cap => by kernel_rfl
theorem f7_74 : FmAll Fmt7 74 := all_none (by kernel_rfl) (by kernel_rfl) f7_74_n
theorem f7_75_n : Fmt7 75 none := fun W c b o n cap => by kernel_rfl
theorem f7_75 : FmAll Fmt7 75 := all_none (by kernel_rfl) (by kernel_rfl) f7_75_n
theorem f7_76_n : Fmt7 76 none := fun W c b o n cap => by kernel_rfl
theorem f7_76 : FmAll Fmt7 76 := all_none (by kernel_rfl) (by kernel_rfl) f7_76_n
theorem f7_77_n : Fmt7 77 none := fun W c b o n cap => by kernel_rfl
theorem f7_77 : FmAll Fmt7 77 := all_none (by kernel_rfl) (by kernel_rfl) f7_77_n
theorem f7_78_n : Fmt7 78 none := fun W c b o n cap => by kernel_rfl
theorem f7_78 : FmAll Fmt7 78 := all_none (by kernel_rfl) (by kernel_rfl) f7_78_n
theorem f7_79_n : Fmt7 79 none := fun W c b o n cap => by kernel_rfl
theorem f7_79 : FmAll Fmt7 79 := all_none (by kernel_rfl) (by kernel_rfl) f7_79_n
theorem f7_80_n : Fmt7 80 none := fun W c b o n cap => by kernel_rfl
theorem f7_80 : FmAll Fmt7 80 := all_none (by kernel_rfl) (by kernel_rfl) f7_80_n
theorem f7_81_n : Fmt7 81 none := fun W c b o n cap => by kernel_rfl
theorem f7_81 : FmAll Fmt7 81 := all_none (by kernel_rfl) (by kernel_rfl) f7_81_n
theorem f7_82_n : Fmt7 82 none := fun W c b o n cap => by kernel_rfl
theorem f7_82 : FmAll Fmt7 82 := all_none (by kernel_rfl) (by kernel_rfl) f7_82_n
theorem f7_83_n : Fmt7 83 none := fun W c b o n cap => by kernel_rfl
theorem f7_83 : FmAll Fmt7 83 := all_none (by kernel_rfl) (by kernel_rfl) f7_83_n
theorem f7_84_n : Fmt7 84 none := fun W c b o n cap => by kernel_rfl
theorem f7_84 : FmAll Fmt7 84 := all_none (by kernel_rfl) (by kernel_rfl) f7_84_n
theorem f7_85_n : Fmt7 85 none := fun W c b o n cap => by kernel_rfl
theorem f7_85 : FmAll Fmt7 85 := all_none (by kernel_rfl) (by kernel_rfl) f7_85_n
theorem f7_86_n : Fmt7 86 none := fun W c b o n cap => by kernel_rfl
theorem f7_86 : FmAll Fmt7 86 := all_none (by kernel_rfl) (by kernel_rfl) f7_86_n
theorem f7_87_n : Fmt7 87 none := fun W c b o n cap => by kernel_rfl
theorem f7_87 : FmAll Fmt7 87 := all_none (by kernel_rfl) (by kernel_rfl) f7_87_n
theorem f7_88_n : Fmt7 88 none := fun W c b o n cap => by kernel_rfl
theorem f7_88 : FmAll Fmt7 88 := all_none (by kernel_rfl) (by kernel_rfl) f7_88_n
theorem f7_89_n : Fmt7 89 none := fun W c b o n cap => by kernel_rfl
theorem f7_89 : FmAll Fmt7 89 := all_none (by kernel_rfl) (by kernel_rfl) f7_89_n
theorem f7_90_n : Fmt7 90 none := fun W c b o n cap => by kernel_rfl
theorem f7_90 : FmAll Fmt7 90 := all_none (by kernel_rfl) (by kernel_rfl) f7_90_n
theorem f7_91_n : Fmt7 91 none := fun W c b o n cap => by kernel_rfl
theorem f7_91 : FmAll Fmt7 91 := all_none (by kernel_rfl) (by kernel_rfl) f7_91_n
theorem f7_92_n : Fmt7 92 none := fun W c b o n cap => by kernel_rfl
theorem f7_92 : FmAll Fmt7 92 := all_none (by kernel_rfl) (by kernel_rfl) f7_92_n
theorem f7_93_n : Fmt7 93 none := fun W c b o n cap => by kernel_rfl
theorem f7_93 : FmAll Fmt7 93 := all_none (by kernel_rfl) (by kernel_rfl) f7_93_n
theorem f7_94_n : Fmt7 94 none := fun W c b o n cap => by kernel_rfl
theorem f7_94 : FmAll Fmt7 94 := all_none (by kernel_rfl) (by kernel_rfl) f7_94_n
theorem f7_95_n : Fmt7 95 none := fun W c b o n cap => by kernel_rfl
theorem f7_95 : FmAll Fmt7 95 := all_none (by kernel_rfl) (by kernel_rfl) f7_95_n
theorem f7_96_n : Fmt7 96 none := fun W c b o n cap => by kernel_rfl
theorem f7_96 : FmAll Fmt7 96 := all_none (by kernel_rfl) (by kernel_rfl) f7_96_n
theorem f7_97_n : Fmt7 97 none := fun W c b o n cap => by kernel_rfl
theorem f7_97 : FmAll Fmt7 97 := all_none (by kernel_rfl) (by kernel_rfl) f7_97_n
theorem f7_98_n : Fmt7 98 none := fun W c b o n cap => by kernel_rfl
theorem f7_98 : FmAll Fmt7 98 := all_none (by kernel_rfl) (by kernel_rfl) f7_98_n
theorem f7_99_n : Fmt7 99 none := fun W c b o n cap => by kernel_rfl
theorem f7_99 : FmAll Fmt7 99 := all_none (by kernel_rfl) (by kernel_rfl) f7_99_n
theorem f7_100_n : Fmt7 100 none := fun W c b o n cap => by kernel_rfl
theorem f7_100 : FmAll Fmt7 100 := all_none (by kernel_rfl) (by kernel_rfl) f7_100_n
theorem f7_101_n : Fmt7 101 none := fun W c b o n cap => by kernel_rfl
theorem f7_101 : FmAll Fmt7 101 := all_none (by kernel_rfl) (by kernel_rfl) f7_101_n
theorem f7_102_n : Fmt7 102 none := fun W c b o n cap => by kernel_rfl
theorem f7_102 : FmAll Fmt7 102 := all_none (by kernel_rfl) (by kernel_rfl) f7_102_n
theorem f7_103_n : Fmt7 103 none := fun W c b o n cap => by kernel_rfl
theorem f7_103 : FmAll Fmt7 103 := all_none (by kernel_rfl) (by kernel_rfl) f7_103_n
theorem f7_104_n : Fmt7 104 none := fun W c b o n cap => by kernel_rfl
theorem f7_104 : FmAll Fmt7 104 := all_none (by kernel_rfl) (by kernel_rfl) f7_104_n
theorem f7_105_n : Fmt7 105 none := fun W c b o n cap => by kernel_rfl
theorem f7_105 : FmAll Fmt7 105 := all_none (by kernel_rfl) (by kernel_rfl) f7_105_n
theorem f7_106_n : Fmt7 106 none := fun W c b o n cap => by kernel_rfl
theorem f7_106 : FmAll Fmt7 106 := all_none (by kernel_rfl) (by kernel_rfl) f7_106_n
theorem f7_107_n : Fmt7 107 none := fun W c b o n cap => by kernel_rfl
theorem f7_107 : FmAll Fmt7 107 := all_none (by kernel_rfl) (by kernel_rfl) f7_107_n
theorem f7_108_n : Fmt7 108 none := fun W c b o n cap => by kernel_rfl
theorem f7_108 : FmAll Fmt7 108 := all_none (by kernel_rfl) (by kernel_rfl) f7_108_n
theorem f7_109_n : Fmt7 109 none := fun W c b o n cap => by kernel_rfl
theorem f7_109 : FmAll Fmt7 109 := all_none (by kernel_rfl) (by kernel_rfl) f7_109_n
theorem f7_110_n : Fmt7 110 none := fun W c b o n cap => by kernel_rfl
theorem f7_110 : FmAll Fmt7 110 := all_none (by kernel_rfl) (by kernel_rfl) f7_110_n
theorem f7_111_n : Fmt7 111 none := fun W c b o n cap => by kernel_rfl
theorem f7_111 : FmAll Fmt7 111 := all_none (by kernel_rfl) (by kernel_rfl) f7_111_n
theorem f7_112_n : Fmt7 112 none := fun W c b o n cap => by kernel_rfl
theorem f7_112 : FmAll Fmt7 112 := all_none (by kernel_rfl) (by kernel_rfl) f7_112_n
theorem f7_113_n : Fmt7 113 none := fun W c b o n cap => by kernel_rfl
theorem f7_113 : FmAll Fmt7 113 := all_none (by kernel_rfl) (by kernel_rfl) f7_113_n
theorem f7_114_n : Fmt7 114 none := fun W c b o n cap => by kernel_rfl
theorem f7_114 : FmAll Fmt7 114 := all_none (by kernel_rfl) (by kernel_rfl) f7_114_n
theorem f7_115_n : Fmt7 115 none := fun W c b o n cap => by kernel_rfl
theorem f7_115 : FmAll Fmt7 115 := all_none (by kernel_rfl) (by kernel_rfl) f7_115_n
theorem f7_116_n : Fmt7 116 none := fun W c b o n cap => by kernel_rfl
theorem f7_116 : FmAll Fmt7 116 := all_none (by kernel_rfl) (by kernel_rfl) f7_116_n
theorem f7_117_n : Fmt7 117 none := fun W c b o n cap => by kernel_rfl
theorem f7_117 : FmAll Fmt7 117 := all_none (by kernel_rfl) (by kernel_rfl) f7_117_n
theorem f7_118_n : Fmt7 118 none := fun W c b o n cap => by kernel_rfl
theorem f7_118 : FmAll Fmt7 118 := all_none (by kernel_rfl) (by kernel_rfl) f7_118_n
theorem f7_119_n : Fmt7 119 none := fun W c b o n cap => by kernel_rfl
theorem f7_119 : FmAll Fmt7 119 := all_none (by kernel_rfl) (by kernel_rfl) f7_119_n
theorem f7_120_n : Fmt7 120 none := fun W c b o n cap => by kernel_rfl
theorem f7_120 : FmAll Fmt7 120 := all_none (by kernel_rfl) (by kernel_rfl) f7_120_n
theorem f7_121_n : Fmt7 121 none := fun W c b o n cap => by kernel_rfl
theorem f7_121 : FmAll Fmt7 121 := all_none (by kernel_rfl) (by kernel_rfl) f7_121_n
theorem f7_122_n : Fmt7 122 none := fun W c b o n cap => by kernel_rfl
theorem f7_122 : FmAll Fmt7 122 := all_none (by kernel_rfl) (by kernel_rfl) f7_122_n
theorem f7_123_n : Fmt7 123 none := fun W c b o n cap => by kernel_rfl
theorem f7_123 : FmAll Fmt7 123 := all_none (by kernel_rfl) (by kernel_rfl) f7_123_n
theorem f7_124_n : Fmt7 124 none := fun W c b o n cap => by kernel_rfl
theorem f7_124 : FmAll Fmt7 124 := all_none (by kernel_rfl) (by kernel_rfl) f7_124_n
theorem f7_125_n : Fmt7 125 none := fun W c b o n cap => by kernel_rfl
theorem f7_125 : FmAll Fmt7 125 := all_none (by kernel_rfl) (by kernel_rfl) f7_125_n
theorem f7_126_n : Fmt7 126 none := fun W c b o n cap => by kernel_rfl
theorem f7_126 : FmAll Fmt7 126 := all_none (by kernel_rfl) (by kernel_rfl) f7_126_n
theorem f7_127_n : Fmt7 127 none := fun W c b o n cap => by kernel_rfl
theorem f7_127 : FmAll Fmt7 127 := all_none (by kernel_rfl) (by kernel_rfl) f7_127_n
theorem f7_64_128 (v : Nat) (h : 64 ≤ v) (h' : v < 128) : FmAll Fmt7 v := by
  rcases Nat.lt_or_ge v 96 with h2 | h2
  · skip
    rcases Nat.lt_or_ge v 80 with h4 | h4
    · skip
      rcases Nat.lt_or_ge v 72 with h6 | h6
      · skip
        rcases Nat.lt_or_ge v 68 with h8 | h8
        · skip
          rcases Nat.lt_or_ge v 66 with h10 | h10
          · skip
            rcases Nat.lt_or_ge v 65 with h12 | h12
            · skip
              obtain rfl : v = 64 := by omega
              exact f7_64
            · skip
              obtain rfl : v = 65 := by omega
              exact f7_65
          · skip
            rcases Nat.lt_or_ge v 67 with h12 | h12
            · skip
              obtain rfl : v = 66 := by omega
              exact f7_66
            · skip
              obtain rfl : v = 67 := by omega
              exact f7_67
        · skip
          rcases Nat.lt_or_ge v 70 with h10 | h10
          · skip
            rcases Nat.lt_or_ge v 69 with h12 | h12
            · skip
              obtain rfl : v = 68 := by omega
              exact f7_68
            · skip
              obtain rfl : v = 69 := by omega
              exact f7_69
          · skip
            rcases Nat.lt_or_ge v 71 with h12 | h12
            · skip
              obtain rfl : v = 70 := by omega
              exact f7_70
            · skip
              obtain rfl : v = 71 := by omega
              exact f7_71
      · skip
        rcases Nat.lt_or_ge v 76 with h8 | h8
        · skip
          rcases Nat.lt_or_ge v 74 with h10 | h10
          · skip
            rcases Nat.lt_or_ge v 73 with h12 | h12
            · skip
              obtain rfl : v = 72 := by omega
              exact f7_72
            · skip
              obtain rfl : v = 73 := by omega
              exact f7_73
          · skip
            rcases Nat.lt_or_ge v 75 with h12 | h12
            · skip
              obtain rfl : v = 74 := by omega
              exact f7_74
            · skip
              obtain rfl : v = 75 := by omega
              exact f7_75
        · skip
          rcases Nat.lt_or_ge v 78 with h10 | h10
          · skip
            rcases Nat.lt_or_ge v 77 with h12 | h12
            · skip
              obtain rfl : v = 76 := by omega
              exact f7_76
            · skip
              obtain rfl : v = 77 := by omega
              exact f7_77
          · skip
            rcases Nat.lt_or_ge v 79 with h12 | h12
            · skip
              obtain rfl : v = 78 := by omega
              exact f7_78
            · skip
              obtain rfl : v = 79 := by omega
              exact f7_79
    · skip
      rcases Nat.lt_or_ge v 88 with h6 | h6
      · skip
        rcases Nat.lt_or_ge v 84 with h8 | h8
        · skip
          rcases Nat.lt_or_ge v 82 with h10 | h10
          · skip
            rcases Nat.lt_or_ge v 81 with h12 | h12
            · skip
              obtain rfl : v = 80 := by omega
              exact f7_80
            · skip
              obtain rfl : v = 81 := by omega
              exact f7_81
          · skip
            rcases Nat.lt_or_ge v 83 with h12 | h12
            · skip
              obtain rfl : v = 82 := by omega
              exact f7_82
            · skip
              obtain rfl : v = 83 := by omega
              exact f7_83
        · skip
          rcases Nat.lt_or_ge v 86 with h10 | h10
          · skip
            rcases Nat.lt_or_ge v 85 with h12 | h12
            · skip
              obtain rfl : v = 84 := by omega
              exact f7_84
            · skip
              obtain rfl : v = 85 := by omega
              exact f7_85
          · skip
            rcases Nat.lt_or_ge v 87 with h12 | h12
            · skip
              obtain rfl : v = 86 := by omega
              exact f7_86
            · skip
              obtain rfl : v = 87 := by omega
              exact f7_87
      · skip
        rcases Nat.lt_or_ge v 92 with h8 | h8
        · skip
          rcases Nat.lt_or_ge v 90 with h10 | h10
          · skip
            rcases Nat.lt_or_ge v 89 with h12 | h12
            · skip
              obtain rfl : v = 88 := by omega
              exact f7_88
            · skip
              obtain rfl : v = 89 := by omega
              exact f7_89
          · skip
            rcases Nat.lt_or_ge v 91 with h12 | h12
            · skip
              obtain rfl : v = 90 := by omega
              exact f7_90
            · skip
              obtain rfl : v = 91 := by omega
              exact f7_91
        · skip
          rcases Nat.lt_or_ge v 94 with h10 | h10
          · skip
            rcases Nat.lt_or_ge v 93 with h12 | h12
            · skip
              obtain rfl : v = 92 := by omega
              exact f7_92
            · skip
              obtain rfl : v = 93 := by omega
              exact f7_93
          · skip
            rcases Nat.lt_or_ge v 95 with h12 | h12
            · skip
              obtain rfl : v = 94 := by omega
              exact f7_94
            · skip
              obtain rfl : v = 95 := by omega
              exact f7_95
  · skip
    rcases Nat.lt_or_ge v 112 with h4 | h4
    · skip
      rcases Nat.lt_or_ge v 104 with h6 | h6
      · skip
        rcases Nat.lt_or_ge v 100 with h8 | h8
        · skip
          rcases Nat.lt_or_ge v 98 with h10 | h10
          · skip
            rcases Nat.lt_or_ge v 97 with h12 | h12
            · skip
              obtain rfl : v = 96 := by omega
              exact f7_96
            · skip
              obtain rfl : v = 97 := by omega
              exact f7_97
          · skip
            rcases Nat.lt_or_ge v 99 with h12 | h12
            · skip
              obtain rfl : v = 98 := by omega
              exact f7_98
            · skip
              obtain rfl : v = 99 := by omega
              exact f7_99
        · skip
          rcases Nat.lt_or_ge v 102 with h10 | h10
          · skip
            rcases Nat.lt_or_ge v 101 with h12 | h12
            · skip
              obtain rfl : v = 100 := by omega
              exact f7_100
            · skip
              obtain rfl : v = 101 := by omega
              exact f7_101
          · skip
            rcases Nat.lt_or_ge v 103 with h12 | h12
            · skip
              obtain rfl : v = 102 := by omega
              exact f7_102
            · skip
              obtain rfl : v = 103 := by omega
              exact f7_103
      · skip
        rcases Nat.lt_or_ge v 108 with h8 | h8
        · skip
          rcases Nat.lt_or_ge v 106 with h10 | h10
          · skip
            rcases Nat.lt_or_ge v 105 with h12 | h12
            · skip
              obtain rfl : v = 104 := by omega
              exact f7_104
            · skip
              obtain rfl : v = 105 := by omega
              exact f7_105
          · skip
            rcases Nat.lt_or_ge v 107 with h12 | h12
            · skip
              obtain rfl : v = 106 := by omega
              exact f7_106
            · skip
              obtain rfl : v = 107 := by omega
              exact f7_107
        · skip
          rcases Nat.lt_or_ge v 110 with h10 | h10
          · skip
            rcases Nat.lt_or_ge v 109 with h12 | h12
            · skip
              obtain rfl : v = 108 := by omega
              exact f7_108
            · skip
              obtain rfl : v = 109 := by omega
              exact f7_109
          · skip
            rcases Nat.lt_or_ge v 111 with h12 | h12
            · skip
              obtain rfl : v = 110 := by omega
              exact f7_110
            · skip
              obtain rfl : v = 111 := by omega
              exact f7_111
    · skip
      rcases Nat.lt_or_ge v 120 with h6 | h6
      · skip
        rcases Nat.lt_or_ge v 116 with h8 | h8
        · skip
          rcases Nat.lt_or_ge v 114 with h10 | h10
          · skip
            rcases Nat.lt_or_ge v 113 with h12 | h12
            · skip
              obtain rfl : v = 112 := by omega
              exact f7_112
            · skip
              obtain rfl : v = 113 := by omega
              exact f7_113
          · skip
            rcases Nat.lt_or_ge v 115 with h12 | h12
            · skip
              obtain rfl : v = 114 := by omega
              exact f7_114
            · skip
              obtain rfl : v = 115 := by omega
              exact f7_115
        · skip
          rcases Nat.lt_or_ge v 118 with h10 | h10
          · skip
            rcases Nat.lt_or_ge v 117 with h12 | h12
            · skip
              obtain rfl : v = 116 := by omega
              exact f7_116
            · skip
              obtain rfl : v = 117 := by omega
              exact f7_117
          · skip
            rcases Nat.lt_or_ge v 119 with h12 | h12
            · skip
              obtain rfl : v = 118 := by omega
              exact f7_118
            · skip
              obtain rfl : v = 119 := by omega
              exact f7_119
      · skip
        rcases Nat.lt_or_ge v 124 with h8 | h8
        · skip
          rcases Nat.lt_or_ge v 122 with h10 | h10
          · skip
            rcases Nat.lt_or_ge v 121 with h12 | h12
            · skip
              obtain rfl : v = 120 := by omega
              exact f7_120
            · skip
              obtain rfl : v = 121 := by omega
              exact f7_121
          · skip
            rcases Nat.lt_or_ge v 123 with h12 | h12
            · skip
              obtain rfl : v = 122 := by omega
              exact f7_122
            · skip
              obtain rfl : v = 123 := by omega
              exact f7_123
        · skip
          rcases Nat.lt_or_ge v 126 with h10 | h10
          · skip
            rcases Nat.lt_or_ge v 125 with h12 | h12
            · skip
              obtain rfl : v = 124 := by omega
              exact f7_124
            · skip
              obtain rfl : v = 125 := by omega
              exact f7_125
          · skip
            rcases Nat.lt_or_ge v 127 with h12 | h12
            · skip
              obtain rfl : v = 126 := by omega
              exact f7_126
            · skip
              obtain rfl : v = 127 := by omega
              exact f7_127
end Go.Proofs.YtdglgiaegjkinaaDoor

/- Format (listing) at the opcodes 128 to 191. Printed by mkfmt.py. -/

namespace Go.Proofs.YtdglgiaegjkinaaDoor
open Go Go.Sx
set_option maxRecDepth 100000
theorem f7_128_n : Fmt7 128 none := fun W c b o n cap => by kernel_rfl
theorem f7_128 : FmAll Fmt7 128 := all_none (by kernel_rfl) (by kernel_rfl) f7_128_n
theorem f7_129_n : Fmt7 129 none := fun W c b o n cap => by kernel_rfl
theorem f7_129 : FmAll Fmt7 129 := all_none (by kernel_rfl) (by kernel_rfl) f7_129_n
theorem f7_130_n : Fmt7 130 none := fun W c b o n cap => by kernel_rfl
theorem f7_130 : FmAll Fmt7 130 := all_none (by kernel_rfl) (by kernel_rfl) f7_130_n
theorem f7_131_n : Fmt7 131 none := fun W c b o n cap => by kernel_rfl
theorem f7_131 : FmAll Fmt7 131 := all_none (by kernel_rfl) (by kernel_rfl) f7_131_n
theorem f7_132_n : Fmt7 132 none := fun W c b o n cap => by kernel_rfl
theorem f7_132 : FmAll Fmt7 132 := all_none (by kernel_rfl) (by kernel_rfl) f7_132_n
theorem f7_133_n : Fmt7 133 none := fun W c b o n cap => by kernel_rfl
theorem f7_133 : FmAll Fmt7 133 := all_none (by kernel_rfl) (by kernel_rfl) f7_133_n
theorem f7_134_n : Fmt7 134 none := fun W c b o n cap => by kernel_rfl
theorem f7_134 : FmAll Fmt7 134 := all_none (by kernel_rfl) (by kernel_rfl) f7_134_n
theorem f7_135_n : Fmt7 135 none := fun W c b o n cap => by kernel_rfl
theorem f7_135 : FmAll Fmt7 135 := all_none (by kernel_rfl) (by kernel_rfl) f7_135_n
theorem f7_136_n : Fmt7 136 none := fun W c b o n cap => by kernel_rfl
theorem f7_136 : FmAll Fmt7 136 := all_none (by kernel_rfl) (by kernel_rfl) f7_136_n
theorem f7_137_n : Fmt7 137 none := fun W c b o n cap => by kernel_rfl
theorem f7_137 : FmAll Fmt7 137 := all_none (by kernel_rfl) (by kernel_rfl) f7_137_n
theorem f7_138_n : Fmt7 138 none := fun W c b o n cap => by kernel_rfl
theorem f7_138 : FmAll Fmt7 138 := all_none (by kernel_rfl) (by kernel_rfl) f7_138_n
theorem f7_139_n : Fmt7 139 none := fun W c b o n cap => by kernel_rfl
theorem f7_139 : FmAll Fmt7 139 := all_none (by kernel_rfl) (by kernel_rfl) f7_139_n
theorem f7_140_n : Fmt7 140 none := fun W c b o n cap => by kernel_rfl
theorem f7_140 : FmAll Fmt7 140 := all_none (by kernel_rfl) (by kernel_rfl) f7_140_n
theorem f7_141_n : Fmt7 141 none := fun W c b o n cap => by kernel_rfl
theorem f7_141 : FmAll Fmt7 141 := all_none (by kernel_rfl) (by kernel_rfl) f7_141_n
theorem f7_142_n : Fmt7 142 none := fun W c b o n cap => by kernel_rfl
theorem f7_142 : FmAll Fmt7 142 := all_none (by kernel_rfl) (by kernel_rfl) f7_142_n
theorem f7_143_n : Fmt7 143 none := fun W c b o n cap => by kernel_rfl
theorem f7_143 : FmAll Fmt7 143 := all_none (by kernel_rfl) (by kernel_rfl) f7_143_n
theorem f7_144_n : Fmt7 144 none := fun W c b o n cap => by kernel_rfl
theorem f7_144 : FmAll Fmt7 144 := all_none (by kernel_rfl) (by kernel_rfl) f7_144_n
theorem f7_145_n : Fmt7 145 none := fun W c b o n cap => by kernel_rfl
theorem f7_145 : FmAll Fmt7 145 := all_none (by kernel_rfl) (by kernel_rfl) f7_145_n
theorem f7_146_n : Fmt7 146 none := fun W c b o n cap => by kernel_rfl
theorem f7_146 : FmAll Fmt7 146 := all_none (by kernel_rfl) (by kernel_rfl) f7_146_n
theorem f7_147_n : Fmt7 147 none := fun W c b o n cap => by kernel_rfl
theorem f7_147 : FmAll Fmt7 147 := all_none (by kernel_rfl) (by kernel_rfl) f7_147_n
theorem f7_148_n : Fmt7 148 none := fun W c b o n cap => by kernel_rfl
theorem f7_148 : FmAll Fmt7 148 := all_none (by kernel_rfl) (by kernel_rfl) f7_148_n
theorem f7_149_n : Fmt7 149 none := fun W c b o n cap => by kernel_rfl
theorem f7_149 : FmAll Fmt7 149 := all_none (by kernel_rfl) (by kernel_rfl) f7_149_n
theorem f7_150_n : Fmt7 150 none := fun W c b o n cap => by kernel_rfl
theorem f7_150 : FmAll Fmt7 150 := all_none (by kernel_rfl) (by kernel_rfl) f7_150_n
theorem f7_151_n : Fmt7 151 none := fun W c b o n cap => by kernel_rfl
theorem f7_151 : FmAll Fmt7 151 := all_none (by kernel_rfl) (by kernel_rfl) f7_151_n
theorem f7_152_n : Fmt7 152 none := fun W c b o n cap => by kernel_rfl
theorem f7_152 : FmAll Fmt7 152 := all_none (by kernel_rfl) (by kernel_rfl) f7_152_n
theorem f7_153_n : Fmt7 153 none := fun W c b o n cap => by kernel_rfl
theorem f7_153 : FmAll Fmt7 153 := all_none (by kernel_rfl) (by kernel_rfl) f7_153_n
theorem f7_154_n : Fmt7 154 none := fun W c b o n cap => by kernel_rfl
theorem f7_154 : FmAll Fmt7 154 := all_none (by kernel_rfl) (by kernel_rfl) f7_154_n
theorem f7_155_n : Fmt7 155 none := fun W c b o n cap => by kernel_rfl
theorem f7_155 : FmAll Fmt7 155 := all_none (by kernel_rfl) (by kernel_rfl) f7_155_n
theorem f7_156_n : Fmt7 156 none := fun W c b o n cap => by kernel_rfl
theorem f7_156 : FmAll Fmt7 156 := all_none (by kernel_rfl) (by kernel_rfl) f7_156_n
theorem f7_157_n : Fmt7 157 none := fun W c b o n cap => by kernel_rfl
theorem f7_157 : FmAll Fmt7 157 := all_none (by kernel_rfl) (by kernel_rfl) f7_157_n
theorem f7_158_n : Fmt7 158 none := fun W c b o n cap => by kernel_rfl
theorem f7_158 : FmAll Fmt7 158 := all_none (by kernel_rfl) (by kernel_rfl) f7_158_n
theorem f7_159_n : Fmt7 159 none := fun W c b o n cap => by kernel_rfl
theorem f7_159 : FmAll Fmt7 159 := all_none (by kernel_rfl) (by kernel_rfl) f7_159_n
theorem f7_160_n : Fmt7 160 none := fun W c b o n cap => by kernel_rfl
theorem f7_160 : FmAll Fmt7 160 := all_none (by kernel_rfl) (by kernel_rfl) f7_160_n
theorem f7_161_n : Fmt7 161 none := fun W c b o n cap => by kernel_rfl
theorem f7_161 : FmAll Fmt7 161 := all_none (by kernel_rfl) (by kernel_rfl) f7_161_n
theorem f7_162_n : Fmt7 162 none := fun W c b o n cap => by kernel_rfl
theorem f7_162 : FmAll Fmt7 162 := all_none (by kernel_rfl) (by kernel_rfl) f7_162_n
theorem f7_163_n : Fmt7 163 none := fun W c b o n cap => by kernel_rfl
theorem f7_163 : FmAll Fmt7 163 := all_none (by kernel_rfl) (by kernel_rfl) f7_163_n
theorem f7_164_n : Fmt7 164 none := fun W c b o n cap => by kernel_rfl
theorem f7_164 : FmAll Fmt7 164 := all_none (by kernel_rfl) (by kernel_rfl) f7_164_n
theorem f7_165_n : Fmt7 165 none := fun W c b o n cap => by kernel_rfl
theorem f7_165 : FmAll Fmt7 165 := all_none (by kernel_rfl) (by kernel_rfl) f7_165_n
theorem f7_166_n : Fmt7 166 none := fun W c b o n cap => by kernel_rfl
theorem f7_166 : FmAll Fmt7 166 := all_none (by kernel_rfl) (by kernel_rfl) f7_166_n
theorem f7_167_n : Fmt7 167 none := fun W c b o n cap => by kernel_rfl
theorem f7_167 : FmAll Fmt7 167 := all_none (by kernel_rfl) (by kernel_rfl) f7_167_n
theorem f7_168_n : Fmt7 168 none := fun W c b o n cap => by kernel_rfl
theorem f7_168 : FmAll Fmt7 168 := all_none (by kernel_rfl) (by kernel_rfl) f7_168_n
theorem f7_169_n : Fmt7 169 none := fun W c b o n cap => by kernel_rfl
theorem f7_169 : FmAll Fmt7 169 := all_none (by kernel_rfl) (by kernel_rfl) f7_169_n
theorem f7_170_n : Fmt7 170 none := fun W c b o n cap => by kernel_rfl
theorem f7_170 : FmAll Fmt7 170 := all_none (by kernel_rfl) (by kernel_rfl) f7_170_n
theorem f7_171_n : Fmt7 171 none := fun W c b o n cap => by kernel_rfl
theorem f7_171 : FmAll Fmt7 171 := all_none (by kernel_rfl) (by kernel_rfl) f7_171_n
theorem f7_172_n : Fmt7 172 none := fun W c b o n cap => by kernel_rfl
theorem f7_172 : FmAll Fmt7 172 := all_none (by kernel_rfl) (by kernel_rfl) f7_172_n
theorem f7_173_n : Fmt7 173 none := fun W c b o n cap => by kernel_rfl
theorem f7_173 : FmAll Fmt7 173 := all_none (by kernel_rfl) (by kernel_rfl) f7_173_n
theorem f7_174_n : Fmt7 174 none := fun W c b o n cap => by kernel_rfl
theorem f7_174 : FmAll Fmt7 174 := all_none (by kernel_rfl) (by kernel_rfl) f7_174_n
theorem f7_175_n : Fmt7 175 none := fun W c b o n cap => by kernel_rfl
theorem f7_175 : FmAll Fmt7 175 := all_none (by kernel_rfl) (by kernel_rfl) f7_175_n
theorem f7_176_n : Fmt7 176 none := fun W c b o n cap => by kernel_rfl
theorem f7_176 : FmAll Fmt7 176 := all_none (by kernel_rfl) (by kernel_rfl) f7_176_n
theorem f7_177_n : Fmt7 177 none := fun W c b o n cap => by kernel_rfl
theorem f7_177 : FmAll Fmt7 177 := all_none (by kernel_rfl) (by kernel_rfl) f7_177_n
theorem f7_178_n : Fmt7 178 none := fun W c b o n cap => by kernel_rfl
theorem f7_178 : FmAll Fmt7 178 := all_none (by kernel_rfl) (by kernel_rfl) f7_178_n
theorem f7_179_n : Fmt7 179 none := fun W c b o n cap => by kernel_rfl
theorem f7_179 : FmAll Fmt7 179 := all_none (by kernel_rfl) (by kernel_rfl) f7_179_n
theorem f7_180_n : Fmt7 180 none := fun W c b o n cap => by kernel_rfl
theorem f7_180 : FmAll Fmt7 180 := all_none (by kernel_rfl) (by kernel_rfl) f7_180_n
theorem f7_181_n : Fmt7 181 none := fun W c b o n cap => by kernel_rfl
theorem f7_181 : FmAll Fmt7 181 := all_none (by kernel_rfl) (by kernel_rfl) f7_181_n
theorem f7_182_n : Fmt7 182 none := fun W c b o n cap => by kernel_rfl
theorem f7_182 : FmAll Fmt7 182 := all_none (by kernel_rfl) (by kernel_rfl) f7_182_n
theorem f7_183_n : Fmt7 183 none := fun W c b o n cap => by kernel_rfl
theorem f7_183 : FmAll Fmt7 183 := all_none (by kernel_rfl) (by kernel_rfl) f7_183_n
theorem f7_184_n : Fmt7 184 none := fun W c b o n cap => by kernel_rfl
theorem f7_184 : FmAll Fmt7 184 := all_none (by kernel_rfl) (by kernel_rfl) f7_184_n
theorem f7_185_n : Fmt7 185 none := fun W c b o n cap => by kernel_rfl
theorem f7_185 : FmAll Fmt7 185 := all_none (by kernel_rfl) (by kernel_rfl) f7_185_n
theorem f7_186_n : Fmt7 186 none := fun W c b o n cap => by kernel_rfl
theorem f7_186 : FmAll Fmt7 186 := all_none (by kernel_rfl) (by kernel_rfl) f7_186_n
theorem f7_187_n : Fmt7 187 none := fun W c b o n cap => by kernel_rfl
theorem f7_187 : FmAll Fmt7 187 := all_none (by kernel_rfl) (by kernel_rfl) f7_187_n
theorem f7_188_n : Fmt7 188 none := fun W c b o n cap => by kernel_rfl
theorem f7_188 : FmAll Fmt7 188 := all_none (by kernel_rfl) (by kernel_rfl) f7_188_n
theorem f7_189_n : Fmt7 189 none := fun W c b o n cap => by kernel_rfl
theorem f7_189 : FmAll Fmt7 189 := all_none (by kernel_rfl) (by kernel_rfl) f7_189_n
theorem f7_190_n : Fmt7 190 none := fun W c b o n cap => by kernel_rfl
theorem f7_190 : FmAll Fmt7 190 := all_none (by kernel_rfl) (by kernel_rfl) f7_190_n
theorem f7_191_n : Fmt7 191 none := fun W c b o n cap => by kernel_rfl
theorem f7_191 : FmAll Fmt7 191 := all_none (by kernel_rfl) (by kernel_rfl) f7_191_n
theorem f7_128_192 (v : Nat) (h : 128 ≤ v) (h' : v < 192) : FmAll Fmt7 v := by
  rcases Nat.lt_or_ge v 160 with h2 | h2
  · skip
    rcases Nat.lt_or_ge v 144 with h4 | h4
    · skip
      rcases Nat.lt_or_ge v 136 with h6 | h6
      · skip
        rcases Nat.lt_or_ge v 132 with h8 | h8
        · skip
          rcases Nat.lt_or_ge v 130 with h10 | h10
          · skip
            rcases Nat.lt_or_ge v 129 with h12 | h12
            · skip
              obtain rfl : v = 128 := by omega
              exact f7_128
            · skip
              obtain rfl : v = 129 := by omega
              exact f7_129
          · skip
            rcases Nat.lt_or_ge v 131 with h12 | h12
            · skip
              obtain rfl : v = 130 := by omega
              exact f7_130
            · skip
              obtain rfl : v = 131 := by omega
              exact f7_131
        · skip
          rcases Nat.lt_or_ge v 134 with h10 | h10
          · skip
            rcases Nat.lt_or_ge v 133 with h12 | h12
            · skip
              obtain rfl : v = 132 := by omega
              exact f7_132
            · skip
              obtain rfl : v = 133 := by omega
              exact f7_133
          · skip
            rcases Nat.lt_or_ge v 135 with h12 | h12
            · skip
              obtain rfl : v = 134 := by omega
              exact f7_134
            · skip
              obtain rfl : v = 135 := by omega
              exact f7_135
      · skip
        rcases Nat.lt_or_ge v 140 with h8 | h8
        · skip
          rcases Nat.lt_or_ge v 138 with h10 | h10
          · skip
            rcases Nat.lt_or_ge v 137 with h12 | h12
            · skip
              obtain rfl : v = 136 := by omega
              exact f7_136
            · skip
              obtain rfl : v = 137 := by omega
              exact f7_137
          · skip
            rcases Nat.lt_or_ge v 139 with h12 | h12
            · skip
              obtain rfl : v = 138 := by omega
              exact f7_138
            · skip
              obtain rfl : v = 139 := by omega
              exact f7_139
        · skip
          rcases Nat.lt_or_ge v 142 with h10 | h10
          · skip
            rcases Nat.lt_or_ge v 141 with h12 | h12
            · skip
              obtain rfl : v = 140 := by omega
              exact f7_140
            · skip
              obtain rfl : v = 141 := by omega
              exact f7_141
          · skip
            rcases Nat.lt_or_ge v 143 with h12 | h12
            · skip
              obtain rfl : v = 142 := by omega
              exact f7_142
            · skip
              obtain rfl : v = 143 := by omega
              exact f7_143
    · skip
      rcases Nat.lt_or_ge v 152 with h6 | h6
      · skip
        rcases Nat.lt_or_ge v 148 with h8 | h8
        · skip
          rcases Nat.lt_or_ge v 146 with h10 | h10
          · skip
            rcases Nat.lt_or_ge v 145 with h12 | h12
            · skip
              obtain rfl : v = 144 := by omega
              exact f7_144
            · skip
              obtain rfl : v = 145 := by omega
              exact f7_145
          · skip
            rcases Nat.lt_or_ge v 147 with h12 | h12
            · skip
              obtain rfl : v = 146 := by omega
              exact f7_146
            · skip
              obtain rfl : v = 147 := by omega
              exact f7_147
        · skip
          rcases Nat.lt_or_ge v 150 with h10 | h10
          · skip
            rcases Nat.lt_or_ge v 149 with h12 | h12
            · skip
              obtain rfl : v = 148 := by omega
              exact f7_148
            · skip
              obtain rfl : v = 149 := by omega
              exact f7_149
          · skip
            rcases Nat.lt_or_ge v 151 with h12 | h12
            · skip
              obtain rfl : v = 150 := by omega
              exact f7_150
            · skip
              obtain rfl : v = 151 := by omega
              exact f7_151
      · skip
        rcases Nat.lt_or_ge v 156 with h8 | h8
        · skip
          rcases Nat.lt_or_ge v 154 with h10 | h10
          · skip
            rcases Nat.lt_or_ge v 153 with h12 | h12
            · skip
              obtain rfl : v = 152 := by omega
              exact f7_152
            · skip
              obtain rfl : v = 153 := by omega
              exact f7_153
          · skip
            rcases Nat.lt_or_ge v 155 with h12 | h12
            · skip
              obtain rfl : v = 154 := by omega
              exact f7_154
            · skip
              obtain rfl : v = 155 := by omega
              exact f7_155
        · skip
          rcases Nat.lt_or_ge v 158 with h10 | h10
          · skip
            rcases Nat.lt_or_ge v 157 with h12 | h12
            · skip
              obtain rfl : v = 156 := by omega
              exact f7_156
            · skip
              obtain rfl : v = 157 := by omega
              exact f7_157
          · skip
            rcases Nat.lt_or_ge v 159 with h12 | h12
            · skip
              obtain rfl : v = 158 := by omega
              exact f7_158
            · skip
              obtain rfl : v = 159 := by omega
              exact f7_159
  · skip
    rcases Nat.lt_or_ge v 176 with h4 | h4
    · skip
      rcases Nat.lt_or_ge v 168 with h6 | h6
      · skip
        rcases Nat.lt_or_ge v 164 with h8 | h8
        · skip
          rcases Nat.lt_or_ge v 162 with h10 | h10
          · skip
            rcases Nat.lt_or_ge v 161 with h12 | h12
            · skip
              obtain rfl : v = 160 := by omega
              exact f7_160
            · skip
              obtain rfl : v = 161 := by omega
              exact f7_161
          · skip
            rcases Nat.lt_or_ge v 163 with h12 | h12
            · skip
              obtain rfl : v = 162 := by omega
              exact f7_162
            · skip
              obtain rfl : v = 163 := by omega
              exact f7_163
        · skip
          rcases Nat.lt_or_ge v 166 with h10 | h10
          · skip
            rcases Nat.lt_or_ge v 165 with h12 | h12
            · skip
              obtain rfl : v = 164 := by omega
              exact f7_164
            · skip
              obtain rfl : v = 165 := by omega
              exact f7_165
          · skip
            rcases Nat.lt_or_ge v 167 with h12 | h12
            · skip
              obtain rfl : v = 166 := by omega
              exact f7_166
            · skip
              obtain rfl : v = 167 := by omega
              exact f7_167
      · skip
        rcases Nat.lt_or_ge v 172 with h8 | h8
        · skip
          rcases Nat.lt_or_ge v 170 with h10 | h10
          · skip
            rcases Nat.lt_or_ge v 169 with h12 | h12
            · skip
              obtain rfl : v = 168 := by omega
              exact f7_168
            · skip
              obtain rfl : v = 169 := by omega
              exact f7_169
          · skip
            rcases Nat.lt_or_ge v 171 with h12 | h12
            · skip
              obtain rfl : v = 170 := by omega
              exact f7_170
            · skip
              obtain rfl : v = 171 := by omega
              exact f7_171
        · skip
          rcases Nat.lt_or_ge v 174 with h10 | h10
          · skip
            rcases Nat.lt_or_ge v 173 with h12 | h12
            · skip
              obtain rfl : v = 172 := by omega
              exact f7_172
            · skip
              obtain rfl : v = 173 := by omega
              exact f7_173
          · skip
            rcases Nat.lt_or_ge v 175 with h12 | h12
            · skip
              obtain rfl : v = 174 := by omega
              exact f7_174
            · skip
              obtain rfl : v = 175 := by omega
              exact f7_175
    · skip
      rcases Nat.lt_or_ge v 184 with h6 | h6
      · skip
        rcases Nat.lt_or_ge v 180 with h8 | h8
        · skip
          rcases Nat.lt_or_ge v 178 with h10 | h10
          · skip
            rcases Nat.lt_or_ge v 177 with h12 | h12
            · skip
              obtain rfl : v = 176 := by omega
              exact f7_176
            · skip
              obtain rfl : v = 177 := by omega
              exact f7_177
          · skip
            rcases Nat.lt_or_ge v 179 with h12 | h12
            · skip
              obtain rfl : v = 178 := by omega
              exact f7_178
            · skip
              obtain rfl : v = 179 := by omega
              exact f7_179
        · skip
          rcases Nat.lt_or_ge v 182 with h10 | h10
          · skip
            rcases Nat.lt_or_ge v 181 with h12 | h12
            · skip
              obtain rfl : v = 180 := by omega
              exact f7_180
            · skip
              obtain rfl : v = 181 := by omega
              exact f7_181
          · skip
            rcases Nat.lt_or_ge v 183 with h12 | h12
            · skip
              obtain rfl : v = 182 := by omega
              exact f7_182
            · skip
              obtain rfl : v = 183 := by omega
              exact f7_183
      · skip
        rcases Nat.lt_or_ge v 188 with h8 | h8
        · skip
          rcases Nat.lt_or_ge v 186 with h10 | h10
          · skip
            rcases Nat.lt_or_ge v 185 with h12 | h12
            · skip
              obtain rfl : v = 184 := by omega
              exact f7_184
            · skip
              obtain rfl : v = 185 := by omega
              exact f7_185
          · skip
            rcases Nat.lt_or_ge v 187 with h12 | h12
            · skip
              obtain rfl : v = 186 := by omega
              exact f7_186
            · skip
              obtain rfl : v = 187 := by omega
              exact f7_187
        · skip
          rcases Nat.lt_or_ge v 190 with h10 | h10
          · skip
            rcases Nat.lt_or_ge v 189 with h12 | h12
            · skip
              obtain rfl : v = 188 := by omega
              exact f7_188
            · skip
              obtain rfl : v = 189 := by omega
              exact f7_189
          · skip
            rcases Nat.lt_or_ge v 191 with h12 | h12
            · skip
              obtain rfl : v = 190 := by omega
              exact f7_190
            · skip
              obtain rfl : v = 191 := by omega
              exact f7_191
end Go.Proofs.YtdglgiaegjkinaaDoor

/- Format (listing) at the opcodes 192 to 255. Printed by mkfmt.py. -/

namespace Go.Proofs.YtdglgiaegjkinaaDoor
open Go Go.Sx
set_option maxRecDepth 100000
theorem f7_192_n : Fmt7 192 none := fun W c b o n cap => by kernel_rfl
theorem f7_192 : FmAll Fmt7 192 := all_none (by kernel_rfl) (by kernel_rfl) f7_192_n
theorem f7_193_n : Fmt7 193 none := fun W c b o n cap => by kernel_rfl
theorem f7_193 : FmAll Fmt7 193 := all_none (by kernel_rfl) (by kernel_rfl) f7_193_n
theorem f7_194_n : Fmt7 194 none := fun W c b o n cap => by kernel_rfl
theorem f7_194 : FmAll Fmt7 194 := all_none (by kernel_rfl) (by kernel_rfl) f7_194_n
theorem f7_195_n : Fmt7 195 none := fun W c b o n cap => by kernel_rfl
theorem f7_195 : FmAll Fmt7 195 := all_none (by kernel_rfl) (by kernel_rfl) f7_195_n
theorem f7_196_n : Fmt7 196 none := fun W c b o n cap => by kernel_rfl
theorem f7_196 : FmAll Fmt7 196 := all_none (by kernel_rfl) (by kernel_rfl) f7_196_n
theorem f7_197_n : Fmt7 197 none := fun W c b o n cap => by kernel_rfl
theorem f7_197 : FmAll Fmt7 197 := all_none (by kernel_rfl) (by kernel_rfl) f7_197_n
theorem f7_198_n : Fmt7 198 none := fun W c b o n cap => by kernel_rfl
theorem f7_198 : FmAll Fmt7 198 := all_none (by kernel_rfl) (by kernel_rfl) f7_198_n
theorem f7_199_n : Fmt7 199 none := fun W c b o n cap => by kernel_rfl
theorem f7_199 : FmAll Fmt7 199 := all_none (by kernel_rfl) (by kernel_rfl) f7_199_n
theorem f7_200_n : Fmt7 200 none := fun W c b o n cap => by kernel_rfl
theorem f7_200 : FmAll Fmt7 200 := all_none (by kernel_rfl) (by kernel_rfl) f7_200_n
theorem f7_201_n : Fmt7 201 none := fun W c b o n cap => by kernel_rfl
theorem f7_201 : FmAll Fmt7 201 := all_none (by kernel_rfl) (by kernel_rfl) f7_201_n
theorem f7_202_n : Fmt7 202 none := fun W c b o n cap => by kernel_rfl
theorem f7_202 : FmAll Fmt7 202 := all_none (by kernel_rfl) (by kernel_rfl) f7_202_n
theorem f7_203_t : Fmt7 203 (some true) := fun W c b o n cap => by kernel_rfl
theorem f7_203_f : Fmt7 203 (some false) := fun W c b o n cap => by kernel_rfl
theorem f7_203 : FmAll Fmt7 203 := all_some f7_203_t f7_203_f
theorem f7_204_n : Fmt7 204 none := fun W c b o n cap => by kernel_rfl
theorem f7_204 : FmAll Fmt7 204 := all_none (by kernel_rfl) (by kernel_rfl) f7_204_n
theorem f7_205_n : Fmt7 205 none := fun W c b o n cap => by kernel_rfl
theorem f7_205 : FmAll Fmt7 205 := all_none (by kernel_rfl) (by kernel_rfl) f7_205_n
theorem f7_206_n : Fmt7 206 none := fun W c b o n cap => by kernel_rfl
theorem f7_206 : FmAll Fmt7 206 := all_none (by kernel_rfl) (by kernel_rfl) f7_206_n
theorem f7_207_n : Fmt7 207 none := fun W c b o n cap => by kernel_rfl
theorem f7_207 : FmAll Fmt7 207 := all_none (by kernel_rfl) (by kernel_rfl) f7_207_n
theorem f7_208_n : Fmt7 208 none := fun W c b o n cap => by kernel_rfl
theorem f7_208 : FmAll Fmt7 208 := all_none (by kernel_rfl) (by kernel_rfl) f7_208_n
theorem f7_209_n : Fmt7 209 none := fun W c b o n cap => by kernel_rfl
theorem f7_209 : FmAll Fmt7 209 := all_none (by kernel_rfl) (by kernel_rfl) f7_209_n
theorem f7_210_n : Fmt7 210 none := fun W c b o n cap => by kernel_rfl
theorem f7_210 : FmAll Fmt7 210 := all_none (by kernel_rfl) (by kernel_rfl) f7_210_n
theorem f7_211_n : Fmt7 211 none := fun W c b o n cap => by kernel_rfl
theorem f7_211 : FmAll Fmt7 211 := all_none (by kernel_rfl) (by kernel_rfl) f7_211_n
theorem f7_212_n : Fmt7 212 none := fun W c b o n cap => by kernel_rfl
theorem f7_212 : FmAll Fmt7 212 := all_none (by kernel_rfl) (by kernel_rfl) f7_212_n
theorem f7_213_n : Fmt7 213 none := fun W c b o n cap => by kernel_rfl
theorem f7_213 : FmAll Fmt7 213 := all_none (by kernel_rfl) (by kernel_rfl) f7_213_n
theorem f7_214_n : Fmt7 214 none := fun W c b o n cap => by kernel_rfl
theorem f7_214 : FmAll Fmt7 214 := all_none (by kernel_rfl) (by kernel_rfl) f7_214_n
theorem f7_215_n : Fmt7 215 none := fun W c b o n cap => by kernel_rfl
theorem f7_215 : FmAll Fmt7 215 := all_none (by kernel_rfl) (by kernel_rfl) f7_215_n
theorem f7_216_n : Fmt7 216 none := fun W c b o n cap => by kernel_rfl
theorem f7_216 : FmAll Fmt7 216 := all_none (by kernel_rfl) (by kernel_rfl) f7_216_n
theorem f7_217_t : Fmt7 217 (some true) := fun W c b o n cap => by kernel_rfl
theorem f7_217_f : Fmt7 217 (some false) := fun W c b o n cap => by kernel_rfl
theorem f7_217 : FmAll Fmt7 217 := all_some f7_217_t f7_217_f
theorem f7_218_n : Fmt7 218 none := fun W c b o n cap => by kernel_rfl
theorem f7_218 : FmAll Fmt7 218 := all_none (by kernel_rfl) (by kernel_rfl) f7_218_n
theorem f7_219_n : Fmt7 219 none := fun W c b o n cap => by kernel_rfl
theorem f7_219 : FmAll Fmt7 219 := all_none (by kernel_rfl) (by kernel_rfl) f7_219_n
theorem f7_220_n : Fmt7 220 none := fun W c b o n cap => by kernel_rfl
theorem f7_220 : FmAll Fmt7 220 := all_none (by kernel_rfl) (by kernel_rfl) f7_220_n
theorem f7_221_t : Fmt7 221 (some true) := fun W c b o n cap => by kernel_rfl
theorem f7_221_f : Fmt7 221 (some false) := fun W c b o n cap => by kernel_rfl
theorem f7_221 : FmAll Fmt7 221 := all_some f7_221_t f7_221_f
theorem f7_222_n : Fmt7 222 none := fun W c b o n cap => by kernel_rfl
theorem f7_222 : FmAll Fmt7 222 := all_none (by kernel_rfl) (by kernel_rfl) f7_222_n
theorem f7_223_n : Fmt7 223 none := fun W c b o n cap => by kernel_rfl
theorem f7_223 : FmAll Fmt7 223 := all_none (by kernel_rfl) (by kernel_rfl) f7_223_n
theorem f7_224_n : Fmt7 224 none := fun W c b o n cap => by kernel_rfl
theorem f7_224 : FmAll Fmt7 224 := all_none (by kernel_rfl) (by kernel_rfl) f7_224_n
theorem f7_225_n : Fmt7 225 none := fun W c b o n cap => by kernel_rfl
theorem f7_225 : FmAll Fmt7 225 := all_none (by kernel_rfl) (by kernel_rfl) f7_225_n
theorem f7_226_n : Fmt7 226 none := fun W c b o n cap => by kernel_rfl
theorem f7_226 : FmAll Fmt7 226 := all_none (by kernel_rfl) (by kernel_rfl) f7_226_n
theorem f7_227_n : Fmt7 227 none := fun W c b o n cap => by kernel_rfl
theorem f7_227 : FmAll Fmt7 227 := all_none (by kernel_rfl) (by kernel_rfl) f7_227_n
theorem f7_228_n : Fmt7 228 none := fun W c b o n cap => by kernel_rfl
theorem f7_228 : FmAll Fmt7 228 := all_none (by kernel_rfl) (by kernel_rfl) f7_228_n
theorem f7_229_n : Fmt7 229 none := fun W c b o n cap => by kernel_rfl
theorem f7_229 : FmAll Fmt7 229 := all_none (by kernel_rfl) (by kernel_rfl) f7_229_n
theorem f7_230_n : Fmt7 230 none := fun W c b o n cap => by kernel_rfl
theorem f7_230 : FmAll Fmt7 230 := all_none (by kernel_rfl) (by kernel_rfl) f7_230_n
theorem f7_231_n : Fmt7 231 none := fun W c b o n cap => by kernel_rfl
theorem f7_231 : FmAll Fmt7 231 := all_none (by kernel_rfl) (by kernel_rfl) f7_231_n
theorem f7_232_n : Fmt7 232 none := fun W c b o n cap => by kernel_rfl
theorem f7_232 : FmAll Fmt7 232 := all_none (by kernel_rfl) (by kernel_rfl) f7_232_n
theorem f7_233_n : Fmt7 233 none := fun W c b o n cap => by kernel_rfl
theorem f7_233 : FmAll Fmt7 233 := all_none (by kernel_rfl) (by kernel_rfl) f7_233_n
theorem f7_234_n : Fmt7 234 none := fun W c b o n cap => by kernel_rfl
theorem f7_234 : FmAll Fmt7 234 := all_none (by kernel_rfl) (by kernel_rfl) f7_234_n
theorem f7_235_n : Fmt7 235 none := fun W c b o n cap => by kernel_rfl
theorem f7_235 : FmAll Fmt7 235 := all_none (by kernel_rfl) (by kernel_rfl) f7_235_n
theorem f7_236_n : Fmt7 236 none := fun W c b o n cap => by kernel_rfl
theorem f7_236 : FmAll Fmt7 236 := all_none (by kernel_rfl) (by kernel_rfl) f7_236_n
theorem f7_237_t : Fmt7 237 (some true) := fun W c b o n cap => by kernel_rfl
theorem f7_237_f : Fmt7 237 (some false) := fun W c b o n cap => by kernel_rfl
theorem f7_237 : FmAll Fmt7 237 := all_some f7_237_t f7_237_f
theorem f7_238_n : Fmt7 238 none := fun W c b o n cap => by kernel_rfl
theorem f7_238 : FmAll Fmt7 238 := all_none (by kernel_rfl) (by kernel_rfl) f7_238_n
theorem f7_239_n : Fmt7 239 none := fun W c b o n cap => by kernel_rfl
theorem f7_239 : FmAll Fmt7 239 := all_none (by kernel_rfl) (by kernel_rfl) f7_239_n
theorem f7_240_n : Fmt7 240 none := fun W c b o n cap => by kernel_rfl
theorem f7_240 : FmAll Fmt7 240 := all_none (by kernel_rfl) (by kernel_rfl) f7_240_n
theorem f7_241_n : Fmt7 241 none := fun W c b o n cap => by kernel_rfl
theorem f7_241 : FmAll Fmt7 241 := all_none (by kernel_rfl) (by kernel_rfl) f7_241_n
theorem f7_242_n : Fmt7 242 none := fun W c b o n cap => by kernel_rfl
theorem f7_242 : FmAll Fmt7 242 := all_none (by kernel_rfl) (by kernel_rfl) f7_242_n
theorem f7_243_n : Fmt7 243 none := fun W c b o n cap => by kernel_rfl
theorem f7_243 : FmAll Fmt7 243 := all_none (by kernel_rfl) (by kernel_rfl) f7_243_n
theorem f7_244_n : Fmt7 244 none := fun W c b o n cap => by kernel_rfl
theorem f7_244 : FmAll Fmt7 244 := all_none (by kernel_rfl) (by kernel_rfl) f7_244_n
theorem f7_245_n : Fmt7 245 none := fun W c b o n cap => by kernel_rfl
theorem f7_245 : FmAll Fmt7 245 := all_none (by kernel_rfl) (by kernel_rfl) f7_245_n
theorem f7_246_n : Fmt7 246 none := fun W c b o n cap => by kernel_rfl
theorem f7_246 : FmAll Fmt7 246 := all_none (by kernel_rfl) (by kernel_rfl) f7_246_n
theorem f7_247_n : Fmt7 247 none := fun W c b o n cap => by kernel_rfl
theorem f7_247 : FmAll Fmt7 247 := all_none (by kernel_rfl) (by kernel_rfl) f7_247_n
theorem f7_248_n : Fmt7 248 none := fun W c b o n cap => by kernel_rfl
theorem f7_248 : FmAll Fmt7 248 := all_none (by kernel_rfl) (by kernel_rfl) f7_248_n
theorem f7_249_n : Fmt7 249 none := fun W c b o n cap => by kernel_rfl
theorem f7_249 : FmAll Fmt7 249 := all_none (by kernel_rfl) (by kernel_rfl) f7_249_n
theorem f7_250_n : Fmt7 250 none := fun W c b o n cap => by kernel_rfl
theorem f7_250 : FmAll Fmt7 250 := all_none (by kernel_rfl) (by kernel_rfl) f7_250_n
theorem f7_251_n : Fmt7 251 none := fun W c b o n cap => by kernel_rfl
theorem f7_251 : FmAll Fmt7 251 := all_none (by kernel_rfl) (by kernel_rfl) f7_251_n
theorem f7_252_n : Fmt7 252 none := fun W c b o n cap => by kernel_rfl
theorem f7_252 : FmAll Fmt7 252 := all_none (by kernel_rfl) (by kernel_rfl) f7_252_n
theorem f7_253_t : Fmt7 253 (some true) := fun W c b o n cap => by kernel_rfl
theorem f7_253_f : Fmt7 253 (some false) := fun W c b o n cap => by kernel_rfl
theorem f7_253 : FmAll Fmt7 253 := all_some f7_253_t f7_253_f
theorem f7_254_n : Fmt7 254 none := fun W c b o n cap => by kernel_rfl
theorem f7_254 : FmAll Fmt7 254 := all_none (by kernel_rfl) (by kernel_rfl) f7_254_n
theorem f7_255_n : Fmt7 255 none := fun W c b o n cap => by kernel_rfl
theorem f7_255 : FmAll Fmt7 255 := all_none (by kernel_rfl) (by kernel_rfl) f7_255_n
theorem f7_192_256 (v : Nat) (h : 192 ≤ v) (h' : v < 256) : FmAll Fmt7 v := by
  rcases Nat.lt_or_ge v 224 with h2 | h2
  · skip
    rcases Nat.lt_or_ge v 208 with h4 | h4
    · skip
      rcases Nat.lt_or_ge v 200 with h6 | h6
      · skip
        rcases Nat.lt_or_ge v 196 with h8 | h8
        · skip
          rcases Nat.lt_or_ge v 194 with h10 | h10
          · skip
            rcases Nat.lt_or_ge v 193 with h12 | h12
            · skip
              obtain rfl : v = 192 := by omega
              exact f7_192
            · skip
              obtain rfl : v = 193 := by omega
              exact f7_193
          · skip
            rcases Nat.lt_or_ge v 195 with h12 | h12
            · skip
              obtain rfl : v = 194 := by omega
              exact f7_194
            · skip
              obtain rfl : v = 195 := by omega
              exact f7_195
        · skip
          rcases Nat.lt_or_ge v 198 with h10 | h10
          · skip
            rcases Nat.lt_or_ge v 197 with h12 | h12
            · skip
              obtain rfl : v = 196 := by omega
              exact f7_196
            · skip
              obtain rfl : v = 197 := by omega
              exact f7_197
          · skip
            rcases Nat.lt_or_ge v 199 with h12 | h12
            · skip
              obtain rfl : v = 198 := by omega
              exact f7_198
            · skip
              obtain rfl : v = 199 := by omega
              exact f7_199
      · skip
        rcases Nat.lt_or_ge v 204 with h8 | h8
        · skip
          rcases Nat.lt_or_ge v 202 with h10 | h10
          · skip
            rcases Nat.lt_or_ge v 201 with h12 | h12
            · skip
              obtain rfl : v = 200 := by omega
              exact f7_200
            · skip
              obtain rfl : v = 201 := by omega
              exact f7_201
          · skip
            rcases Nat.lt_or_ge v 203 with h12 | h12
            · skip
              obtain rfl : v = 202 := by omega
              exact f7_202
            · skip
              obtain rfl : v = 203 := by omega
              exact f7_203
        · skip
          rcases Nat.lt_or_ge v 206 with h10 | h10
          · skip
            rcases Nat.lt_or_ge v 205 with h12 | h12
            · skip
              obtain rfl : v = 204 := by omega
              exact f7_204
            · skip
              obtain rfl : v = 205 := by omega
              exact f7_205
          · skip
            rcases Nat.lt_or_ge v 207 with h12 | h12
            · skip
              obtain rfl : v = 206 := by omega
              exact f7_206
            · skip
              obtain rfl : v = 207 := by omega
              exact f7_207
    · skip
      rcases Nat.lt_or_ge v 216 with h6 | h6
      · skip
        rcases Nat.lt_or_ge v 212 with h8 | h8
        · skip
          rcases Nat.lt_or_ge v 210 with h10 | h10
          · skip
            rcases Nat.lt_or_ge v 209 with h12 | h12
            · skip
              obtain rfl : v = 208 := by omega
              exact f7_208
            · skip
              obtain rfl : v = 209 := by omega
              exact f7_209
          · skip
            rcases Nat.lt_or_ge v 211 with h12 | h12
            · skip
              obtain rfl : v = 210 := by omega
              exact f7_210
            · skip
              obtain rfl : v = 211 := by omega
              exact f7_211
        · skip
          rcases Nat.lt_or_ge v 214 with h10 | h10
          · skip
            rcases Nat.lt_or_ge v 213 with h12 | h12
            · skip
              obtain rfl : v = 212 := by omega
              exact f7_212
            · skip
              obtain rfl : v = 213 := by omega
              exact f7_213
          · skip
            rcases Nat.lt_or_ge v 215 with h12 | h12
            · skip
              obtain rfl : v = 214 := by omega
              exact f7_214
            · skip
              obtain rfl : v = 215 := by omega
              exact f7_215
      · skip
        rcases Nat.lt_or_ge v 220 with h8 | h8
        · skip
          rcases Nat.lt_or_ge v 218 with h10 | h10
          · skip
            rcases Nat.lt_or_ge v 217 with h12 | h12
            · skip
              obtain rfl : v = 216 := by omega
              exact f7_216
            · skip
              obtain rfl : v = 217 := by omega
              exact f7_217
          · skip
            rcases Nat.lt_or_ge v 219 with h12 | h12
            · skip
              obtain rfl : v = 218 := by omega
              exact f7_218
            · skip
              obtain rfl : v = 219 := by omega
              exact f7_219
        · skip
          rcases Nat.lt_or_ge v 222 with h10 | h10
          · skip
            rcases Nat.lt_or_ge v 221 with h12 | h12
            · skip
              obtain rfl : v = 220 := by omega
              exact f7_220
            · skip
              obtain rfl : v = 221 := by omega
              exact f7_221
          · skip
            rcases Nat.lt_or_ge v 223 with h12 | h12
            · skip
              obtain rfl : v = 222 := by omega
              exact f7_222
            · skip
              obtain rfl : v = 223 := by omega
              exact f7_223
  · skip
    rcases Nat.lt_or_ge v 240 with h4 | h4
    · skip
      rcases Nat.lt_or_ge v 232 with h6 | h6
      · skip
        rcases Nat.lt_or_ge v 228 with h8 | h8
        · skip
          rcases Nat.lt_or_ge v 226 with h10 | h10
          · skip
            rcases Nat.lt_or_ge v 225 with h12 | h12
            · skip
              obtain rfl : v = 224 := by omega
              exact f7_224
            · skip
              obtain rfl : v = 225 := by omega
              exact f7_225
          · skip
            rcases Nat.lt_or_ge v 227 with h12 | h12
            · skip
              obtain rfl : v = 226 := by omega
              exact f7_226
            · skip
              obtain rfl : v = 227 := by omega
              exact f7_227
        · skip
          rcases Nat.lt_or_ge v 230 with h10 | h10
          · skip
            rcases Nat.lt_or_ge v 229 with h12 | h12
            · skip
              obtain rfl : v = 228 := by omega
              exact f7_228
            · skip
              obtain rfl : v = 229 := by omega
              exact f7_229
          · skip
            rcases Nat.lt_or_ge v 231 with h12 | h12
            · skip
              obtain rfl : v = 230 := by omega
              exact f7_230
            · skip
              obtain rfl : v = 231 := by omega
              exact f7_231
      · skip
        rcases Nat.lt_or_ge v 236 with h8 | h8
        · skip
          rcases Nat.lt_or_ge v 234 with h10 | h10
          · skip
            rcases Nat.lt_or_ge v 233 with h12 | h12
            · skip
              obtain rfl : v = 232 := by omega
              exact f7_232
            · skip
              obtain rfl : v = 233 := by omega
              exact f7_233
          · skip
            rcases Nat.lt_or_ge v 235 with h12 | h12
            · skip
              obtain rfl : v = 234 := by omega
              exact f7_234
            · skip
              obtain rfl : v = 235 := by omega
              exact f7_235
        · skip
          rcases Nat.lt_or_ge v 238 with h10 | h10
          · skip
            rcases Nat.lt_or_ge v 237 with h12 | h12
            · skip
              obtain rfl : v = 236 := by omega
              exact f7_236
            · skip
              obtain rfl : v = 237 := by omega
              exact f7_237
          · skip
            rcases Nat.lt_or_ge v 239 with h12 | h12
            · skip
              obtain rfl : v = 238 := by omega
              exact f7_238
            · skip
              obtain rfl : v = 239 := by omega
              exact f7_239
    · skip
      rcases Nat.lt_or_ge v 248 with h6 | h6
      · skip
        rcases Nat.lt_or_ge v 244 with h8 | h8
        · skip
          rcases Nat.lt_or_ge v 242 with h10 | h10
          · skip
            rcases Nat.lt_or_ge v 241 with h12 | h12
            · skip
              obtain rfl : v = 240 := by omega
              exact f7_240
            · skip
              obtain rfl : v = 241 := by omega
              exact f7_241
          · skip
            rcases Nat.lt_or_ge v 243 with h12 | h12
            · skip
              obtain rfl : v = 242 := by omega
              exact f7_242
            · skip
              obtain rfl : v = 243 := by omega
              exact f7_243
        · skip
          rcases Nat.lt_or_ge v 246 with h10 | h10
          · skip
            rcases Nat.lt_or_ge v 245 with h12 | h12
            · skip
              obtain rfl : v = 244 := by omega
              exact f7_244
            · skip
              obtain rfl : v = 245 := by omega
              exact f7_245
          · skip
            rcases Nat.lt_or_ge v 247 with h12 | h12
            · skip
              obtain rfl : v = 246 := by omega
              exact f7_246
            · skip
              obtain rfl : v = 247 := by omega
              exact f7_247
      · skip
        rcases Nat.lt_or_ge v 252 with h8 | h8
        · skip
          rcases Nat.lt_or_ge v 250 with h10 | h10
          · skip
            rcases Nat.lt_or_ge v 249 with h12 | h12
            · skip
              obtain rfl : v = 248 := by omega
              exact f7_248
            · skip
              obtain rfl : v = 249 := by omega
              exact f7_249
          · skip
            rcases Nat.lt_or_ge v 251 with h12 | h12
            · skip
              obtain rfl : v = 250 := by omega
              exact f7_250
            · skip
              obtain rfl : v = 251 := by omega
              exact f7_251
        · skip
          rcases Nat.lt_or_ge v 254 with h10 | h10
          · skip
            rcases Nat.lt_or_ge v 253 with h12 | h12
            · skip
              obtain rfl : v = 252 := by omega
              exact f7_252
            · skip
              obtain rfl : v = 253 := by omega
              exact f7_253
          · skip
            rcases Nat.lt_or_ge v 255 with h12 | h12
            · skip
              obtain rfl : v = 254 := by omega
              exact f7_254
            · skip
              obtain rfl : v = 255 := by omega
              exact f7_255
end Go.Proofs.YtdglgiaegjkinaaDoor
