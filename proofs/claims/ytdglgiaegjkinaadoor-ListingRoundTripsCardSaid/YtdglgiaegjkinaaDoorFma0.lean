/- Format (listing) at the opcodes 0 to 63. Printed by mkfmt.py. -/
import Derived.Test.YtdglgiaegjkinaaDoorSpc
namespace Go.Proofs.YtdglgiaegjkinaaDoor
open Go Go.Sx
set_option maxRecDepth 100000
theorem f7_0_n : Fmt7 0 none := fun W c b o n cap => by kernel_rfl
theorem f7_0 : FmAll Fmt7 0 := all_none (by kernel_rfl) (by kernel_rfl) f7_0_n
theorem f7_1_n : Fmt7 1 none := fun W c b o n cap => by kernel_rfl
theorem f7_1 : FmAll Fmt7 1 := all_none (by kernel_rfl) (by kernel_rfl) f7_1_n
theorem f7_2_n : Fmt7 2 none := fun W c b o n cap => by kernel_rfl
theorem f7_2 : FmAll Fmt7 2 := all_none (by kernel_rfl) (by kernel_rfl) f7_2_n
theorem f7_3_n : Fmt7 3 none := fun W c b o n cap => by kernel_rfl
theorem f7_3 : FmAll Fmt7 3 := all_none (by kernel_rfl) (by kernel_rfl) f7_3_n
theorem f7_4_n : Fmt7 4 none := fun W c b o n cap => by kernel_rfl
theorem f7_4 : FmAll Fmt7 4 := all_none (by kernel_rfl) (by kernel_rfl) f7_4_n
theorem f7_5_n : Fmt7 5 none := fun W c b o n cap => by kernel_rfl
theorem f7_5 : FmAll Fmt7 5 := all_none (by kernel_rfl) (by kernel_rfl) f7_5_n
theorem f7_6_n : Fmt7 6 none := fun W c b o n cap => by kernel_rfl
theorem f7_6 : FmAll Fmt7 6 := all_none (by kernel_rfl) (by kernel_rfl) f7_6_n
theorem f7_7_n : Fmt7 7 none := fun W c b o n cap => by kernel_rfl
theorem f7_7 : FmAll Fmt7 7 := all_none (by kernel_rfl) (by kernel_rfl) f7_7_n
theorem f7_8_t : Fmt7 8 (some true) := fun W c b o n cap => by kernel_rfl
theorem f7_8_f : Fmt7 8 (some false) := fun W c b o n cap => by kernel_rfl
theorem f7_8 : FmAll Fmt7 8 := all_some f7_8_t f7_8_f
theorem f7_9_n : Fmt7 9 none := fun W c b o n cap => by kernel_rfl
theorem f7_9 : FmAll Fmt7 9 := all_none (by kernel_rfl) (by kernel_rfl) f7_9_n
theorem f7_10_n : Fmt7 10 none := fun W c b o n cap => by kernel_rfl
theorem f7_10 : FmAll Fmt7 10 := all_none (by kernel_rfl) (by kernel_rfl) f7_10_n
theorem f7_11_n : Fmt7 11 none := fun W c b o n cap => by kernel_rfl
theorem f7_11 : FmAll Fmt7 11 := all_none (by kernel_rfl) (by kernel_rfl) f7_11_n
theorem f7_12_n : Fmt7 12 none := fun W c b o n cap => by kernel_rfl
theorem f7_12 : FmAll Fmt7 12 := all_none (by kernel_rfl) (by kernel_rfl) f7_12_n
theorem f7_13_n : Fmt7 13 none := fun W c b o n cap => by kernel_rfl
theorem f7_13 : FmAll Fmt7 13 := all_none (by kernel_rfl) (by kernel_rfl) f7_13_n
theorem f7_14_n : Fmt7 14 none := fun W c b o n cap => by kernel_rfl
theorem f7_14 : FmAll Fmt7 14 := all_none (by kernel_rfl) (by kernel_rfl) f7_14_n
theorem f7_15_n : Fmt7 15 none := fun W c b o n cap => by kernel_rfl
theorem f7_15 : FmAll Fmt7 15 := all_none (by kernel_rfl) (by kernel_rfl) f7_15_n
theorem f7_16_t : Fmt7 16 (some true) := fun W c b o n cap => by kernel_rfl
theorem f7_16_f : Fmt7 16 (some false) := fun W c b o n cap => by kernel_rfl
theorem f7_16 : FmAll Fmt7 16 := all_some f7_16_t f7_16_f
theorem f7_17_n : Fmt7 17 none := fun W c b o n cap => by kernel_rfl
theorem f7_17 : FmAll Fmt7 17 := all_none (by kernel_rfl) (by kernel_rfl) f7_17_n
theorem f7_18_n : Fmt7 18 none := fun W c b o n cap => by kernel_rfl
theorem f7_18 : FmAll Fmt7 18 := all_none (by kernel_rfl) (by kernel_rfl) f7_18_n
theorem f7_19_n : Fmt7 19 none := fun W c b o n cap => by kernel_rfl
theorem f7_19 : FmAll Fmt7 19 := all_none (by kernel_rfl) (by kernel_rfl) f7_19_n
theorem f7_20_n : Fmt7 20 none := fun W c b o n cap => by kernel_rfl
theorem f7_20 : FmAll Fmt7 20 := all_none (by kernel_rfl) (by kernel_rfl) f7_20_n
theorem f7_21_n : Fmt7 21 none := fun W c b o n cap => by kernel_rfl
theorem f7_21 : FmAll Fmt7 21 := all_none (by kernel_rfl) (by kernel_rfl) f7_21_n
theorem f7_22_n : Fmt7 22 none := fun W c b o n cap => by kernel_rfl
theorem f7_22 : FmAll Fmt7 22 := all_none (by kernel_rfl) (by kernel_rfl) f7_22_n
theorem f7_23_n : Fmt7 23 none := fun W c b o n cap => by kernel_rfl
theorem f7_23 : FmAll Fmt7 23 := all_none (by kernel_rfl) (by kernel_rfl) f7_23_n
theorem f7_24_t : Fmt7 24 (some true) := fun W c b o n cap => by kernel_rfl
theorem f7_24_f : Fmt7 24 (some false) := fun W c b o n cap => by kernel_rfl
theorem f7_24 : FmAll Fmt7 24 := all_some f7_24_t f7_24_f
theorem f7_25_n : Fmt7 25 none := fun W c b o n cap => by kernel_rfl
theorem f7_25 : FmAll Fmt7 25 := all_none (by kernel_rfl) (by kernel_rfl) f7_25_n
theorem f7_26_n : Fmt7 26 none := fun W c b o n cap => by kernel_rfl
theorem f7_26 : FmAll Fmt7 26 := all_none (by kernel_rfl) (by kernel_rfl) f7_26_n
theorem f7_27_n : Fmt7 27 none := fun W c b o n cap => by kernel_rfl
theorem f7_27 : FmAll Fmt7 27 := all_none (by kernel_rfl) (by kernel_rfl) f7_27_n
theorem f7_28_n : Fmt7 28 none := fun W c b o n cap => by kernel_rfl
theorem f7_28 : FmAll Fmt7 28 := all_none (by kernel_rfl) (by kernel_rfl) f7_28_n
theorem f7_29_n : Fmt7 29 none := fun W c b o n cap => by kernel_rfl
theorem f7_29 : FmAll Fmt7 29 := all_none (by kernel_rfl) (by kernel_rfl) f7_29_n
theorem f7_30_n : Fmt7 30 none := fun W c b o n cap => by kernel_rfl
theorem f7_30 : FmAll Fmt7 30 := all_none (by kernel_rfl) (by kernel_rfl) f7_30_n
theorem f7_31_n : Fmt7 31 none := fun W c b o n cap => by kernel_rfl
theorem f7_31 : FmAll Fmt7 31 := all_none (by kernel_rfl) (by kernel_rfl) f7_31_n
theorem f7_32_t : Fmt7 32 (some true) := fun W c b o n cap => by kernel_rfl
theorem f7_32_f : Fmt7 32 (some false) := fun W c b o n cap => by kernel_rfl
theorem f7_32 : FmAll Fmt7 32 := all_some f7_32_t f7_32_f
theorem f7_33_n : Fmt7 33 none := fun W c b o n cap => by kernel_rfl
theorem f7_33 : FmAll Fmt7 33 := all_none (by kernel_rfl) (by kernel_rfl) f7_33_n
theorem f7_34_n : Fmt7 34 none := fun W c b o n cap => by kernel_rfl
theorem f7_34 : FmAll Fmt7 34 := all_none (by kernel_rfl) (by kernel_rfl) f7_34_n
theorem f7_35_n : Fmt7 35 none := fun W c b o n cap => by kernel_rfl
theorem f7_35 : FmAll Fmt7 35 := all_none (by kernel_rfl) (by kernel_rfl) f7_35_n
theorem f7_36_n : Fmt7 36 none := fun W c b o n cap => by kernel_rfl
theorem f7_36 : FmAll Fmt7 36 := all_none (by kernel_rfl) (by kernel_rfl) f7_36_n
theorem f7_37_n : Fmt7 37 none := fun W c b o n cap => by kernel_rfl
theorem f7_37 : FmAll Fmt7 37 := all_none (by kernel_rfl) (by kernel_rfl) f7_37_n
theorem f7_38_n : Fmt7 38 none := fun W c b o n cap => by kernel_rfl
theorem f7_38 : FmAll Fmt7 38 := all_none (by kernel_rfl) (by kernel_rfl) f7_38_n
theorem f7_39_n : Fmt7 39 none := fun W c b o n cap => by kernel_rfl
theorem f7_39 : FmAll Fmt7 39 := all_none (by kernel_rfl) (by kernel_rfl) f7_39_n
theorem f7_40_t : Fmt7 40 (some true) := fun W c b o n cap => by kernel_rfl
theorem f7_40_f : Fmt7 40 (some false) := fun W c b o n cap => by kernel_rfl
theorem f7_40 : FmAll Fmt7 40 := all_some f7_40_t f7_40_f
theorem f7_41_n : Fmt7 41 none := fun W c b o n cap => by kernel_rfl
theorem f7_41 : FmAll Fmt7 41 := all_none (by kernel_rfl) (by kernel_rfl) f7_41_n
theorem f7_42_n : Fmt7 42 none := fun W c b o n cap => by kernel_rfl
theorem f7_42 : FmAll Fmt7 42 := all_none (by kernel_rfl) (by kernel_rfl) f7_42_n
theorem f7_43_n : Fmt7 43 none := fun W c b o n cap => by kernel_rfl
theorem f7_43 : FmAll Fmt7 43 := all_none (by kernel_rfl) (by kernel_rfl) f7_43_n
theorem f7_44_n : Fmt7 44 none := fun W c b o n cap => by kernel_rfl
theorem f7_44 : FmAll Fmt7 44 := all_none (by kernel_rfl) (by kernel_rfl) f7_44_n
theorem f7_45_n : Fmt7 45 none := fun W c b o n cap => by kernel_rfl
theorem f7_45 : FmAll Fmt7 45 := all_none (by kernel_rfl) (by kernel_rfl) f7_45_n
theorem f7_46_n : Fmt7 46 none := fun W c b o n cap => by kernel_rfl
theorem f7_46 : FmAll Fmt7 46 := all_none (by kernel_rfl) (by kernel_rfl) f7_46_n
theorem f7_47_n : Fmt7 47 none := fun W c b o n cap => by kernel_rfl
theorem f7_47 : FmAll Fmt7 47 := all_none (by kernel_rfl) (by kernel_rfl) f7_47_n
theorem f7_48_t : Fmt7 48 (some true) := fun W c b o n cap => by kernel_rfl
theorem f7_48_f : Fmt7 48 (some false) := fun W c b o n cap => by kernel_rfl
theorem f7_48 : FmAll Fmt7 48 := all_some f7_48_t f7_48_f
theorem f7_49_n : Fmt7 49 none := fun W c b o n cap => by kernel_rfl
theorem f7_49 : FmAll Fmt7 49 := all_none (by kernel_rfl) (by kernel_rfl) f7_49_n
theorem f7_50_n : Fmt7 50 none := fun W c b o n cap => by kernel_rfl
theorem f7_50 : FmAll Fmt7 50 := all_none (by kernel_rfl) (by kernel_rfl) f7_50_n
theorem f7_51_n : Fmt7 51 none := fun W c b o n cap => by kernel_rfl
theorem f7_51 : FmAll Fmt7 51 := all_none (by kernel_rfl) (by kernel_rfl) f7_51_n
theorem f7_52_n : Fmt7 52 none := fun W c b o n cap => by kernel_rfl
theorem f7_52 : FmAll Fmt7 52 := all_none (by kernel_rfl) (by kernel_rfl) f7_52_n
theorem f7_53_n : Fmt7 53 none := fun W c b o n cap => by kernel_rfl
theorem f7_53 : FmAll Fmt7 53 := all_none (by kernel_rfl) (by kernel_rfl) f7_53_n
theorem f7_54_n : Fmt7 54 none := fun W c b o n cap => by kernel_rfl
theorem f7_54 : FmAll Fmt7 54 := all_none (by kernel_rfl) (by kernel_rfl) f7_54_n
theorem f7_55_n : Fmt7 55 none := fun W c b o n cap => by kernel_rfl
theorem f7_55 : FmAll Fmt7 55 := all_none (by kernel_rfl) (by kernel_rfl) f7_55_n
theorem f7_56_t : Fmt7 56 (some true) := fun W c b o n cap => by kernel_rfl
theorem f7_56_f : Fmt7 56 (some false) := fun W c b o n cap => by kernel_rfl
theorem f7_56 : FmAll Fmt7 56 := all_some f7_56_t f7_56_f
theorem f7_57_n : Fmt7 57 none := fun W c b o n cap => by kernel_rfl
theorem f7_57 : FmAll Fmt7 57 := all_none (by kernel_rfl) (by kernel_rfl) f7_57_n
theorem f7_58_n : Fmt7 58 none := fun W c b o n cap => by kernel_rfl
theorem f7_58 : FmAll Fmt7 58 := all_none (by kernel_rfl) (by kernel_rfl) f7_58_n
theorem f7_59_n : Fmt7 59 none := fun W c b o n cap => by kernel_rfl
theorem f7_59 : FmAll Fmt7 59 := all_none (by kernel_rfl) (by kernel_rfl) f7_59_n
theorem f7_60_n : Fmt7 60 none := fun W c b o n cap => by kernel_rfl
theorem f7_60 : FmAll Fmt7 60 := all_none (by kernel_rfl) (by kernel_rfl) f7_60_n
theorem f7_61_n : Fmt7 61 none := fun W c b o n cap => by kernel_rfl
theorem f7_61 : FmAll Fmt7 61 := all_none (by kernel_rfl) (by kernel_rfl) f7_61_n
theorem f7_62_n : Fmt7 62 none := fun W c b o n cap => by kernel_rfl
theorem f7_62 : FmAll Fmt7 62 := all_none (by kernel_rfl) (by kernel_rfl) f7_62_n
theorem f7_63_n : Fmt7 63 none := fun W c b o n cap => by kernel_rfl
theorem f7_63 : FmAll Fmt7 63 := all_none (by kernel_rfl) (by kernel_rfl) f7_63_n
theorem f7_0_64 (v : Nat) (h : 0 ≤ v) (h' : v < 64) : FmAll Fmt7 v := by
  rcases Nat.lt_or_ge v 32 with h2 | h2
  · skip
    rcases Nat.lt_or_ge v 16 with h4 | h4
    · skip
      rcases Nat.lt_or_ge v 8 with h6 | h6
      · skip
        rcases Nat.lt_or_ge v 4 with h8 | h8
        · skip
          rcases Nat.lt_or_ge v 2 with h10 | h10
          · skip
            rcases Nat.lt_or_ge v 1 with h12 | h12
            · skip
              obtain rfl : v = 0 := by omega
              exact f7_0
            · skip
              obtain rfl : v = 1 := by omega
              exact f7_1
          · skip
            rcases Nat.lt_or_ge v 3 with h12 | h12
            · skip
              obtain rfl : v = 2 := by omega
              exact f7_2
            · skip
              obtain rfl : v = 3 := by omega
              exact f7_3
        · skip
          rcases Nat.lt_or_ge v 6 with h10 | h10
          · skip
            rcases Nat.lt_or_ge v 5 with h12 | h12
            · skip
              obtain rfl : v = 4 := by omega
              exact f7_4
            · skip
              obtain rfl : v = 5 := by omega
              exact f7_5
          · skip
            rcases Nat.lt_or_ge v 7 with h12 | h12
            · skip
              obtain rfl : v = 6 := by omega
              exact f7_6
            · skip
              obtain rfl : v = 7 := by omega
              exact f7_7
      · skip
        rcases Nat.lt_or_ge v 12 with h8 | h8
        · skip
          rcases Nat.lt_or_ge v 10 with h10 | h10
          · skip
            rcases Nat.lt_or_ge v 9 with h12 | h12
            · skip
              obtain rfl : v = 8 := by omega
              exact f7_8
            · skip
              obtain rfl : v = 9 := by omega
              exact f7_9
          · skip
            rcases Nat.lt_or_ge v 11 with h12 | h12
            · skip
              obtain rfl : v = 10 := by omega
              exact f7_10
            · skip
              obtain rfl : v = 11 := by omega
              exact f7_11
        · skip
          rcases Nat.lt_or_ge v 14 with h10 | h10
          · skip
            rcases Nat.lt_or_ge v 13 with h12 | h12
            · skip
              obtain rfl : v = 12 := by omega
              exact f7_12
            · skip
              obtain rfl : v = 13 := by omega
              exact f7_13
          · skip
            rcases Nat.lt_or_ge v 15 with h12 | h12
            · skip
              obtain rfl : v = 14 := by omega
              exact f7_14
            · skip
              obtain rfl : v = 15 := by omega
              exact f7_15
    · skip
      rcases Nat.lt_or_ge v 24 with h6 | h6
      · skip
        rcases Nat.lt_or_ge v 20 with h8 | h8
        · skip
          rcases Nat.lt_or_ge v 18 with h10 | h10
          · skip
            rcases Nat.lt_or_ge v 17 with h12 | h12
            · skip
              obtain rfl : v = 16 := by omega
              exact f7_16
            · skip
              obtain rfl : v = 17 := by omega
              exact f7_17
          · skip
            rcases Nat.lt_or_ge v 19 with h12 | h12
            · skip
              obtain rfl : v = 18 := by omega
              exact f7_18
            · skip
              obtain rfl : v = 19 := by omega
              exact f7_19
        · skip
          rcases Nat.lt_or_ge v 22 with h10 | h10
          · skip
            rcases Nat.lt_or_ge v 21 with h12 | h12
            · skip
              obtain rfl : v = 20 := by omega
              exact f7_20
            · skip
              obtain rfl : v = 21 := by omega
              exact f7_21
          · skip
            rcases Nat.lt_or_ge v 23 with h12 | h12
            · skip
              obtain rfl : v = 22 := by omega
              exact f7_22
            · skip
              obtain rfl : v = 23 := by omega
              exact f7_23
      · skip
        rcases Nat.lt_or_ge v 28 with h8 | h8
        · skip
          rcases Nat.lt_or_ge v 26 with h10 | h10
          · skip
            rcases Nat.lt_or_ge v 25 with h12 | h12
            · skip
              obtain rfl : v = 24 := by omega
              exact f7_24
            · skip
              obtain rfl : v = 25 := by omega
              exact f7_25
          · skip
            rcases Nat.lt_or_ge v 27 with h12 | h12
            · skip
              obtain rfl : v = 26 := by omega
              exact f7_26
            · skip
              obtain rfl : v = 27 := by omega
              exact f7_27
        · skip
          rcases Nat.lt_or_ge v 30 with h10 | h10
          · skip
            rcases Nat.lt_or_ge v 29 with h12 | h12
            · skip
              obtain rfl : v = 28 := by omega
              exact f7_28
            · skip
              obtain rfl : v = 29 := by omega
              exact f7_29
          · skip
            rcases Nat.lt_or_ge v 31 with h12 | h12
            · skip
              obtain rfl : v = 30 := by omega
              exact f7_30
            · skip
              obtain rfl : v = 31 := by omega
              exact f7_31
  · skip
    rcases Nat.lt_or_ge v 48 with h4 | h4
    · skip
      rcases Nat.lt_or_ge v 40 with h6 | h6
      · skip
        rcases Nat.lt_or_ge v 36 with h8 | h8
        · skip
          rcases Nat.lt_or_ge v 34 with h10 | h10
          · skip
            rcases Nat.lt_or_ge v 33 with h12 | h12
            · skip
              obtain rfl : v = 32 := by omega
              exact f7_32
            · skip
              obtain rfl : v = 33 := by omega
              exact f7_33
          · skip
            rcases Nat.lt_or_ge v 35 with h12 | h12
            · skip
              obtain rfl : v = 34 := by omega
              exact f7_34
            · skip
              obtain rfl : v = 35 := by omega
              exact f7_35
        · skip
          rcases Nat.lt_or_ge v 38 with h10 | h10
          · skip
            rcases Nat.lt_or_ge v 37 with h12 | h12
            · skip
              obtain rfl : v = 36 := by omega
              exact f7_36
            · skip
              obtain rfl : v = 37 := by omega
              exact f7_37
          · skip
            rcases Nat.lt_or_ge v 39 with h12 | h12
            · skip
              obtain rfl : v = 38 := by omega
              exact f7_38
            · skip
              obtain rfl : v = 39 := by omega
              exact f7_39
      · skip
        rcases Nat.lt_or_ge v 44 with h8 | h8
        · skip
          rcases Nat.lt_or_ge v 42 with h10 | h10
          · skip
            rcases Nat.lt_or_ge v 41 with h12 | h12
            · skip
              obtain rfl : v = 40 := by omega
              exact f7_40
            · skip
              obtain rfl : v = 41 := by omega
              exact f7_41
          · skip
            rcases Nat.lt_or_ge v 43 with h12 | h12
            · skip
              obtain rfl : v = 42 := by omega
              exact f7_42
            · skip
              obtain rfl : v = 43 := by omega
              exact f7_43
        · skip
          rcases Nat.lt_or_ge v 46 with h10 | h10
          · skip
            rcases Nat.lt_or_ge v 45 with h12 | h12
            · skip
              obtain rfl : v = 44 := by omega
              exact f7_44
            · skip
              obtain rfl : v = 45 := by omega
              exact f7_45
          · skip
            rcases Nat.lt_or_ge v 47 with h12 | h12
            · skip
              obtain rfl : v = 46 := by omega
              exact f7_46
            · skip
              obtain rfl : v = 47 := by omega
              exact f7_47
    · skip
      rcases Nat.lt_or_ge v 56 with h6 | h6
      · skip
        rcases Nat.lt_or_ge v 52 with h8 | h8
        · skip
          rcases Nat.lt_or_ge v 50 with h10 | h10
          · skip
            rcases Nat.lt_or_ge v 49 with h12 | h12
            · skip
              obtain rfl : v = 48 := by omega
              exact f7_48
            · skip
              obtain rfl : v = 49 := by omega
              exact f7_49
          · skip
            rcases Nat.lt_or_ge v 51 with h12 | h12
            · skip
              obtain rfl : v = 50 := by omega
              exact f7_50
            · skip
              obtain rfl : v = 51 := by omega
              exact f7_51
        · skip
          rcases Nat.lt_or_ge v 54 with h10 | h10
          · skip
            rcases Nat.lt_or_ge v 53 with h12 | h12
            · skip
              obtain rfl : v = 52 := by omega
              exact f7_52
            · skip
              obtain rfl : v = 53 := by omega
              exact f7_53
          · skip
            rcases Nat.lt_or_ge v 55 with h12 | h12
            · skip
              obtain rfl : v = 54 := by omega
              exact f7_54
            · skip
              obtain rfl : v = 55 := by omega
              exact f7_55
      · skip
        rcases Nat.lt_or_ge v 60 with h8 | h8
        · skip
          rcases Nat.lt_or_ge v 58 with h10 | h10
          · skip
            rcases Nat.lt_or_ge v 57 with h12 | h12
            · skip
              obtain rfl : v = 56 := by omega
              exact f7_56
            · skip
              obtain rfl : v = 57 := by omega
              exact f7_57
          · skip
            rcases Nat.lt_or_ge v 59 with h12 | h12
            · skip
              obtain rfl : v = 58 := by omega
              exact f7_58
            · skip
              obtain rfl : v = 59 := by omega
              exact f7_59
        · skip
          rcases Nat.lt_or_ge v 62 with h10 | h10
          · skip
            rcases Nat.lt_or_ge v 61 with h12 | h12
            · skip
              obtain rfl : v = 60 := by omega
              exact f7_60
            · skip
              obtain rfl : v = 61 := by omega
              exact f7_61
          · skip
            rcases Nat.lt_or_ge v 63 with h12 | h12
            · skip
              obtain rfl : v = 62 := by omega
              exact f7_62
            · skip
              obtain rfl : v = 63 := by omega
              exact f7_63
end Go.Proofs.YtdglgiaegjkinaaDoor
