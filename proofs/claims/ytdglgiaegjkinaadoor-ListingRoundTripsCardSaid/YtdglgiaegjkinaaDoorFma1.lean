/- Format (listing) at the opcodes 64 to 127. Printed by mkfmt.py. -/
import Derived.Test.YtdglgiaegjkinaaDoorSpc
namespace Go.Proofs.YtdglgiaegjkinaaDoor
open Go Go.Sx
set_option maxRecDepth 100000
theorem f7_64_n : Fmt7 64 none := fun W c b o n cap => by kernel_rfl
theorem f7_64 : FmAll Fmt7 64 := all_none (by kernel_rfl) (by kernel_rfl) f7_64_n
theorem f7_65_n : Fmt7 65 none := fun W c b o n cap => by kernel_rfl
theorem f7_65 : FmAll Fmt7 65 := all_none (by kernel_rfl) (by kernel_rfl) f7_65_n
theorem f7_66_n : Fmt7 66 none := fun W c b o n cap => by kernel_rfl
theorem f7_66 : FmAll Fmt7 66 := all_none (by kernel_rfl) (by kernel_rfl) f7_66_n
theorem f7_67_n : Fmt7 67 none := fun W c b o n cap => by kernel_rfl
theorem f7_67 : FmAll Fmt7 67 := all_none (by kernel_rfl) (by kernel_rfl) f7_67_n
theorem f7_68_n : Fmt7 68 none := fun W c b o n cap => by kernel_rfl
theorem f7_68 : FmAll Fmt7 68 := all_none (by kernel_rfl) (by kernel_rfl) f7_68_n
theorem f7_69_n : Fmt7 69 none := fun W c b o n cap => by kernel_rfl
theorem f7_69 : FmAll Fmt7 69 := all_none (by kernel_rfl) (by kernel_rfl) f7_69_n
theorem f7_70_n : Fmt7 70 none := fun W c b o n cap => by kernel_rfl
theorem f7_70 : FmAll Fmt7 70 := all_none (by kernel_rfl) (by kernel_rfl) f7_70_n
theorem f7_71_n : Fmt7 71 none := fun W c b o n cap => by kernel_rfl
theorem f7_71 : FmAll Fmt7 71 := all_none (by kernel_rfl) (by kernel_rfl) f7_71_n
theorem f7_72_n : Fmt7 72 none := fun W c b o n cap => by kernel_rfl
theorem f7_72 : FmAll Fmt7 72 := all_none (by kernel_rfl) (by kernel_rfl) f7_72_n
theorem f7_73_n : Fmt7 73 none := fun W c b o n cap => by kernel_rfl
theorem f7_73 : FmAll Fmt7 73 := all_none (by kernel_rfl) (by kernel_rfl) f7_73_n
theorem f7_74_n : Fmt7 74 none := fun W c b o n cap => by kernel_rfl
theorem f7_74 : FmAll Fmt7 74 := all_none (by kernel_rfl) (by kernel_rfl) f7_74_n
theorem f7_75_n : Fmt7 75 none := fun W c b o n cap => by kernel_rfl
theorem f7_75 : FmAll Fmt7 75 := all_none (by kernel_rfl) (by kernel_rfl) f7_75_n
theorem f7_76_n : Fmt7 76 none := fun W c b o n cap => by kernel_rfl
theorem f7_76 : FmAll Fmt7 76 := all_none (by kernel_rfl) (by kernel_rfl) f7_76_n
theorem f7_77_n : Fmt7 77 none := fun W c b o n cap => by kernel_rfl
theorem f7_77 : FmAll Fmt7 77 := all_none (by kernel_rfl) (by kernel_rfl) f7_77_n
theorem f7_78_n : Fmt7 78 none := fun W c b o n cap => by kernel_rfl
theorem f7_78 : FmAll Fmt7 78 := all_none (by kernel_rfl) (by kernel_rfl) f7_78_n
theorem f7_79_n : Fmt7 79 none := fun W c b o n cap => by kernel_rfl
theorem f7_79 : FmAll Fmt7 79 := all_none (by kernel_rfl) (by kernel_rfl) f7_79_n
theorem f7_80_n : Fmt7 80 none := fun W c b o n cap => by kernel_rfl
theorem f7_80 : FmAll Fmt7 80 := all_none (by kernel_rfl) (by kernel_rfl) f7_80_n
theorem f7_81_n : Fmt7 81 none := fun W c b o n cap => by kernel_rfl
theorem f7_81 : FmAll Fmt7 81 := all_none (by kernel_rfl) (by kernel_rfl) f7_81_n
theorem f7_82_n : Fmt7 82 none := fun W c b o n cap => by kernel_rfl
theorem f7_82 : FmAll Fmt7 82 := all_none (by kernel_rfl) (by kernel_rfl) f7_82_n
theorem f7_83_n : Fmt7 83 none := fun W c b o n cap => by kernel_rfl
theorem f7_83 : FmAll Fmt7 83 := all_none (by kernel_rfl) (by kernel_rfl) f7_83_n
theorem f7_84_n : Fmt7 84 none := fun W c b o n cap => by kernel_rfl
theorem f7_84 : FmAll Fmt7 84 := all_none (by kernel_rfl) (by kernel_rfl) f7_84_n
theorem f7_85_n : Fmt7 85 none := fun W c b o n cap => by kernel_rfl
theorem f7_85 : FmAll Fmt7 85 := all_none (by kernel_rfl) (by kernel_rfl) f7_85_n
theorem f7_86_n : Fmt7 86 none := fun W c b o n cap => by kernel_rfl
theorem f7_86 : FmAll Fmt7 86 := all_none (by kernel_rfl) (by kernel_rfl) f7_86_n
theorem f7_87_n : Fmt7 87 none := fun W c b o n cap => by kernel_rfl
theorem f7_87 : FmAll Fmt7 87 := all_none (by kernel_rfl) (by kernel_rfl) f7_87_n
theorem f7_88_n : Fmt7 88 none := fun W c b o n cap => by kernel_rfl
theorem f7_88 : FmAll Fmt7 88 := all_none (by kernel_rfl) (by kernel_rfl) f7_88_n
theorem f7_89_n : Fmt7 89 none := fun W c b o n cap => by kernel_rfl
theorem f7_89 : FmAll Fmt7 89 := all_none (by kernel_rfl) (by kernel_rfl) f7_89_n
theorem f7_90_n : Fmt7 90 none := fun W c b o n cap => by kernel_rfl
theorem f7_90 : FmAll Fmt7 90 := all_none (by kernel_rfl) (by kernel_rfl) f7_90_n
theorem f7_91_n : Fmt7 91 none := fun W c b o n cap => by kernel_rfl
theorem f7_91 : FmAll Fmt7 91 := all_none (by kernel_rfl) (by kernel_rfl) f7_91_n
theorem f7_92_n : Fmt7 92 none := fun W c b o n cap => by kernel_rfl
theorem f7_92 : FmAll Fmt7 92 := all_none (by kernel_rfl) (by kernel_rfl) f7_92_n
theorem f7_93_n : Fmt7 93 none := fun W c b o n cap => by kernel_rfl
theorem f7_93 : FmAll Fmt7 93 := all_none (by kernel_rfl) (by kernel_rfl) f7_93_n
theorem f7_94_n : Fmt7 94 none := fun W c b o n cap => by kernel_rfl
theorem f7_94 : FmAll Fmt7 94 := all_none (by kernel_rfl) (by kernel_rfl) f7_94_n
theorem f7_95_n : Fmt7 95 none := fun W c b o n cap => by kernel_rfl
theorem f7_95 : FmAll Fmt7 95 := all_none (by kernel_rfl) (by kernel_rfl) f7_95_n
theorem f7_96_n : Fmt7 96 none := fun W c b o n cap => by kernel_rfl
theorem f7_96 : FmAll Fmt7 96 := all_none (by kernel_rfl) (by kernel_rfl) f7_96_n
theorem f7_97_n : Fmt7 97 none := fun W c b o n cap => by kernel_rfl
theorem f7_97 : FmAll Fmt7 97 := all_none (by kernel_rfl) (by kernel_rfl) f7_97_n
theorem f7_98_n : Fmt7 98 none := fun W c b o n cap => by kernel_rfl
theorem f7_98 : FmAll Fmt7 98 := all_none (by kernel_rfl) (by kernel_rfl) f7_98_n
theorem f7_99_n : Fmt7 99 none := fun W c b o n cap => by kernel_rfl
theorem f7_99 : FmAll Fmt7 99 := all_none (by kernel_rfl) (by kernel_rfl) f7_99_n
theorem f7_100_n : Fmt7 100 none := fun W c b o n cap => by kernel_rfl
theorem f7_100 : FmAll Fmt7 100 := all_none (by kernel_rfl) (by kernel_rfl) f7_100_n
theorem f7_101_n : Fmt7 101 none := fun W c b o n cap => by kernel_rfl
theorem f7_101 : FmAll Fmt7 101 := all_none (by kernel_rfl) (by kernel_rfl) f7_101_n
theorem f7_102_n : Fmt7 102 none := fun W c b o n cap => by kernel_rfl
theorem f7_102 : FmAll Fmt7 102 := all_none (by kernel_rfl) (by kernel_rfl) f7_102_n
theorem f7_103_n : Fmt7 103 none := fun W c b o n cap => by kernel_rfl
theorem f7_103 : FmAll Fmt7 103 := all_none (by kernel_rfl) (by kernel_rfl) f7_103_n
theorem f7_104_n : Fmt7 104 none := fun W c b o n cap => by kernel_rfl
theorem f7_104 : FmAll Fmt7 104 := all_none (by kernel_rfl) (by kernel_rfl) f7_104_n
theorem f7_105_n : Fmt7 105 none := fun W c b o n cap => by kernel_rfl
theorem f7_105 : FmAll Fmt7 105 := all_none (by kernel_rfl) (by kernel_rfl) f7_105_n
theorem f7_106_n : Fmt7 106 none := fun W c b o n cap => by kernel_rfl
theorem f7_106 : FmAll Fmt7 106 := all_none (by kernel_rfl) (by kernel_rfl) f7_106_n
theorem f7_107_n : Fmt7 107 none := fun W c b o n cap => by kernel_rfl
theorem f7_107 : FmAll Fmt7 107 := all_none (by kernel_rfl) (by kernel_rfl) f7_107_n
theorem f7_108_n : Fmt7 108 none := fun W c b o n cap => by kernel_rfl
theorem f7_108 : FmAll Fmt7 108 := all_none (by kernel_rfl) (by kernel_rfl) f7_108_n
theorem f7_109_n : Fmt7 109 none := fun W c b o n cap => by kernel_rfl
theorem f7_109 : FmAll Fmt7 109 := all_none (by kernel_rfl) (by kernel_rfl) f7_109_n
theorem f7_110_n : Fmt7 110 none := fun W c b o n cap => by kernel_rfl
theorem f7_110 : FmAll Fmt7 110 := all_none (by kernel_rfl) (by kernel_rfl) f7_110_n
theorem f7_111_n : Fmt7 111 none := fun W c b o n cap => by kernel_rfl
theorem f7_111 : FmAll Fmt7 111 := all_none (by kernel_rfl) (by kernel_rfl) f7_111_n
theorem f7_112_n : Fmt7 112 none := fun W c b o n cap => by kernel_rfl
theorem f7_112 : FmAll Fmt7 112 := all_none (by kernel_rfl) (by kernel_rfl) f7_112_n
theorem f7_113_n : Fmt7 113 none := fun W c b o n cap => by kernel_rfl
theorem f7_113 : FmAll Fmt7 113 := all_none (by kernel_rfl) (by kernel_rfl) f7_113_n
theorem f7_114_n : Fmt7 114 none := fun W c b o n cap => by kernel_rfl
theorem f7_114 : FmAll Fmt7 114 := all_none (by kernel_rfl) (by kernel_rfl) f7_114_n
theorem f7_115_n : Fmt7 115 none := fun W c b o n cap => by kernel_rfl
theorem f7_115 : FmAll Fmt7 115 := all_none (by kernel_rfl) (by kernel_rfl) f7_115_n
theorem f7_116_n : Fmt7 116 none := fun W c b o n cap => by kernel_rfl
theorem f7_116 : FmAll Fmt7 116 := all_none (by kernel_rfl) (by kernel_rfl) f7_116_n
theorem f7_117_n : Fmt7 117 none := fun W c b o n cap => by kernel_rfl
theorem f7_117 : FmAll Fmt7 117 := all_none (by kernel_rfl) (by kernel_rfl) f7_117_n
theorem f7_118_n : Fmt7 118 none := fun W c b o n cap => by kernel_rfl
theorem f7_118 : FmAll Fmt7 118 := all_none (by kernel_rfl) (by kernel_rfl) f7_118_n
theorem f7_119_n : Fmt7 119 none := fun W c b o n cap => by kernel_rfl
theorem f7_119 : FmAll Fmt7 119 := all_none (by kernel_rfl) (by kernel_rfl) f7_119_n
theorem f7_120_n : Fmt7 120 none := fun W c b o n cap => by kernel_rfl
theorem f7_120 : FmAll Fmt7 120 := all_none (by kernel_rfl) (by kernel_rfl) f7_120_n
theorem f7_121_n : Fmt7 121 none := fun W c b o n cap => by kernel_rfl
theorem f7_121 : FmAll Fmt7 121 := all_none (by kernel_rfl) (by kernel_rfl) f7_121_n
theorem f7_122_n : Fmt7 122 none := fun W c b o n cap => by kernel_rfl
theorem f7_122 : FmAll Fmt7 122 := all_none (by kernel_rfl) (by kernel_rfl) f7_122_n
theorem f7_123_n : Fmt7 123 none := fun W c b o n cap => by kernel_rfl
theorem f7_123 : FmAll Fmt7 123 := all_none (by kernel_rfl) (by kernel_rfl) f7_123_n
theorem f7_124_n : Fmt7 124 none := fun W c b o n cap => by kernel_rfl
theorem f7_124 : FmAll Fmt7 124 := all_none (by kernel_rfl) (by kernel_rfl) f7_124_n
theorem f7_125_n : Fmt7 125 none := fun W c b o n cap => by kernel_rfl
theorem f7_125 : FmAll Fmt7 125 := all_none (by kernel_rfl) (by kernel_rfl) f7_125_n
theorem f7_126_n : Fmt7 126 none := fun W c b o n cap => by kernel_rfl
theorem f7_126 : FmAll Fmt7 126 := all_none (by kernel_rfl) (by kernel_rfl) f7_126_n
theorem f7_127_n : Fmt7 127 none := fun W c b o n cap => by kernel_rfl
theorem f7_127 : FmAll Fmt7 127 := all_none (by kernel_rfl) (by kernel_rfl) f7_127_n
theorem f7_64_128 (v : Nat) (h : 64 ≤ v) (h' : v < 128) : FmAll Fmt7 v := by
  rcases Nat.lt_or_ge v 96 with h2 | h2
  · skip
    rcases Nat.lt_or_ge v 80 with h4 | h4
    · skip
      rcases Nat.lt_or_ge v 72 with h6 | h6
      · skip
        rcases Nat.lt_or_ge v 68 with h8 | h8
        · skip
          rcases Nat.lt_or_ge v 66 with h10 | h10
          · skip
            rcases Nat.lt_or_ge v 65 with h12 | h12
            · skip
              obtain rfl : v = 64 := by omega
              exact f7_64
            · skip
              obtain rfl : v = 65 := by omega
              exact f7_65
          · skip
            rcases Nat.lt_or_ge v 67 with h12 | h12
            · skip
              obtain rfl : v = 66 := by omega
              exact f7_66
            · skip
              obtain rfl : v = 67 := by omega
              exact f7_67
        · skip
          rcases Nat.lt_or_ge v 70 with h10 | h10
          · skip
            rcases Nat.lt_or_ge v 69 with h12 | h12
            · skip
              obtain rfl : v = 68 := by omega
              exact f7_68
            · skip
              obtain rfl : v = 69 := by omega
              exact f7_69
          · skip
            rcases Nat.lt_or_ge v 71 with h12 | h12
            · skip
              obtain rfl : v = 70 := by omega
              exact f7_70
            · skip
              obtain rfl : v = 71 := by omega
              exact f7_71
      · skip
        rcases Nat.lt_or_ge v 76 with h8 | h8
        · skip
          rcases Nat.lt_or_ge v 74 with h10 | h10
          · skip
            rcases Nat.lt_or_ge v 73 with h12 | h12
            · skip
              obtain rfl : v = 72 := by omega
              exact f7_72
            · skip
              obtain rfl : v = 73 := by omega
              exact f7_73
          · skip
            rcases Nat.lt_or_ge v 75 with h12 | h12
            · skip
              obtain rfl : v = 74 := by omega
              exact f7_74
            · skip
              obtain rfl : v = 75 := by omega
              exact f7_75
        · skip
          rcases Nat.lt_or_ge v 78 with h10 | h10
          · skip
            rcases Nat.lt_or_ge v 77 with h12 | h12
            · skip
              obtain rfl : v = 76 := by omega
              exact f7_76
            · skip
              obtain rfl : v = 77 := by omega
              exact f7_77
          · skip
            rcases Nat.lt_or_ge v 79 with h12 | h12
            · skip
              obtain rfl : v = 78 := by omega
              exact f7_78
            · skip
              obtain rfl : v = 79 := by omega
              exact f7_79
    · skip
      rcases Nat.lt_or_ge v 88 with h6 | h6
      · skip
        rcases Nat.lt_or_ge v 84 with h8 | h8
        · skip
          rcases Nat.lt_or_ge v 82 with h10 | h10
          · skip
            rcases Nat.lt_or_ge v 81 with h12 | h12
            · skip
              obtain rfl : v = 80 := by omega
              exact f7_80
            · skip
              obtain rfl : v = 81 := by omega
              exact f7_81
          · skip
            rcases Nat.lt_or_ge v 83 with h12 | h12
            · skip
              obtain rfl : v = 82 := by omega
              exact f7_82
            · skip
              obtain rfl : v = 83 := by omega
              exact f7_83
        · skip
          rcases Nat.lt_or_ge v 86 with h10 | h10
          · skip
            rcases Nat.lt_or_ge v 85 with h12 | h12
            · skip
              obtain rfl : v = 84 := by omega
              exact f7_84
            · skip
              obtain rfl : v = 85 := by omega
              exact f7_85
          · skip
            rcases Nat.lt_or_ge v 87 with h12 | h12
            · skip
              obtain rfl : v = 86 := by omega
              exact f7_86
            · skip
              obtain rfl : v = 87 := by omega
              exact f7_87
      · skip
        rcases Nat.lt_or_ge v 92 with h8 | h8
        · skip
          rcases Nat.lt_or_ge v 90 with h10 | h10
          · skip
            rcases Nat.lt_or_ge v 89 with h12 | h12
            · skip
              obtain rfl : v = 88 := by omega
              exact f7_88
            · skip
              obtain rfl : v = 89 := by omega
              exact f7_89
          · skip
            rcases Nat.lt_or_ge v 91 with h12 | h12
            · skip
              obtain rfl : v = 90 := by omega
              exact f7_90
            · skip
              obtain rfl : v = 91 := by omega
              exact f7_91
        · skip
          rcases Nat.lt_or_ge v 94 with h10 | h10
          · skip
            rcases Nat.lt_or_ge v 93 with h12 | h12
            · skip
              obtain rfl : v = 92 := by omega
              exact f7_92
            · skip
              obtain rfl : v = 93 := by omega
              exact f7_93
          · skip
            rcases Nat.lt_or_ge v 95 with h12 | h12
            · skip
              obtain rfl : v = 94 := by omega
              exact f7_94
            · skip
              obtain rfl : v = 95 := by omega
              exact f7_95
  · skip
    rcases Nat.lt_or_ge v 112 with h4 | h4
    · skip
      rcases Nat.lt_or_ge v 104 with h6 | h6
      · skip
        rcases Nat.lt_or_ge v 100 with h8 | h8
        · skip
          rcases Nat.lt_or_ge v 98 with h10 | h10
          · skip
            rcases Nat.lt_or_ge v 97 with h12 | h12
            · skip
              obtain rfl : v = 96 := by omega
              exact f7_96
            · skip
              obtain rfl : v = 97 := by omega
              exact f7_97
          · skip
            rcases Nat.lt_or_ge v 99 with h12 | h12
            · skip
              obtain rfl : v = 98 := by omega
              exact f7_98
            · skip
              obtain rfl : v = 99 := by omega
              exact f7_99
        · skip
          rcases Nat.lt_or_ge v 102 with h10 | h10
          · skip
            rcases Nat.lt_or_ge v 101 with h12 | h12
            · skip
              obtain rfl : v = 100 := by omega
              exact f7_100
            · skip
              obtain rfl : v = 101 := by omega
              exact f7_101
          · skip
            rcases Nat.lt_or_ge v 103 with h12 | h12
            · skip
              obtain rfl : v = 102 := by omega
              exact f7_102
            · skip
              obtain rfl : v = 103 := by omega
              exact f7_103
      · skip
        rcases Nat.lt_or_ge v 108 with h8 | h8
        · skip
          rcases Nat.lt_or_ge v 106 with h10 | h10
          · skip
            rcases Nat.lt_or_ge v 105 with h12 | h12
            · skip
              obtain rfl : v = 104 := by omega
              exact f7_104
            · skip
              obtain rfl : v = 105 := by omega
              exact f7_105
          · skip
            rcases Nat.lt_or_ge v 107 with h12 | h12
            · skip
              obtain rfl : v = 106 := by omega
              exact f7_106
            · skip
              obtain rfl : v = 107 := by omega
              exact f7_107
        · skip
          rcases Nat.lt_or_ge v 110 with h10 | h10
          · skip
            rcases Nat.lt_or_ge v 109 with h12 | h12
            · skip
              obtain rfl : v = 108 := by omega
              exact f7_108
            · skip
              obtain rfl : v = 109 := by omega
              exact f7_109
          · skip
            rcases Nat.lt_or_ge v 111 with h12 | h12
            · skip
              obtain rfl : v = 110 := by omega
              exact f7_110
            · skip
              obtain rfl : v = 111 := by omega
              exact f7_111
    · skip
      rcases Nat.lt_or_ge v 120 with h6 | h6
      · skip
        rcases Nat.lt_or_ge v 116 with h8 | h8
        · skip
          rcases Nat.lt_or_ge v 114 with h10 | h10
          · skip
            rcases Nat.lt_or_ge v 113 with h12 | h12
            · skip
              obtain rfl : v = 112 := by omega
              exact f7_112
            · skip
              obtain rfl : v = 113 := by omega
              exact f7_113
          · skip
            rcases Nat.lt_or_ge v 115 with h12 | h12
            · skip
              obtain rfl : v = 114 := by omega
              exact f7_114
            · skip
              obtain rfl : v = 115 := by omega
              exact f7_115
        · skip
          rcases Nat.lt_or_ge v 118 with h10 | h10
          · skip
            rcases Nat.lt_or_ge v 117 with h12 | h12
            · skip
              obtain rfl : v = 116 := by omega
              exact f7_116
            · skip
              obtain rfl : v = 117 := by omega
              exact f7_117
          · skip
            rcases Nat.lt_or_ge v 119 with h12 | h12
            · skip
              obtain rfl : v = 118 := by omega
              exact f7_118
            · skip
              obtain rfl : v = 119 := by omega
              exact f7_119
      · skip
        rcases Nat.lt_or_ge v 124 with h8 | h8
        · skip
          rcases Nat.lt_or_ge v 122 with h10 | h10
          · skip
            rcases Nat.lt_or_ge v 121 with h12 | h12
            · skip
              obtain rfl : v = 120 := by omega
              exact f7_120
            · skip
              obtain rfl : v = 121 := by omega
              exact f7_121
          · skip
            rcases Nat.lt_or_ge v 123 with h12 | h12
            · skip
              obtain rfl : v = 122 := by omega
              exact f7_122
            · skip
              obtain rfl : v = 123 := by omega
              exact f7_123
        · skip
          rcases Nat.lt_or_ge v 126 with h10 | h10
          · skip
            rcases Nat.lt_or_ge v 125 with h12 | h12
            · skip
              obtain rfl : v = 124 := by omega
              exact f7_124
            · skip
              obtain rfl : v = 125 := by omega
              exact f7_125
          · skip
            rcases Nat.lt_or_ge v 127 with h12 | h12
            · skip
              obtain rfl : v = 126 := by omega
              exact f7_126
            · skip
              obtain rfl : v = 127 := by omega
              exact f7_127
end Go.Proofs.YtdglgiaegjkinaaDoor
