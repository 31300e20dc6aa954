/- Format (the document) at the opcodes 64 to 127. Printed by mkfmt.py. -/
import Derived.Test.YtdglgiaegjkinaaDoorSpc
namespace Go.Proofs.YtdglgiaegjkinaaDoor
open Go Go.Sx
set_option maxRecDepth 100000
theorem f8_64_n : Fmt8 64 none := fun W c b o n cap => by kernel_rfl
theorem f8_64 : FmAll Fmt8 64 := all_none (by kernel_rfl) (by kernel_rfl) f8_64_n
theorem f8_65_n : Fmt8 65 none := fun W c b o n cap => by kernel_rfl
theorem f8_65 : FmAll Fmt8 65 := all_none (by kernel_rfl) (by kernel_rfl) f8_65_n
theorem f8_66_n : Fmt8 66 none := fun W c b o n cap => by kernel_rfl
theorem f8_66 : FmAll Fmt8 66 := all_none (by kernel_rfl) (by kernel_rfl) f8_66_n
theorem f8_67_n : Fmt8 67 none := fun W c b o n cap => by kernel_rfl
theorem f8_67 : FmAll Fmt8 67 := all_none (by kernel_rfl) (by kernel_rfl) f8_67_n
theorem f8_68_n : Fmt8 68 none := fun W c b o n cap => by kernel_rfl
theorem f8_68 : FmAll Fmt8 68 := all_none (by kernel_rfl) (by kernel_rfl) f8_68_n
theorem f8_69_n : Fmt8 69 none := fun W c b o n cap => by kernel_rfl
theorem f8_69 : FmAll Fmt8 69 := all_none (by kernel_rfl) (by kernel_rfl) f8_69_n
theorem f8_70_n : Fmt8 70 none := fun W c b o n cap => by kernel_rfl
theorem f8_70 : FmAll Fmt8 70 := all_none (by kernel_rfl) (by kernel_rfl) f8_70_n
theorem f8_71_n : Fmt8 71 none := fun W c b o n cap => by kernel_rfl
theorem f8_71 : FmAll Fmt8 71 := all_none (by kernel_rfl) (by kernel_rfl) f8_71_n
theorem f8_72_n : Fmt8 72 none := fun W c b o n cap => by kernel_rfl
theorem f8_72 : FmAll Fmt8 72 := all_none (by kernel_rfl) (by kernel_rfl) f8_72_n
theorem f8_73_n : Fmt8 73 none := fun W c b o n cap => by kernel_rfl
theorem f8_73 : FmAll Fmt8 73 := all_none (by kernel_rfl) (by kernel_rfl) f8_73_n
theorem f8_74_n : Fmt8 74 none := fun W c b o n cap => by kernel_rfl
theorem f8_74 : FmAll Fmt8 74 := all_none (by kernel_rfl) (by kernel_rfl) f8_74_n
theorem f8_75_n : Fmt8 75 none := fun W c b o n cap => by kernel_rfl
theorem f8_75 : FmAll Fmt8 75 := all_none (by kernel_rfl) (by kernel_rfl) f8_75_n
theorem f8_76_n : Fmt8 76 none := fun W c b o n cap => by kernel_rfl
theorem f8_76 : FmAll Fmt8 76 := all_none (by kernel_rfl) (by kernel_rfl) f8_76_n
theorem f8_77_n : Fmt8 77 none := fun W c b o n cap => by kernel_rfl
theorem f8_77 : FmAll Fmt8 77 := all_none (by kernel_rfl) (by kernel_rfl) f8_77_n
theorem f8_78_n : Fmt8 78 none := fun W c b o n cap => by kernel_rfl
theorem f8_78 : FmAll Fmt8 78 := all_none (by kernel_rfl) (by kernel_rfl) f8_78_n
theorem f8_79_n : Fmt8 79 none := fun W c b o n cap => by kernel_rfl
theorem f8_79 : FmAll Fmt8 79 := all_none (by kernel_rfl) (by kernel_rfl) f8_79_n
theorem f8_80_n : Fmt8 80 none := fun W c b o n cap => by kernel_rfl
theorem f8_80 : FmAll Fmt8 80 := all_none (by kernel_rfl) (by kernel_rfl) f8_80_n
theorem f8_81_n : Fmt8 81 none := fun W c b o n cap => by kernel_rfl
theorem f8_81 : FmAll Fmt8 81 := all_none (by kernel_rfl) (by kernel_rfl) f8_81_n
theorem f8_82_n : Fmt8 82 none := fun W c b o n cap => by kernel_rfl
theorem f8_82 : FmAll Fmt8 82 := all_none (by kernel_rfl) (by kernel_rfl) f8_82_n
theorem f8_83_n : Fmt8 83 none := fun W c b o n cap => by kernel_rfl
theorem f8_83 : FmAll Fmt8 83 := all_none (by kernel_rfl) (by kernel_rfl) f8_83_n
theorem f8_84_n : Fmt8 84 none := fun W c b o n cap => by kernel_rfl
theorem f8_84 : FmAll Fmt8 84 := all_none (by kernel_rfl) (by kernel_rfl) f8_84_n
theorem f8_85_n : Fmt8 85 none := fun W c b o n cap => by kernel_rfl
theorem f8_85 : FmAll Fmt8 85 := all_none (by kernel_rfl) (by kernel_rfl) f8_85_n
theorem f8_86_n : Fmt8 86 none := fun W c b o n cap => by kernel_rfl
theorem f8_86 : FmAll Fmt8 86 := all_none (by kernel_rfl) (by kernel_rfl) f8_86_n
theorem f8_87_n : Fmt8 87 none := fun W c b o n cap => by kernel_rfl
theorem f8_87 : FmAll Fmt8 87 := all_none (by kernel_rfl) (by kernel_rfl) f8_87_n
theorem f8_88_n : Fmt8 88 none := fun W c b o n cap => by kernel_rfl
theorem f8_88 : FmAll Fmt8 88 := all_none (by kernel_rfl) (by kernel_rfl) f8_88_n
theorem f8_89_n : Fmt8 89 none := fun W c b o n cap => by kernel_rfl
theorem f8_89 : FmAll Fmt8 89 := all_none (by kernel_rfl) (by kernel_rfl) f8_89_n
theorem f8_90_n : Fmt8 90 none := fun W c b o n cap => by kernel_rfl
theorem f8_90 : FmAll Fmt8 90 := all_none (by kernel_rfl) (by kernel_rfl) f8_90_n
theorem f8_91_n : Fmt8 91 none := fun W c b o n cap => by kernel_rfl
theorem f8_91 : FmAll Fmt8 91 := all_none (by kernel_rfl) (by kernel_rfl) f8_91_n
theorem f8_92_n : Fmt8 92 none := fun W c b o n cap => by kernel_rfl
theorem f8_92 : FmAll Fmt8 92 := all_none (by kernel_rfl) (by kernel_rfl) f8_92_n
theorem f8_93_n : Fmt8 93 none := fun W c b o n cap => by kernel_rfl
theorem f8_93 : FmAll Fmt8 93 := all_none (by kernel_rfl) (by kernel_rfl) f8_93_n
theorem f8_94_n : Fmt8 94 none := fun W c b o n cap => by kernel_rfl
theorem f8_94 : FmAll Fmt8 94 := all_none (by kernel_rfl) (by kernel_rfl) f8_94_n
theorem f8_95_n : Fmt8 95 none := fun W c b o n cap => by kernel_rfl
theorem f8_95 : FmAll Fmt8 95 := all_none (by kernel_rfl) (by kernel_rfl) f8_95_n
theorem f8_96_n : Fmt8 96 none := fun W c b o n cap => by kernel_rfl
theorem f8_96 : FmAll Fmt8 96 := all_none (by kernel_rfl) (by kernel_rfl) f8_96_n
theorem f8_97_n : Fmt8 97 none := fun W c b o n cap => by kernel_rfl
theorem f8_97 : FmAll Fmt8 97 := all_none (by kernel_rfl) (by kernel_rfl) f8_97_n
theorem f8_98_n : Fmt8 98 none := fun W c b o n cap => by kernel_rfl
theorem f8_98 : FmAll Fmt8 98 := all_none (by kernel_rfl) (by kernel_rfl) f8_98_n
theorem f8_99_n : Fmt8 99 none := fun W c b o n cap => by kernel_rfl
theorem f8_99 : FmAll Fmt8 99 := all_none (by kernel_rfl) (by kernel_rfl) f8_99_n
theorem f8_100_n : Fmt8 100 none := fun W c b o n cap => by kernel_rfl
theorem f8_100 : FmAll Fmt8 100 := all_none (by kernel_rfl) (by kernel_rfl) f8_100_n
theorem f8_101_n : Fmt8 101 none := fun W c b o n cap => by kernel_rfl
theorem f8_101 : FmAll Fmt8 101 := all_none (by kernel_rfl) (by kernel_rfl) f8_101_n
theorem f8_102_n : Fmt8 102 none := fun W c b o n cap => by kernel_rfl
theorem f8_102 : FmAll Fmt8 102 := all_none (by kernel_rfl) (by kernel_rfl) f8_102_n
theorem f8_103_n : Fmt8 103 none := fun W c b o n cap => by kernel_rfl
theorem f8_103 : FmAll Fmt8 103 := all_none (by kernel_rfl) (by kernel_rfl) f8_103_n
theorem f8_104_n : Fmt8 104 none := fun W c b o n cap => by kernel_rfl
theorem f8_104 : FmAll Fmt8 104 := all_none (by kernel_rfl) (by kernel_rfl) f8_104_n
theorem f8_105_n : Fmt8 105 none := fun W c b o n cap => by kernel_rfl
theorem f8_105 : FmAll Fmt8 105 := all_none (by kernel_rfl) (by kernel_rfl) f8_105_n
theorem f8_106_n : Fmt8 106 none := fun W c b o n cap => by kernel_rfl
theorem f8_106 : FmAll Fmt8 106 := all_none (by kernel_rfl) (by kernel_rfl) f8_106_n
theorem f8_107_n : Fmt8 107 none := fun W c b o n cap => by kernel_rfl
theorem f8_107 : FmAll Fmt8 107 := all_none (by kernel_rfl) (by kernel_rfl) f8_107_n
theorem f8_108_n : Fmt8 108 none := fun W c b o n cap => by kernel_rfl
theorem f8_108 : FmAll Fmt8 108 := all_none (by kernel_rfl) (by kernel_rfl) f8_108_n
theorem f8_109_n : Fmt8 109 none := fun W c b o n cap => by kernel_rfl
theorem f8_109 : FmAll Fmt8 109 := all_none (by kernel_rfl) (by kernel_rfl) f8_109_n
theorem f8_110_n : Fmt8 110 none := fun W c b o n cap => by kernel_rfl
theorem f8_110 : FmAll Fmt8 110 := all_none (by kernel_rfl) (by kernel_rfl) f8_110_n
theorem f8_111_n : Fmt8 111 none := fun W c b o n cap => by kernel_rfl
theorem f8_111 : FmAll Fmt8 111 := all_none (by kernel_rfl) (by kernel_rfl) f8_111_n
theorem f8_112_n : Fmt8 112 none := fun W c b o n cap => by kernel_rfl
theorem f8_112 : FmAll Fmt8 112 := all_none (by kernel_rfl) (by kernel_rfl) f8_112_n
theorem f8_113_n : Fmt8 113 none := fun W c b o n cap => by kernel_rfl
theorem f8_113 : FmAll Fmt8 113 := all_none (by kernel_rfl) (by kernel_rfl) f8_113_n
theorem f8_114_n : Fmt8 114 none := fun W c b o n cap => by kernel_rfl
theorem f8_114 : FmAll Fmt8 114 := all_none (by kernel_rfl) (by kernel_rfl) f8_114_n
theorem f8_115_n : Fmt8 115 none := fun W c b o n cap => by kernel_rfl
theorem f8_115 : FmAll Fmt8 115 := all_none (by kernel_rfl) (by kernel_rfl) f8_115_n
theorem f8_116_n : Fmt8 116 none := fun W c b o n cap => by kernel_rfl
theorem f8_116 : FmAll Fmt8 116 := all_none (by kernel_rfl) (by kernel_rfl) f8_116_n
theorem f8_117_n : Fmt8 117 none := fun W c b o n cap => by kernel_rfl
theorem f8_117 : FmAll Fmt8 117 := all_none (by kernel_rfl) (by kernel_rfl) f8_117_n
theorem f8_118_n : Fmt8 118 none := fun W c b o n cap => by kernel_rfl
theorem f8_118 : FmAll Fmt8 118 := all_none (by kernel_rfl) (by kernel_rfl) f8_118_n
theorem f8_119_n : Fmt8 119 none := fun W c b o n cap => by kernel_rfl
theorem f8_119 : FmAll Fmt8 119 := all_none (by kernel_rfl) (by kernel_rfl) f8_119_n
theorem f8_120_n : Fmt8 120 none := fun W c b o n cap => by kernel_rfl
theorem f8_120 : FmAll Fmt8 120 := all_none (by kernel_rfl) (by kernel_rfl) f8_120_n
theorem f8_121_n : Fmt8 121 none := fun W c b o n cap => by kernel_rfl
theorem f8_121 : FmAll Fmt8 121 := all_none (by kernel_rfl) (by kernel_rfl) f8_121_n
theorem f8_122_n : Fmt8 122 none := fun W c b o n cap => by kernel_rfl
theorem f8_122 : FmAll Fmt8 122 := all_none (by kernel_rfl) (by kernel_rfl) f8_122_n
theorem f8_123_n : Fmt8 123 none := fun W c b o n cap => by kernel_rfl
theorem f8_123 : FmAll Fmt8 123 := all_none (by kernel_rfl) (by kernel_rfl) f8_123_n
theorem f8_124_n : Fmt8 124 none := fun W c b o n cap => by kernel_rfl
theorem f8_124 : FmAll Fmt8 124 := all_none (by kernel_rfl) (by kernel_rfl) f8_124_n
theorem f8_125_n : Fmt8 125 none := fun W c b o n cap => by kernel_rfl
theorem f8_125 : FmAll Fmt8 125 := all_none (by kernel_rfl) (by kernel_rfl) f8_125_n
theorem f8_126_n : Fmt8 126 none := fun W c b o n cap => by kernel_rfl
theorem f8_126 : FmAll Fmt8 126 := all_none (by kernel_rfl) (by kernel_rfl) f8_126_n
theorem f8_127_n : Fmt8 127 none := fun W c b o n cap => by kernel_rfl
theorem f8_127 : FmAll Fmt8 127 := all_none (by kernel_rfl) (by kernel_rfl) f8_127_n
theorem f8_64_128 (v : Nat) (h : 64 ≤ v) (h' : v < 128) : FmAll Fmt8 v := by
  rcases Nat.lt_or_ge v 96 with h2 | h2
  · skip
    rcases Nat.lt_or_ge v 80 with h4 | h4
    · skip
      rcases Nat.lt_or_ge v 72 with h6 | h6
      · skip
        rcases Nat.lt_or_ge v 68 with h8 | h8
        · skip
          rcases Nat.lt_or_ge v 66 with h10 | h10
          · skip
            rcases Nat.lt_or_ge v 65 with h12 | h12
            · skip
              obtain rfl : v = 64 := by omega
              exact f8_64
            · skip
              obtain rfl : v = 65 := by omega
              exact f8_65
          · skip
            rcases Nat.lt_or_ge v 67 with h12 | h12
            · skip
              obtain rfl : v = 66 := by omega
              exact f8_66
            · skip
              obtain rfl : v = 67 := by omega
              exact f8_67
        · skip
          rcases Nat.lt_or_ge v 70 with h10 | h10
          · skip
            rcases Nat.lt_or_ge v 69 with h12 | h12
            · skip
              obtain rfl : v = 68 := by omega
              exact f8_68
            · skip
              obtain rfl : v = 69 := by omega
              exact f8_69
          · skip
            rcases Nat.lt_or_ge v 71 with h12 | h12
            · skip
              obtain rfl : v = 70 := by omega
              exact f8_70
            · skip
              obtain rfl : v = 71 := by omega
              exact f8_71
      · skip
        rcases Nat.lt_or_ge v 76 with h8 | h8
        · skip
          rcases Nat.lt_or_ge v 74 with h10 | h10
          · skip
            rcases Nat.lt_or_ge v 73 with h12 | h12
            · skip
              obtain rfl : v = 72 := by omega
              exact f8_72
            · skip
              obtain rfl : v = 73 := by omega
              exact f8_73
          · skip
            rcases Nat.lt_or_ge v 75 with h12 | h12
            · skip
              obtain rfl : v = 74 := by omega
              exact f8_74
            · skip
              obtain rfl : v = 75 := by omega
              exact f8_75
        · skip
          rcases Nat.lt_or_ge v 78 with h10 | h10
          · skip
            rcases Nat.lt_or_ge v 77 with h12 | h12
            · skip
              obtain rfl : v = 76 := by omega
              exact f8_76
            · skip
              obtain rfl : v = 77 := by omega
              exact f8_77
          · skip
            rcases Nat.lt_or_ge v 79 with h12 | h12
            · skip
              obtain rfl : v = 78 := by omega
              exact f8_78
            · skip
              obtain rfl : v = 79 := by omega
              exact f8_79
    · skip
      rcases Nat.lt_or_ge v 88 with h6 | h6
      · skip
        rcases Nat.lt_or_ge v 84 with h8 | h8
        · skip
          rcases Nat.lt_or_ge v 82 with h10 | h10
          · skip
            rcases Nat.lt_or_ge v 81 with h12 | h12
            · skip
              obtain rfl : v = 80 := by omega
              exact f8_80
            · skip
              obtain rfl : v = 81 := by omega
              exact f8_81
          · skip
            rcases Nat.lt_or_ge v 83 with h12 | h12
            · skip
              obtain rfl : v = 82 := by omega
              exact f8_82
            · skip
              obtain rfl : v = 83 := by omega
              exact f8_83
        · skip
          rcases Nat.lt_or_ge v 86 with h10 | h10
          · skip
            rcases Nat.lt_or_ge v 85 with h12 | h12
            · skip
              obtain rfl : v = 84 := by omega
              exact f8_84
            · skip
              obtain rfl : v = 85 := by omega
              exact f8_85
          · skip
            rcases Nat.lt_or_ge v 87 with h12 | h12
            · skip
              obtain rfl : v = 86 := by omega
              exact f8_86
            · skip
              obtain rfl : v = 87 := by omega
              exact f8_87
      · skip
        rcases Nat.lt_or_ge v 92 with h8 | h8
        · skip
          rcases Nat.lt_or_ge v 90 with h10 | h10
          · skip
            rcases Nat.lt_or_ge v 89 with h12 | h12
            · skip
              obtain rfl : v = 88 := by omega
              exact f8_88
            · skip
              obtain rfl : v = 89 := by omega
              exact f8_89
          · skip
            rcases Nat.lt_or_ge v 91 with h12 | h12
            · skip
              obtain rfl : v = 90 := by omega
              exact f8_90
            · skip
              obtain rfl : v = 91 := by omega
              exact f8_91
        · skip
          rcases Nat.lt_or_ge v 94 with h10 | h10
          · skip
            rcases Nat.lt_or_ge v 93 with h12 | h12
            · skip
              obtain rfl : v = 92 := by omega
              exact f8_92
            · skip
              obtain rfl : v = 93 := by omega
              exact f8_93
          · skip
            rcases Nat.lt_or_ge v 95 with h12 | h12
            · skip
              obtain rfl : v = 94 := by omega
              exact f8_94
            · skip
              obtain rfl : v = 95 := by omega
              exact f8_95
  · skip
    rcases Nat.lt_or_ge v 112 with h4 | h4
    · skip
      rcases Nat.lt_or_ge v 104 with h6 | h6
      · skip
        rcases Nat.lt_or_ge v 100 with h8 | h8
        · skip
          rcases Nat.lt_or_ge v 98 with h10 | h10
          · skip
            rcases Nat.lt_or_ge v 97 with h12 | h12
            · skip
              obtain rfl : v = 96 := by omega
              exact f8_96
            · skip
              obtain rfl : v = 97 := by omega
              exact f8_97
          · skip
            rcases Nat.lt_or_ge v 99 with h12 | h12
            · skip
              obtain rfl : v = 98 := by omega
              exact f8_98
            · skip
              obtain rfl : v = 99 := by omega
              exact f8_99
        · skip
          rcases Nat.lt_or_ge v 102 with h10 | h10
          · skip
            rcases Nat.lt_or_ge v 101 with h12 | h12
            · skip
              obtain rfl : v = 100 := by omega
              exact f8_100
            · skip
              obtain rfl : v = 101 := by omega
              exact f8_101
          · skip
            rcases Nat.lt_or_ge v 103 with h12 | h12
            · skip
              obtain rfl : v = 102 := by omega
              exact f8_102
            · skip
              obtain rfl : v = 103 := by omega
              exact f8_103
      · skip
        rcases Nat.lt_or_ge v 108 with h8 | h8
        · skip
          rcases Nat.lt_or_ge v 106 with h10 | h10
          · skip
            rcases Nat.lt_or_ge v 105 with h12 | h12
            · skip
              obtain rfl : v = 104 := by omega
              exact f8_104
            · skip
              obtain rfl : v = 105 := by omega
              exact f8_105
          · skip
            rcases Nat.lt_or_ge v 107 with h12 | h12
            · skip
              obtain rfl : v = 106 := by omega
              exact f8_106
            · skip
              obtain rfl : v = 107 := by omega
              exact f8_107
        · skip
          rcases Nat.lt_or_ge v 110 with h10 | h10
          · skip
            rcases Nat.lt_or_ge v 109 with h12 | h12
            · skip
              obtain rfl : v = 108 := by omega
              exact f8_108
            · skip
              obtain rfl : v = 109 := by omega
              exact f8_109
          · skip
            rcases Nat.lt_or_ge v 111 with h12 | h12
            · skip
              obtain rfl : v = 110 := by omega
              exact f8_110
            · skip
              obtain rfl : v = 111 := by omega
              exact f8_111
    · skip
      rcases Nat.lt_or_ge v 120 with h6 | h6
      · skip
        rcases Nat.lt_or_ge v 116 with h8 | h8
        · skip
          rcases Nat.lt_or_ge v 114 with h10 | h10
          · skip
            rcases Nat.lt_or_ge v 113 with h12 | h12
            · skip
              obtain rfl : v = 112 := by omega
              exact f8_112
            · skip
              obtain rfl : v = 113 := by omega
              exact f8_113
          · skip
            rcases Nat.lt_or_ge v 115 with h12 | h12
            · skip
              obtain rfl : v = 114 := by omega
              exact f8_114
            · skip
              obtain rfl : v = 115 := by omega
              exact f8_115
        · skip
          rcases Nat.lt_or_ge v 118 with h10 | h10
          · skip
            rcases Nat.lt_or_ge v 117 with h12 | h12
            · skip
              obtain rfl : v = 116 := by omega
              exact f8_116
            · skip
              obtain rfl : v = 117 := by omega
              exact f8_117
          · skip
            rcases Nat.lt_or_ge v 119 with h12 | h12
            · skip
              obtain rfl : v = 118 := by omega
              exact f8_118
            · skip
              obtain rfl : v = 119 := by omega
              exact f8_119
      · skip
        rcases Nat.lt_or_ge v 124 with h8 | h8
        · skip
          rcases Nat.lt_or_ge v 122 with h10 | h10
          · skip
            rcases Nat.lt_or_ge v 121 with h12 | h12
            · skip
              obtain rfl : v = 120 := by omega
              exact f8_120
            · skip
              obtain rfl : v = 121 := by omega
              exact f8_121
          · skip
            rcases Nat.lt_or_ge v 123 with h12 | h12
            · skip
              obtain rfl : v = 122 := by omega
              exact f8_122
            · skip
              obtain rfl : v = 123 := by omega
              exact f8_123
        · skip
          rcases Nat.lt_or_ge v 126 with h10 | h10
          · skip
            rcases Nat.lt_or_ge v 125 with h12 | h12
            · skip
              obtain rfl : v = 124 := by omega
              exact f8_124
            · skip
              obtain rfl : v = 125 := by omega
              exact f8_125
          · skip
            rcases Nat.lt_or_ge v 127 with h12 | h12
            · skip
              obtain rfl : v = 126 := by omega
              exact f8_126
            · skip
              obtain rfl : v = 127 := by omega
              exact f8_127
end Go.Proofs.YtdglgiaegjkinaaDoor
