/- Format (listing) at the opcodes 128 to 191. Printed by mkfmt.py. -/
import Derived.Test.YtdglgiaegjkinaaDoorSpc
namespace Go.Proofs.YtdglgiaegjkinaaDoor
open Go Go.Sx
set_option maxRecDepth 100000
theorem f7_128_n : Fmt7 128 none := fun W c b o n cap => by kernel_rfl
theorem f7_128 : FmAll Fmt7 128 := all_none (by kernel_rfl) (by kernel_rfl) f7_128_n
theorem f7_129_n : Fmt7 129 none := fun W c b o n cap => by kernel_rfl
theorem f7_129 : FmAll Fmt7 129 := all_none (by kernel_rfl) (by kernel_rfl) f7_129_n
theorem f7_130_n : Fmt7 130 none := fun W c b o n cap => by kernel_rfl
theorem f7_130 : FmAll Fmt7 130 := all_none (by kernel_rfl) (by kernel_rfl) f7_130_n
theorem f7_131_n : Fmt7 131 none := fun W c b o n cap => by kernel_rfl
theorem f7_131 : FmAll Fmt7 131 := all_none (by kernel_rfl) (by kernel_rfl) f7_131_n
theorem f7_132_n : Fmt7 132 none := fun W c b o n cap => by kernel_rfl
theorem f7_132 : FmAll Fmt7 132 := all_none (by kernel_rfl) (by kernel_rfl) f7_132_n
theorem f7_133_n : Fmt7 133 none := fun W c b o n cap => by kernel_rfl
theorem f7_133 : FmAll Fmt7 133 := all_none (by kernel_rfl) (by kernel_rfl) f7_133_n
theorem f7_134_n : Fmt7 134 none := fun W c b o n cap => by kernel_rfl
theorem f7_134 : FmAll Fmt7 134 := all_none (by kernel_rfl) (by kernel_rfl) f7_134_n
theorem f7_135_n : Fmt7 135 none := fun W c b o n cap => by kernel_rfl
theorem f7_135 : FmAll Fmt7 135 := all_none (by kernel_rfl) (by kernel_rfl) f7_135_n
theorem f7_136_n : Fmt7 136 none := fun W c b o n cap => by kernel_rfl
theorem f7_136 : FmAll Fmt7 136 := all_none (by kernel_rfl) (by kernel_rfl) f7_136_n
theorem f7_137_n : Fmt7 137 none := fun W c b o n cap => by kernel_rfl
theorem f7_137 : FmAll Fmt7 137 := all_none (by kernel_rfl) (by kernel_rfl) f7_137_n
theorem f7_138_n : Fmt7 138 none := fun W c b o n cap => by kernel_rfl
theorem f7_138 : FmAll Fmt7 138 := all_none (by kernel_rfl) (by kernel_rfl) f7_138_n
theorem f7_139_n : Fmt7 139 none := fun W c b o n cap => by kernel_rfl
theorem f7_139 : FmAll Fmt7 139 := all_none (by kernel_rfl) (by kernel_rfl) f7_139_n
theorem f7_140_n : Fmt7 140 none := fun W c b o n cap => by kernel_rfl
theorem f7_140 : FmAll Fmt7 140 := all_none (by kernel_rfl) (by kernel_rfl) f7_140_n
theorem f7_141_n : Fmt7 141 none := fun W c b o n cap => by kernel_rfl
theorem f7_141 : FmAll Fmt7 141 := all_none (by kernel_rfl) (by kernel_rfl) f7_141_n
theorem f7_142_n : Fmt7 142 none := fun W c b o n cap => by kernel_rfl
theorem f7_142 : FmAll Fmt7 142 := all_none (by kernel_rfl) (by kernel_rfl) f7_142_n
theorem f7_143_n : Fmt7 143 none := fun W c b o n cap => by kernel_rfl
theorem f7_143 : FmAll Fmt7 143 := all_none (by kernel_rfl) (by kernel_rfl) f7_143_n
theorem f7_144_n : Fmt7 144 none := fun W c b o n cap => by kernel_rfl
theorem f7_144 : FmAll Fmt7 144 := all_none (by kernel_rfl) (by kernel_rfl) f7_144_n
theorem f7_145_n : Fmt7 145 none := fun W c b o n cap => by kernel_rfl
theorem f7_145 : FmAll Fmt7 145 := all_none (by kernel_rfl) (by kernel_rfl) f7_145_n
theorem f7_146_n : Fmt7 146 none := fun W c b o n cap => by kernel_rfl
theorem f7_146 : FmAll Fmt7 146 := all_none (by kernel_rfl) (by kernel_rfl) f7_146_n
theorem f7_147_n : Fmt7 147 none := fun W c b o n cap => by kernel_rfl
theorem f7_147 : FmAll Fmt7 147 := all_none (by kernel_rfl) (by kernel_rfl) f7_147_n
theorem f7_148_n : Fmt7 148 none := fun W c b o n cap => by kernel_rfl
theorem f7_148 : FmAll Fmt7 148 := all_none (by kernel_rfl) (by kernel_rfl) f7_148_n
theorem f7_149_n : Fmt7 149 none := fun W c b o n cap => by kernel_rfl
theorem f7_149 : FmAll Fmt7 149 := all_none (by kernel_rfl) (by kernel_rfl) f7_149_n
theorem f7_150_n : Fmt7 150 none := fun W c b o n cap => by kernel_rfl
theorem f7_150 : FmAll Fmt7 150 := all_none (by kernel_rfl) (by kernel_rfl) f7_150_n
theorem f7_151_n : Fmt7 151 none := fun W c b o n cap => by kernel_rfl
theorem f7_151 : FmAll Fmt7 151 := all_none (by kernel_rfl) (by kernel_rfl) f7_151_n
theorem f7_152_n : Fmt7 152 none := fun W c b o n cap => by kernel_rfl
theorem f7_152 : FmAll Fmt7 152 := all_none (by kernel_rfl) (by kernel_rfl) f7_152_n
theorem f7_153_n : Fmt7 153 none := fun W c b o n cap => by kernel_rfl
theorem f7_153 : FmAll Fmt7 153 := all_none (by kernel_rfl) (by kernel_rfl) f7_153_n
theorem f7_154_n : Fmt7 154 none := fun W c b o n cap => by kernel_rfl
theorem f7_154 : FmAll Fmt7 154 := all_none (by kernel_rfl) (by kernel_rfl) f7_154_n
theorem f7_155_n : Fmt7 155 none := fun W c b o n cap => by kernel_rfl
theorem f7_155 : FmAll Fmt7 155 := all_none (by kernel_rfl) (by kernel_rfl) f7_155_n
theorem f7_156_n : Fmt7 156 none := fun W c b o n cap => by kernel_rfl
theorem f7_156 : FmAll Fmt7 156 := all_none (by kernel_rfl) (by kernel_rfl) f7_156_n
theorem f7_157_n : Fmt7 157 none := fun W c b o n cap => by kernel_rfl
theorem f7_157 : FmAll Fmt7 157 := all_none (by kernel_rfl) (by kernel_rfl) f7_157_n
theorem f7_158_n : Fmt7 158 none := fun W c b o n cap => by kernel_rfl
theorem f7_158 : FmAll Fmt7 158 := all_none (by kernel_rfl) (by kernel_rfl) f7_158_n
theorem f7_159_n : Fmt7 159 none := fun W c b o n cap => by kernel_rfl
theorem f7_159 : FmAll Fmt7 159 := all_none (by kernel_rfl) (by kernel_rfl) f7_159_n
theorem f7_160_n : Fmt7 160 none := fun W c b o n cap => by kernel_rfl
theorem f7_160 : FmAll Fmt7 160 := all_none (by kernel_rfl) (by kernel_rfl) f7_160_n
theorem f7_161_n : Fmt7 161 none := fun W c b o n cap => by kernel_rfl
theorem f7_161 : FmAll Fmt7 161 := all_none (by kernel_rfl) (by kernel_rfl) f7_161_n
theorem f7_162_n : Fmt7 162 none := fun W c b o n cap => by kernel_rfl
theorem f7_162 : FmAll Fmt7 162 := all_none (by kernel_rfl) (by kernel_rfl) f7_162_n
theorem f7_163_n : Fmt7 163 none := fun W c b o n cap => by kernel_rfl
theorem f7_163 : FmAll Fmt7 163 := all_none (by kernel_rfl) (by kernel_rfl) f7_163_n
theorem f7_164_n : Fmt7 164 none := fun W c b o n cap => by kernel_rfl
theorem f7_164 : FmAll Fmt7 164 := all_none (by kernel_rfl) (by kernel_rfl) f7_164_n
theorem f7_165_n : Fmt7 165 none := fun W c b o n cap => by kernel_rfl
theorem f7_165 : FmAll Fmt7 165 := all_none (by kernel_rfl) (by kernel_rfl) f7_165_n
theorem f7_166_n : Fmt7 166 none := fun W c b o n cap => by kernel_rfl
theorem f7_166 : FmAll Fmt7 166 := all_none (by kernel_rfl) (by kernel_rfl) f7_166_n
theorem f7_167_n : Fmt7 167 none := fun W c b o n cap => by kernel_rfl
theorem f7_167 : FmAll Fmt7 167 := all_none (by kernel_rfl) (by kernel_rfl) f7_167_n
theorem f7_168_n : Fmt7 168 none := fun W c b o n cap => by kernel_rfl
theorem f7_168 : FmAll Fmt7 168 := all_none (by kernel_rfl) (by kernel_rfl) f7_168_n
theorem f7_169_n : Fmt7 169 none := fun W c b o n cap => by kernel_rfl
theorem f7_169 : FmAll Fmt7 169 := all_none (by kernel_rfl) (by kernel_rfl) f7_169_n
theorem f7_170_n : Fmt7 170 none := fun W c b o n cap => by kernel_rfl
theorem f7_170 : FmAll Fmt7 170 := all_none (by kernel_rfl) (by kernel_rfl) f7_170_n
theorem f7_171_n : Fmt7 171 none := fun W c b o n cap => by kernel_rfl
theorem f7_171 : FmAll Fmt7 171 := all_none (by kernel_rfl) (by kernel_rfl) f7_171_n
theorem f7_172_n : Fmt7 172 none := fun W c b o n cap => by kernel_rfl
theorem f7_172 : FmAll Fmt7 172 := all_none (by kernel_rfl) (by kernel_rfl) f7_172_n
theorem f7_173_n : Fmt7 173 none := fun W c b o n cap => by kernel_rfl
theorem f7_173 : FmAll Fmt7 173 := all_none (by kernel_rfl) (by kernel_rfl) f7_173_n
theorem f7_174_n : Fmt7 174 none := fun W c b o n cap => by kernel_rfl
theorem f7_174 : FmAll Fmt7 174 := all_none (by kernel_rfl) (by kernel_rfl) f7_174_n
theorem f7_175_n : Fmt7 175 none := fun W c b o n cap => by kernel_rfl
theorem f7_175 : FmAll Fmt7 175 := all_none (by kernel_rfl) (by kernel_rfl) f7_175_n
theorem f7_176_n : Fmt7 176 none := fun W c b o n cap => by kernel_rfl
theorem f7_176 : FmAll Fmt7 176 := all_none (by kernel_rfl) (by kernel_rfl) f7_176_n
theorem f7_177_n : Fmt7 177 none := fun W c b o n cap => by kernel_rfl
theorem f7_177 : FmAll Fmt7 177 := all_none (by kernel_rfl) (by kernel_rfl) f7_177_n
theorem f7_178_n : Fmt7 178 none := fun W c b o n cap => by kernel_rfl
theorem f7_178 : FmAll Fmt7 178 := all_none (by kernel_rfl) (by kernel_rfl) f7_178_n
theorem f7_179_n : Fmt7 179 none := fun W c b o n cap => by kernel_rfl
theorem f7_179 : FmAll Fmt7 179 := all_none (by kernel_rfl) (by kernel_rfl) f7_179_n
theorem f7_180_n : Fmt7 180 none := fun W c b o n cap => by kernel_rfl
theorem f7_180 : FmAll Fmt7 180 := all_none (by kernel_rfl) (by kernel_rfl) f7_180_n
theorem f7_181_n : Fmt7 181 none := fun W c b o n cap => by kernel_rfl
theorem f7_181 : FmAll Fmt7 181 := all_none (by kernel_rfl) (by kernel_rfl) f7_181_n
theorem f7_182_n : Fmt7 182 none := fun W c b o n cap => by kernel_rfl
theorem f7_182 : FmAll Fmt7 182 := all_none (by kernel_rfl) (by kernel_rfl) f7_182_n
theorem f7_183_n : Fmt7 183 none := fun W c b o n cap => by kernel_rfl
theorem f7_183 : FmAll Fmt7 183 := all_none (by kernel_rfl) (by kernel_rfl) f7_183_n
theorem f7_184_n : Fmt7 184 none := fun W c b o n cap => by kernel_rfl
theorem f7_184 : FmAll Fmt7 184 := all_none (by kernel_rfl) (by kernel_rfl) f7_184_n
theorem f7_185_n : Fmt7 185 none := fun W c b o n cap => by kernel_rfl
theorem f7_185 : FmAll Fmt7 185 := all_none (by kernel_rfl) (by kernel_rfl) f7_185_n
theorem f7_186_n : Fmt7 186 none := fun W c b o n cap => by kernel_rfl
theorem f7_186 : FmAll Fmt7 186 := all_none (by kernel_rfl) (by kernel_rfl) f7_186_n
theorem f7_187_n : Fmt7 187 none := fun W c b o n cap => by kernel_rfl
theorem f7_187 : FmAll Fmt7 187 := all_none (by kernel_rfl) (by kernel_rfl) f7_187_n
theorem f7_188_n : Fmt7 188 none := fun W c b o n cap => by kernel_rfl
theorem f7_188 : FmAll Fmt7 188 := all_none (by kernel_rfl) (by kernel_rfl) f7_188_n
theorem f7_189_n : Fmt7 189 none := fun W c b o n cap => by kernel_rfl
theorem f7_189 : FmAll Fmt7 189 := all_none (by kernel_rfl) (by kernel_rfl) f7_189_n
theorem f7_190_n : Fmt7 190 none := fun W c b o n cap => by kernel_rfl
theorem f7_190 : FmAll Fmt7 190 := all_none (by kernel_rfl) (by kernel_rfl) f7_190_n
theorem f7_191_n : Fmt7 191 none := fun W c b o n cap => by kernel_rfl
theorem f7_191 : FmAll Fmt7 191 := all_none (by kernel_rfl) (by kernel_rfl) f7_191_n
theorem f7_128_192 (v : Nat) (h : 128 ≤ v) (h' : v < 192) : FmAll Fmt7 v := by
  rcases Nat.lt_or_ge v 160 with h2 | h2
  · skip
    rcases Nat.lt_or_ge v 144 with h4 | h4
    · skip
      rcases Nat.lt_or_ge v 136 with h6 | h6
      · skip
        rcases Nat.lt_or_ge v 132 with h8 | h8
        · skip
          rcases Nat.lt_or_ge v 130 with h10 | h10
          · skip
            rcases Nat.lt_or_ge v 129 with h12 | h12
            · skip
              obtain rfl : v = 128 := by omega
              exact f7_128
            · skip
              obtain rfl : v = 129 := by omega
              exact f7_129
          · skip
            rcases Nat.lt_or_ge v 131 with h12 | h12
            · skip
              obtain rfl : v = 130 := by omega
              exact f7_130
            · skip
              obtain rfl : v = 131 := by omega
              exact f7_131
        · skip
          rcases Nat.lt_or_ge v 134 with h10 | h10
          · skip
            rcases Nat.lt_or_ge v 133 with h12 | h12
            · skip
              obtain rfl : v = 132 := by omega
              exact f7_132
            · skip
              obtain rfl : v = 133 := by omega
              exact f7_133
          · skip
            rcases Nat.lt_or_ge v 135 with h12 | h12
            · skip
              obtain rfl : v = 134 := by omega
              exact f7_134
            · skip
              obtain rfl : v = 135 := by omega
              exact f7_135
      · skip
        rcases Nat.lt_or_ge v 140 with h8 | h8
        · skip
          rcases Nat.lt_or_ge v 138 with h10 | h10
          · skip
            rcases Nat.lt_or_ge v 137 with h12 | h12
            · skip
              obtain rfl : v = 136 := by omega
              exact f7_136
            · skip
              obtain rfl : v = 137 := by omega
              exact f7_137
          · skip
            rcases Nat.lt_or_ge v 139 with h12 | h12
            · skip
              obtain rfl : v = 138 := by omega
              exact f7_138
            · skip
              obtain rfl : v = 139 := by omega
              exact f7_139
        · skip
          rcases Nat.lt_or_ge v 142 with h10 | h10
          · skip
            rcases Nat.lt_or_ge v 141 with h12 | h12
            · skip
              obtain rfl : v = 140 := by omega
              exact f7_140
            · skip
              obtain rfl : v = 141 := by omega
              exact f7_141
          · skip
            rcases Nat.lt_or_ge v 143 with h12 | h12
            · skip
              obtain rfl : v = 142 := by omega
              exact f7_142
            · skip
              obtain rfl : v = 143 := by omega
              exact f7_143
    · skip
      rcases Nat.lt_or_ge v 152 with h6 | h6
      · skip
        rcases Nat.lt_or_ge v 148 with h8 | h8
        · skip
          rcases Nat.lt_or_ge v 146 with h10 | h10
          · skip
            rcases Nat.lt_or_ge v 145 with h12 | h12
            · skip
              obtain rfl : v = 144 := by omega
              exact f7_144
            · skip
              obtain rfl : v = 145 := by omega
              exact f7_145
          · skip
            rcases Nat.lt_or_ge v 147 with h12 | h12
            · skip
              obtain rfl : v = 146 := by omega
              exact f7_146
            · skip
              obtain rfl : v = 147 := by omega
              exact f7_147
        · skip
          rcases Nat.lt_or_ge v 150 with h10 | h10
          · skip
            rcases Nat.lt_or_ge v 149 with h12 | h12
            · skip
              obtain rfl : v = 148 := by omega
              exact f7_148
            · skip
              obtain rfl : v = 149 := by omega
              exact f7_149
          · skip
            rcases Nat.lt_or_ge v 151 with h12 | h12
            · skip
              obtain rfl : v = 150 := by omega
              exact f7_150
            · skip
              obtain rfl : v = 151 := by omega
              exact f7_151
      · skip
        rcases Nat.lt_or_ge v 156 with h8 | h8
        · skip
          rcases Nat.lt_or_ge v 154 with h10 | h10
          · skip
            rcases Nat.lt_or_ge v 153 with h12 | h12
            · skip
              obtain rfl : v = 152 := by omega
              exact f7_152
            · skip
              obtain rfl : v = 153 := by omega
              exact f7_153
          · skip
            rcases Nat.lt_or_ge v 155 with h12 | h12
            · skip
              obtain rfl : v = 154 := by omega
              exact f7_154
            · skip
              obtain rfl : v = 155 := by omega
              exact f7_155
        · skip
          rcases Nat.lt_or_ge v 158 with h10 | h10
          · skip
            rcases Nat.lt_or_ge v 157 with h12 | h12
            · skip
              obtain rfl : v = 156 := by omega
              exact f7_156
            · skip
              obtain rfl : v = 157 := by omega
              exact f7_157
          · skip
            rcases Nat.lt_or_ge v 159 with h12 | h12
            · skip
              obtain rfl : v = 158 := by omega
              exact f7_158
            · skip
              obtain rfl : v = 159 := by omega
              exact f7_159
  · skip
    rcases Nat.lt_or_ge v 176 with h4 | h4
    · skip
      rcases Nat.lt_or_ge v 168 with h6 | h6
      · skip
        rcases Nat.lt_or_ge v 164 with h8 | h8
        · skip
          rcases Nat.lt_or_ge v 162 with h10 | h10
          · skip
            rcases Nat.lt_or_ge v 161 with h12 | h12
            · skip
              obtain rfl : v = 160 := by omega
              exact f7_160
            · skip
              obtain rfl : v = 161 := by omega
              exact f7_161
          · skip
            rcases Nat.lt_or_ge v 163 with h12 | h12
            · skip
              obtain rfl : v = 162 := by omega
              exact f7_162
            · skip
              obtain rfl : v = 163 := by omega
              exact f7_163
        · skip
          rcases Nat.lt_or_ge v 166 with h10 | h10
          · skip
            rcases Nat.lt_or_ge v 165 with h12 | h12
            · skip
              obtain rfl : v = 164 := by omega
              exact f7_164
            · skip
              obtain rfl : v = 165 := by omega
              exact f7_165
          · skip
            rcases Nat.lt_or_ge v 167 with h12 | h12
            · skip
              obtain rfl : v = 166 := by omega
              exact f7_166
            · skip
              obtain rfl : v = 167 := by omega
              exact f7_167
      · skip
        rcases Nat.lt_or_ge v 172 with h8 | h8
        · skip
          rcases Nat.lt_or_ge v 170 with h10 | h10
          · skip
            rcases Nat.lt_or_ge v 169 with h12 | h12
            · skip
              obtain rfl : v = 168 := by omega
              exact f7_168
            · skip
              obtain rfl : v = 169 := by omega
              exact f7_169
          · skip
            rcases Nat.lt_or_ge v 171 with h12 | h12
            · skip
              obtain rfl : v = 170 := by omega
              exact f7_170
            · skip
              obtain rfl : v = 171 := by omega
              exact f7_171
        · skip
          rcases Nat.lt_or_ge v 174 with h10 | h10
          · skip
            rcases Nat.lt_or_ge v 173 with h12 | h12
            · skip
              obtain rfl : v = 172 := by omega
              exact f7_172
            · skip
              obtain rfl : v = 173 := by omega
              exact f7_173
          · skip
            rcases Nat.lt_or_ge v 175 with h12 | h12
            · skip
              obtain rfl : v = 174 := by omega
              exact f7_174
            · skip
              obtain rfl : v = 175 := by omega
              exact f7_175
    · skip
      rcases Nat.lt_or_ge v 184 with h6 | h6
      · skip
        rcases Nat.lt_or_ge v 180 with h8 | h8
        · skip
          rcases Nat.lt_or_ge v 178 with h10 | h10
          · skip
            rcases Nat.lt_or_ge v 177 with h12 | h12
            · skip
              obtain rfl : v = 176 := by omega
              exact f7_176
            · skip
              obtain rfl : v = 177 := by omega
              exact f7_177
          · skip
            rcases Nat.lt_or_ge v 179 with h12 | h12
            · skip
              obtain rfl : v = 178 := by omega
              exact f7_178
            · skip
              obtain rfl : v = 179 := by omega
              exact f7_179
        · skip
          rcases Nat.lt_or_ge v 182 with h10 | h10
          · skip
            rcases Nat.lt_or_ge v 181 with h12 | h12
            · skip
              obtain rfl : v = 180 := by omega
              exact f7_180
            · skip
              obtain rfl : v = 181 := by omega
              exact f7_181
          · skip
            rcases Nat.lt_or_ge v 183 with h12 | h12
            · skip
              obtain rfl : v = 182 := by omega
              exact f7_182
            · skip
              obtain rfl : v = 183 := by omega
              exact f7_183
      · skip
        rcases Nat.lt_or_ge v 188 with h8 | h8
        · skip
          rcases Nat.lt_or_ge v 186 with h10 | h10
          · skip
            rcases Nat.lt_or_ge v 185 with h12 | h12
            · skip
              obtain rfl : v = 184 := by omega
              exact f7_184
            · skip
              obtain rfl : v = 185 := by omega
              exact f7_185
          · skip
            rcases Nat.lt_or_ge v 187 with h12 | h12
            · skip
              obtain rfl : v = 186 := by omega
              exact f7_186
            · skip
              obtain rfl : v = 187 := by omega
              exact f7_187
        · skip
          rcases Nat.lt_or_ge v 190 with h10 | h10
          · skip
            rcases Nat.lt_or_ge v 189 with h12 | h12
            · skip
              obtain rfl : v = 188 := by omega
              exact f7_188
            · skip
              obtain rfl : v = 189 := by omega
              exact f7_189
          · skip
            rcases Nat.lt_or_ge v 191 with h12 | h12
            · skip
              obtain rfl : v = 190 := by omega
              exact f7_190
            · skip
              obtain rfl : v = 191 := by omega
              exact f7_191
end Go.Proofs.YtdglgiaegjkinaaDoor
