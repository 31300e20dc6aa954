/- Format (the document) at the opcodes 128 to 191. Printed by mkfmt.py. -/
import Derived.Test.YtdglgiaegjkinaaDoorSpc
namespace Go.Proofs.YtdglgiaegjkinaaDoor
open Go Go.Sx
set_option maxRecDepth 100000
theorem f8_128_n : Fmt8 128 none := fun W c b o n cap => by kernel_rfl
theorem f8_128 : FmAll Fmt8 128 := all_none (by kernel_rfl) (by kernel_rfl) f8_128_n
theorem f8_129_n : Fmt8 129 none := fun W c b o n cap => by kernel_rfl
theorem f8_129 : FmAll Fmt8 129 := all_none (by kernel_rfl) (by kernel_rfl) f8_129_n
theorem f8_130_n : Fmt8 130 none := fun W c b o n cap => by kernel_rfl
theorem f8_130 : FmAll Fmt8 130 := all_none (by kernel_rfl) (by kernel_rfl) f8_130_n
theorem f8_131_n : Fmt8 131 none := fun W c b o n cap => by kernel_rfl
theorem f8_131 : FmAll Fmt8 131 := all_none (by kernel_rfl) (by kernel_rfl) f8_131_n
theorem f8_132_n : Fmt8 132 none := fun W c b o n cap => by kernel_rfl
theorem f8_132 : FmAll Fmt8 132 := all_none (by kernel_rfl) (by kernel_rfl) f8_132_n
theorem f8_133_n : Fmt8 133 none := fun W c b o n cap => by kernel_rfl
theorem f8_133 : FmAll Fmt8 133 := all_none (by kernel_rfl) (by kernel_rfl) f8_133_n
theorem f8_134_n : Fmt8 134 none := fun W c b o n cap => by kernel_rfl
theorem f8_134 : FmAll Fmt8 134 := all_none (by kernel_rfl) (by kernel_rfl) f8_134_n
theorem f8_135_n : Fmt8 135 none := fun W c b o n cap => by kernel_rfl
theorem f8_135 : FmAll Fmt8 135 := all_none (by kernel_rfl) (by kernel_rfl) f8_135_n
theorem f8_136_n : Fmt8 136 none := fun W c b o n cap => by kernel_rfl
theorem f8_136 : FmAll Fmt8 136 := all_none (by kernel_rfl) (by kernel_rfl) f8_136_n
theorem f8_137_n : Fmt8 137 none := fun W c b o n cap => by kernel_rfl
theorem f8_137 : FmAll Fmt8 137 := all_none (by kernel_rfl) (by kernel_rfl) f8_137_n
theorem f8_138_n : Fmt8 138 none := fun W c b o n cap => by kernel_rfl
theorem f8_138 : FmAll Fmt8 138 := all_none (by kernel_rfl) (by kernel_rfl) f8_138_n
theorem f8_139_n : Fmt8 139 none := fun W c b o n cap => by kernel_rfl
theorem f8_139 : FmAll Fmt8 139 := all_none (by kernel_rfl) (by kernel_rfl) f8_139_n
theorem f8_140_n : Fmt8 140 none := fun W c b o n cap => by kernel_rfl
theorem f8_140 : FmAll Fmt8 140 := all_none (by kernel_rfl) (by kernel_rfl) f8_140_n
theorem f8_141_n : Fmt8 141 none := fun W c b o n cap => by kernel_rfl
theorem f8_141 : FmAll Fmt8 141 := all_none (by kernel_rfl) (by kernel_rfl) f8_141_n
theorem f8_142_n : Fmt8 142 none := fun W c b o n cap => by kernel_rfl
theorem f8_142 : FmAll Fmt8 142 := all_none (by kernel_rfl) (by kernel_rfl) f8_142_n
theorem f8_143_n : Fmt8 143 none := fun W c b o n cap => by kernel_rfl
theorem f8_143 : FmAll Fmt8 143 := all_none (by kernel_rfl) (by kernel_rfl) f8_143_n
theorem f8_144_n : Fmt8 144 none := fun W c b o n cap => by kernel_rfl
theorem f8_144 : FmAll Fmt8 144 := all_none (by kernel_rfl) (by kernel_rfl) f8_144_n
theorem f8_145_n : Fmt8 145 none := fun W c b o n cap => by kernel_rfl
theorem f8_145 : FmAll Fmt8 145 := all_none (by kernel_rfl) (by kernel_rfl) f8_145_n
theorem f8_146_n : Fmt8 146 none := fun W c b o n cap => by kernel_rfl
theorem f8_146 : FmAll Fmt8 146 := all_none (by kernel_rfl) (by kernel_rfl) f8_146_n
theorem f8_147_n : Fmt8 147 none := fun W c b o n cap => by kernel_rfl
theorem f8_147 : FmAll Fmt8 147 := all_none (by kernel_rfl) (by kernel_rfl) f8_147_n
theorem f8_148_n : Fmt8 148 none := fun W c b o n cap => by kernel_rfl
theorem f8_148 : FmAll Fmt8 148 := all_none (by kernel_rfl) (by kernel_rfl) f8_148_n
theorem f8_149_n : Fmt8 149 none := fun W c b o n cap => by kernel_rfl
theorem f8_149 : FmAll Fmt8 149 := all_none (by kernel_rfl) (by kernel_rfl) f8_149_n
theorem f8_150_n : Fmt8 150 none := fun W c b o n cap => by kernel_rfl
theorem f8_150 : FmAll Fmt8 150 := all_none (by kernel_rfl) (by kernel_rfl) f8_150_n
theorem f8_151_n : Fmt8 151 none := fun W c b o n cap => by kernel_rfl
theorem f8_151 : FmAll Fmt8 151 := all_none (by kernel_rfl) (by kernel_rfl) f8_151_n
theorem f8_152_n : Fmt8 152 none := fun W c b o n cap => by kernel_rfl
theorem f8_152 : FmAll Fmt8 152 := all_none (by kernel_rfl) (by kernel_rfl) f8_152_n
theorem f8_153_n : Fmt8 153 none := fun W c b o n cap => by kernel_rfl
theorem f8_153 : FmAll Fmt8 153 := all_none (by kernel_rfl) (by kernel_rfl) f8_153_n
theorem f8_154_n : Fmt8 154 none := fun W c b o n cap => by kernel_rfl
theorem f8_154 : FmAll Fmt8 154 := all_none (by kernel_rfl) (by kernel_rfl) f8_154_n
theorem f8_155_n : Fmt8 155 none := fun W c b o n cap => by kernel_rfl
theorem f8_155 : FmAll Fmt8 155 := all_none (by kernel_rfl) (by kernel_rfl) f8_155_n
theorem f8_156_n : Fmt8 156 none := fun W c b o n cap => by kernel_rfl
theorem f8_156 : FmAll Fmt8 156 := all_none (by kernel_rfl) (by kernel_rfl) f8_156_n
theorem f8_157_n : Fmt8 157 none := fun W c b o n cap => by kernel_rfl
theorem f8_157 : FmAll Fmt8 157 := all_none (by kernel_rfl) (by kernel_rfl) f8_157_n
theorem f8_158_n : Fmt8 158 none := fun W c b o n cap => by kernel_rfl
theorem f8_158 : FmAll Fmt8 158 := all_none (by kernel_rfl) (by kernel_rfl) f8_158_n
theorem f8_159_n : Fmt8 159 none := fun W c b o n cap => by kernel_rfl
theorem f8_159 : FmAll Fmt8 159 := all_none (by kernel_rfl) (by kernel_rfl) f8_159_n
theorem f8_160_n : Fmt8 160 none := fun W c b o n cap => by kernel_rfl
theorem f8_160 : FmAll Fmt8 160 := all_none (by kernel_rfl) (by kernel_rfl) f8_160_n
theorem f8_161_n : Fmt8 161 none := fun W c b o n cap => by kernel_rfl
theorem f8_161 : FmAll Fmt8 161 := all_none (by kernel_rfl) (by kernel_rfl) f8_161_n
theorem f8_162_n : Fmt8 162 none := fun W c b o n cap => by kernel_rfl
theorem f8_162 : FmAll Fmt8 162 := all_none (by kernel_rfl) (by kernel_rfl) f8_162_n
theorem f8_163_n : Fmt8 163 none := fun W c b o n cap => by kernel_rfl
theorem f8_163 : FmAll Fmt8 163 := all_none (by kernel_rfl) (by kernel_rfl) f8_163_n
theorem f8_164_n : Fmt8 164 none := fun W c b o n cap => by kernel_rfl
theorem f8_164 : FmAll Fmt8 164 := all_none (by kernel_rfl) (by kernel_rfl) f8_164_n
theorem f8_165_n : Fmt8 165 none := fun W c b o n cap => by kernel_rfl
theorem f8_165 : FmAll Fmt8 165 := all_none (by kernel_rfl) (by kernel_rfl) f8_165_n
theorem f8_166_n : Fmt8 166 none := fun W c b o n cap => by kernel_rfl
theorem f8_166 : FmAll Fmt8 166 := all_none (by kernel_rfl) (by kernel_rfl) f8_166_n
theorem f8_167_n : Fmt8 167 none := fun W c b o n cap => by kernel_rfl
theorem f8_167 : FmAll Fmt8 167 := all_none (by kernel_rfl) (by kernel_rfl) f8_167_n
theorem f8_168_n : Fmt8 168 none := fun W c b o n cap => by kernel_rfl
theorem f8_168 : FmAll Fmt8 168 := all_none (by kernel_rfl) (by kernel_rfl) f8_168_n
theorem f8_169_n : Fmt8 169 none := fun W c b o n cap => by kernel_rfl
theorem f8_169 : FmAll Fmt8 169 := all_none (by kernel_rfl) (by kernel_rfl) f8_169_n
theorem f8_170_n : Fmt8 170 none := fun W c b o n cap => by kernel_rfl
theorem f8_170 : FmAll Fmt8 170 := all_none (by kernel_rfl) (by kernel_rfl) f8_170_n
theorem f8_171_n : Fmt8 171 none := fun W c b o n cap => by kernel_rfl
theorem f8_171 : FmAll Fmt8 171 := all_none (by kernel_rfl) (by kernel_rfl) f8_171_n
theorem f8_172_n : Fmt8 172 none := fun W c b o n cap => by kernel_rfl
theorem f8_172 : FmAll Fmt8 172 := all_none (by kernel_rfl) (by kernel_rfl) f8_172_n
theorem f8_173_n : Fmt8 173 none := fun W c b o n cap => by kernel_rfl
theorem f8_173 : FmAll Fmt8 173 := all_none (by kernel_rfl) (by kernel_rfl) f8_173_n
theorem f8_174_n : Fmt8 174 none := fun W c b o n cap => by kernel_rfl
theorem f8_174 : FmAll Fmt8 174 := all_none (by kernel_rfl) (by kernel_rfl) f8_174_n
theorem f8_175_n : Fmt8 175 none := fun W c b o n cap => by kernel_rfl
theorem f8_175 : FmAll Fmt8 175 := all_none (by kernel_rfl) (by kernel_rfl) f8_175_n
theorem f8_176_n : Fmt8 176 none := fun W c b o n cap => by kernel_rfl
theorem f8_176 : FmAll Fmt8 176 := all_none (by kernel_rfl) (by kernel_rfl) f8_176_n
theorem f8_177_n : Fmt8 177 none := fun W c b o n cap => by kernel_rfl
theorem f8_177 : FmAll Fmt8 177 := all_none (by kernel_rfl) (by kernel_rfl) f8_177_n
theorem f8_178_n : Fmt8 178 none := fun W c b o n cap => by kernel_rfl
theorem f8_178 : FmAll Fmt8 178 := all_none (by kernel_rfl) (by kernel_rfl) f8_178_n
theorem f8_179_n : Fmt8 179 none := fun W c b o n cap => by kernel_rfl
theorem f8_179 : FmAll Fmt8 179 := all_none (by kernel_rfl) (by kernel_rfl) f8_179_n
theorem f8_180_n : Fmt8 180 none := fun W c b o n cap => by kernel_rfl
theorem f8_180 : FmAll Fmt8 180 := all_none (by kernel_rfl) (by kernel_rfl) f8_180_n
theorem f8_181_n : Fmt8 181 none := fun W c b o n cap => by kernel_rfl
theorem f8_181 : FmAll Fmt8 181 := all_none (by kernel_rfl) (by kernel_rfl) f8_181_n
theorem f8_182_n : Fmt8 182 none := fun W c b o n cap => by kernel_rfl
theorem f8_182 : FmAll Fmt8 182 := all_none (by kernel_rfl) (by kernel_rfl) f8_182_n
theorem f8_183_n : Fmt8 183 none := fun W c b o n cap => by kernel_rfl
theorem f8_183 : FmAll Fmt8 183 := all_none (by kernel_rfl) (by kernel_rfl) f8_183_n
theorem f8_184_n : Fmt8 184 none := fun W c b o n cap => by kernel_rfl
theorem f8_184 : FmAll Fmt8 184 := all_none (by kernel_rfl) (by kernel_rfl) f8_184_n
theorem f8_185_n : Fmt8 185 none := fun W c b o n cap => by kernel_rfl
theorem f8_185 : FmAll Fmt8 185 := all_none (by kernel_rfl) (by kernel_rfl) f8_185_n
theorem f8_186_n : Fmt8 186 none := fun W c b o n cap => by kernel_rfl
theorem f8_186 : FmAll Fmt8 186 := all_none (by kernel_rfl) (by kernel_rfl) f8_186_n
theorem f8_187_n : Fmt8 187 none := fun W c b o n cap => by kernel_rfl
theorem f8_187 : FmAll Fmt8 187 := all_none (by kernel_rfl) (by kernel_rfl) f8_187_n
theorem f8_188_n : Fmt8 188 none := fun W c b o n cap => by kernel_rfl
theorem f8_188 : FmAll Fmt8 188 := all_none (by kernel_rfl) (by kernel_rfl) f8_188_n
theorem f8_189_n : Fmt8 189 none := fun W c b o n cap => by kernel_rfl
theorem f8_189 : FmAll Fmt8 189 := all_none (by kernel_rfl) (by kernel_rfl) f8_189_n
theorem f8_190_n : Fmt8 190 none := fun W c b o n cap => by kernel_rfl
theorem f8_190 : FmAll Fmt8 190 := all_none (by kernel_rfl) (by kernel_rfl) f8_190_n
theorem f8_191_n : Fmt8 191 none := fun W c b o n cap => by kernel_rfl
theorem f8_191 : FmAll Fmt8 191 := all_none (by kernel_rfl) (by kernel_rfl) f8_191_n
theorem f8_128_192 (v : Nat) (h : 128 ≤ v) (h' : v < 192) : FmAll Fmt8 v := by
  rcases Nat.lt_or_ge v 160 with h2 | h2
  · skip
    rcases Nat.lt_or_ge v 144 with h4 | h4
    · skip
      rcases Nat.lt_or_ge v 136 with h6 | h6
      · skip
        rcases Nat.lt_or_ge v 132 with h8 | h8
        · skip
          rcases Nat.lt_or_ge v 130 with h10 | h10
          · skip
            rcases Nat.lt_or_ge v 129 with h12 | h12
            · skip
              obtain rfl : v = 128 := by omega
              exact f8_128
            · skip
              obtain rfl : v = 129 := by omega
              exact f8_129
          · skip
            rcases Nat.lt_or_ge v 131 with h12 | h12
            · skip
              obtain rfl : v = 130 := by omega
              exact f8_130
            · skip
              obtain rfl : v = 131 := by omega
              exact f8_131
        · skip
          rcases Nat.lt_or_ge v 134 with h10 | h10
          · skip
            rcases Nat.lt_or_ge v 133 with h12 | h12
            · skip
              obtain rfl : v = 132 := by omega
              exact f8_132
            · skip
              obtain rfl : v = 133 := by omega
              exact f8_133
          · skip
            rcases Nat.lt_or_ge v 135 with h12 | h12
            · skip
              obtain rfl : v = 134 := by omega
              exact f8_134
            · skip
              obtain rfl : v = 135 := by omega
              exact f8_135
      · skip
        rcases Nat.lt_or_ge v 140 with h8 | h8
        · skip
          rcases Nat.lt_or_ge v 138 with h10 | h10
          · skip
            rcases Nat.lt_or_ge v 137 with h12 | h12
            · skip
              obtain rfl : v = 136 := by omega
              exact f8_136
            · skip
              obtain rfl : v = 137 := by omega
              exact f8_137
          · skip
            rcases Nat.lt_or_ge v 139 with h12 | h12
            · skip
              obtain rfl : v = 138 := by omega
              exact f8_138
            · skip
              obtain rfl : v = 139 := by omega
              exact f8_139
        · skip
          rcases Nat.lt_or_ge v 142 with h10 | h10
          · skip
            rcases Nat.lt_or_ge v 141 with h12 | h12
            · skip
              obtain rfl : v = 140 := by omega
              exact f8_140
            · skip
              obtain rfl : v = 141 := by omega
              exact f8_141
          · skip
            rcases Nat.lt_or_ge v 143 with h12 | h12
            · skip
              obtain rfl : v = 142 := by omega
              exact f8_142
            · skip
              obtain rfl : v = 143 := by omega
              exact f8_143
    · skip
      rcases Nat.lt_or_ge v 152 with h6 | h6
      · skip
        rcases Nat.lt_or_ge v 148 with h8 | h8
        · skip
          rcases Nat.lt_or_ge v 146 with h10 | h10
          · skip
            rcases Nat.lt_or_ge v 145 with h12 | h12
            · skip
              obtain rfl : v = 144 := by omega
              exact f8_144
            · skip
              obtain rfl : v = 145 := by omega
              exact f8_145
          · skip
            rcases Nat.lt_or_ge v 147 with h12 | h12
            · skip
              obtain rfl : v = 146 := by omega
              exact f8_146
            · skip
              obtain rfl : v = 147 := by omega
              exact f8_147
        · skip
          rcases Nat.lt_or_ge v 150 with h10 | h10
          · skip
            rcases Nat.lt_or_ge v 149 with h12 | h12
            · skip
              obtain rfl : v = 148 := by omega
              exact f8_148
            · skip
              obtain rfl : v = 149 := by omega
              exact f8_149
          · skip
            rcases Nat.lt_or_ge v 151 with h12 | h12
            · skip
              obtain rfl : v = 150 := by omega
              exact f8_150
            · skip
              obtain rfl : v = 151 := by omega
              exact f8_151
      · skip
        rcases Nat.lt_or_ge v 156 with h8 | h8
        · skip
          rcases Nat.lt_or_ge v 154 with h10 | h10
          · skip
            rcases Nat.lt_or_ge v 153 with h12 | h12
            · skip
              obtain rfl : v = 152 := by omega
              exact f8_152
            · skip
              obtain rfl : v = 153 := by omega
              exact f8_153
          · skip
            rcases Nat.lt_or_ge v 155 with h12 | h12
            · skip
              obtain rfl : v = 154 := by omega
              exact f8_154
            · skip
              obtain rfl : v = 155 := by omega
              exact f8_155
        · skip
          rcases Nat.lt_or_ge v 158 with h10 | h10
          · skip
            rcases Nat.lt_or_ge v 157 with h12 | h12
            · skip
              obtain rfl : v = 156 := by omega
              exact f8_156
            · skip
              obtain rfl : v = 157 := by omega
              exact f8_157
          · skip
            rcases Nat.lt_or_ge v 159 with h12 | h12
            · skip
              obtain rfl : v = 158 := by omega
              exact f8_158
            · skip
              obtain rfl : v = 159 := by omega
              exact f8_159
  · skip
    rcases Nat.lt_or_ge v 176 with h4 | h4
    · skip
      rcases Nat.lt_or_ge v 168 with h6 | h6
      · skip
        rcases Nat.lt_or_ge v 164 with h8 | h8
        · skip
          rcases Nat.lt_or_ge v 162 with h10 | h10
          · skip
            rcases Nat.lt_or_ge v 161 with h12 | h12
            · skip
              obtain rfl : v = 160 := by omega
              exact f8_160
            · skip
              obtain rfl : v = 161 := by omega
              exact f8_161
          · skip
            rcases Nat.lt_or_ge v 163 with h12 | h12
            · skip
              obtain rfl : v = 162 := by omega
              exact f8_162
            · skip
              obtain rfl : v = 163 := by omega
              exact f8_163
        · skip
          rcases Nat.lt_or_ge v 166 with h10 | h10
          · skip
            rcases Nat.lt_or_ge v 165 with h12 | h12
            · skip
              obtain rfl : v = 164 := by omega
              exact f8_164
            · skip
              obtain rfl : v = 165 := by omega
              exact f8_165
          · skip
            rcases Nat.lt_or_ge v 167 with h12 | h12
            · skip
              obtain rfl : v = 166 := by omega
              exact f8_166
            · skip
              obtain rfl : v = 167 := by omega
              exact f8_167
      · skip
        rcases Nat.lt_or_ge v 172 with h8 | h8
        · skip
          rcases Nat.lt_or_ge v 170 with h10 | h10
          · skip
            rcases Nat.lt_or_ge v 169 with h12 | h12
            · skip
              obtain rfl : v = 168 := by omega
              exact f8_168
            · skip
              obtain rfl : v = 169 := by omega
              exact f8_169
          · skip
            rcases Nat.lt_or_ge v 171 with h12 | h12
            · skip
              obtain rfl : v = 170 := by omega
              exact f8_170
            · skip
              obtain rfl : v = 171 := by omega
              exact f8_171
        · skip
          rcases Nat.lt_or_ge v 174 with h10 | h10
          · skip
            rcases Nat.lt_or_ge v 173 with h12 | h12
            · skip
              obtain rfl : v = 172 := by omega
              exact f8_172
            · skip
              obtain rfl : v = 173 := by omega
              exact f8_173
          · skip
            rcases Nat.lt_or_ge v 175 with h12 | h12
            · skip
              obtain rfl : v = 174 := by omega
              exact f8_174
            · skip
              obtain rfl : v = 175 := by omega
              exact f8_175
    · skip
      rcases Nat.lt_or_ge v 184 with h6 | h6
      · skip
        rcases Nat.lt_or_ge v 180 with h8 | h8
        · skip
          rcases Nat.lt_or_ge v 178 with h10 | h10
          · skip
            rcases Nat.lt_or_ge v 177 with h12 | h12
            · skip
              obtain rfl : v = 176 := by omega
              exact f8_176
            · skip
              obtain rfl : v = 177 := by omega
              exact f8_177
          · skip
            rcases Nat.lt_or_ge v 179 with h12 | h12
            · skip
              obtain rfl : v = 178 := by omega
              exact f8_178
            · skip
              obtain rfl : v = 179 := by omega
              exact f8_179
        · skip
          rcases Nat.lt_or_ge v 182 with h10 | h10
          · skip
            rcases Nat.lt_or_ge v 181 with h12 | h12
            · skip
              obtain rfl : v = 180 := by omega
              exact f8_180
            · skip
              obtain rfl : v = 181 := by omega
              exact f8_181
          · skip
            rcases Nat.lt_or_ge v 183 with h12 | h12
            · skip
              obtain rfl : v = 182 := by omega
              exact f8_182
            · skip
              obtain rfl : v = 183 := by omega
              exact f8_183
      · skip
        rcases Nat.lt_or_ge v 188 with h8 | h8
        · skip
          rcases Nat.lt_or_ge v 186 with h10 | h10
          · skip
            rcases Nat.lt_or_ge v 185 with h12 | h12
            · skip
              obtain rfl : v = 184 := by omega
              exact f8_184
            · skip
              obtain rfl : v = 185 := by omega
              exact f8_185
          · skip
            rcases Nat.lt_or_ge v 187 with h12 | h12
            · skip
              obtain rfl : v = 186 := by omega
              exact f8_186
            · skip
              obtain rfl : v = 187 := by omega
              exact f8_187
        · skip
          rcases Nat.lt_or_ge v 190 with h10 | h10
          · skip
            rcases Nat.lt_or_ge v 189 with h12 | h12
            · skip
              obtain rfl : v = 188 := by omega
              exact f8_188
            · skip
              obtain rfl : v = 189 := by omega
              exact f8_189
          · skip
            rcases Nat.lt_or_ge v 191 with h12 | h12
            · skip
              obtain rfl : v = 190 := by omega
              exact f8_190
            · skip
              obtain rfl : v = 191 := by omega
              exact f8_191
end Go.Proofs.YtdglgiaegjkinaaDoor
