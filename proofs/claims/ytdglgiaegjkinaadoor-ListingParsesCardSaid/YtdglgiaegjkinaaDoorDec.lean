/- The two Decode's: what they hand back, for every opcode and chip. -/
import Derived.Test.YtdglgiaegjkinaaDoorProg
import Derived.Test.YtdglgiaegjkinaaDoorGapE
import Derived.Test.YtdglgiaegjkinaaDoorTabs
namespace Go.Proofs.YtdglgiaegjkinaaDoor
open Go Go.Sx Go.RowKit
set_option maxRecDepth 100000
def mkC (b : Bool) (x y : Int) : SV := match decide (x = y) with
  | true => .int .i64 (.lit x)
  | false => .int .i64 (.sym (bif b then x else y))
def cells (b : Bool) : List Int → List Int → List SV
  | x :: r, y :: q => mkC b x y :: cells b r q
  | _, _ => []
/-- The instruction of an opcode. -/
def ins (k : Bool) (v : Nat) : List Int := (bif k then dec85 else dec80).getD v []
def DecOk (g : Nat) (v : Nat) : Prop := ∀ (W : World) (c : Int), eval Tryd.prog W [] g [.one (.int .i64 (.sym c)), .one (.int .u8 (.lit v))] = some (.agg (cells (c == 2) (ins true v) (ins false v)))
theorem d15_0 : DecOk 15 0 := fun W c => by kernel_rfl
theorem d15_1 : DecOk 15 1 := fun W c => by kernel_rfl
theorem d15_2 : DecOk 15 2 := fun W c => by kernel_rfl
theorem d15_3 : DecOk 15 3 := fun W c => by kernel_rfl
theorem d15_4 : DecOk 15 4 := fun W c => by kernel_rfl
theorem d15_5 : DecOk 15 5 := fun W c => by kernel_rfl
theorem d15_6 : DecOk 15 6 := fun W c => by kernel_rfl
theorem d15_7 : DecOk 15 7 := fun W c => by kernel_rfl
theorem d15_8 : DecOk 15 8 := fun W c => by kernel_rfl
theorem d15_9 : DecOk 15 9 := fun W c => by kernel_rfl
theorem d15_10 : DecOk 15 10 := fun W c => by kernel_rfl
theorem d15_11 : DecOk 15 11 := fun W c => by kernel_rfl
theorem d15_12 : DecOk 15 12 := fun W c => by kernel_rfl
theorem d15_13 : DecOk 15 13 := fun W c => by kernel_rfl
theorem d15_14 : DecOk 15 14 := fun W c => by kernel_rfl
theorem d15_15 : DecOk 15 15 := fun W c => by kernel_rfl
theorem d15_16 : DecOk 15 16 := fun W c => by kernel_rfl
theorem d15_17 : DecOk 15 17 := fun W c => by kernel_rfl
theorem d15_18 : DecOk 15 18 := fun W c => by kernel_rfl
theorem d15_19 : DecOk 15 19 := fun W c => by kernel_rfl
theorem d15_20 : DecOk 15 20 := fun W c => by kernel_rfl
theorem d15_21 : DecOk 15 21 := fun W c => by kernel_rfl
theorem d15_22 : DecOk 15 22 := fun W c => by kernel_rfl
theorem d15_23 : DecOk 15 23 := fun W c => by kernel_rfl
theorem d15_24 : DecOk 15 24 := fun W c => by kernel_rfl
theorem d15_25 : DecOk 15 25 := fun W c => by kernel_rfl
theorem d15_26 : DecOk 15 26 := fun W c => by kernel_rfl
theorem d15_27 : DecOk 15 27 := fun W c => by kernel_rfl
theorem d15_28 : DecOk 15 28 := fun W c => by kernel_rfl
theorem d15_29 : DecOk 15 29 := fun W c => by kernel_rfl
theorem d15_30 : DecOk 15 30 := fun W c => by kernel_rfl
theorem d15_31 : DecOk 15 31 := fun W c => by kernel_rfl
theorem d15_32 : DecOk 15 32 := fun W c => by kernel_rfl
theorem d15_33 : DecOk 15 33 := fun W c => by kernel_rfl
theorem d15_34 : DecOk 15 34 := fun W c => by kernel_rfl
theorem d15_35 : DecOk 15 35 := fun W c => by kernel_rfl
theorem d15_36 : DecOk 15 36 := fun W c => by kernel_rfl
theorem d15_37 : DecOk 15 37 := fun W c => by kernel_rfl
theorem d15_38 : DecOk 15 38 := fun W c => by kernel_rfl
theorem d15_39 : DecOk 15 39 := fun W c => by kernel_rfl
theorem d15_40 : DecOk 15 40 := fun W c => by kernel_rfl
theorem d15_41 : DecOk 15 41 := fun W c => by kernel_rfl
theorem d15_42 : DecOk 15 42 := fun W c => by kernel_rfl
theorem d15_43 : DecOk 15 43 := fun W c => by kernel_rfl
theorem d15_44 : DecOk 15 44 := fun W c => by kernel_rfl
theorem d15_45 : DecOk 15 45 := fun W c => by kernel_rfl
theorem d15_46 : DecOk 15 46 := fun W c => by kernel_rfl
theorem d15_47 : DecOk 15 47 := fun W c => by kernel_rfl
theorem d15_48 : DecOk 15 48 := fun W c => by kernel_rfl
theorem d15_49 : DecOk 15 49 := fun W c => by kernel_rfl
theorem d15_50 : DecOk 15 50 := fun W c => by kernel_rfl
theorem d15_51 : DecOk 15 51 := fun W c => by kernel_rfl
theorem d15_52 : DecOk 15 52 := fun W c => by kernel_rfl
theorem d15_53 : DecOk 15 53 := fun W c => by kernel_rfl
theorem d15_54 : DecOk 15 54 := fun W c => by kernel_rfl
theorem d15_55 : DecOk 15 55 := fun W c => by kernel_rfl
theorem d15_56 : DecOk 15 56 := fun W c => by kernel_rfl
theorem d15_57 : DecOk 15 57 := fun W c => by kernel_rfl
theorem d15_58 : DecOk 15 58 := fun W c => by kernel_rfl
theorem d15_59 : DecOk 15 59 := fun W c => by kernel_rfl
theorem d15_60 : DecOk 15 60 := fun W c => by kernel_rfl
theorem d15_61 : DecOk 15 61 := fun W c => by kernel_rfl
theorem d15_62 : DecOk 15 62 := fun W c => by kernel_rfl
theorem d15_63 : DecOk 15 63 := fun W c => by kernel_rfl
theorem d15_64 : DecOk 15 64 := fun W c => by kernel_rfl
theorem d15_65 : DecOk 15 65 := fun W c => by kernel_rfl
theorem d15_66 : DecOk 15 66 := fun W c => by kernel_rfl
theorem d15_67 : DecOk 15 67 := fun W c => by kernel_rfl
theorem d15_68 : DecOk 15 68 := fun W c => by kernel_rfl
theorem d15_69 : DecOk 15 69 := fun W c => by kernel_rfl
theorem d15_70 : DecOk 15 70 := fun W c => by kernel_rfl
theorem d15_71 : DecOk 15 71 := fun W c => by kernel_rfl
theorem d15_72 : DecOk 15 72 := fun W c => by kernel_rfl
theorem d15_73 : DecOk 15 73 := fun W c => by kernel_rfl
theorem d15_74 : DecOk 15 74 := fun W c => by kernel_rfl
theorem d15_75 : DecOk 15 75 := fun W c => by kernel_rfl
theorem d15_76 : DecOk 15 76 := fun W c => by kernel_rfl
theorem d15_77 : DecOk 15 77 := fun W c => by kernel_rfl
theorem d15_78 : DecOk 15 78 := fun W c => by kernel_rfl
theorem d15_79 : DecOk 15 79 := fun W c => by kernel_rfl
theorem d15_80 : DecOk 15 80 := fun W c => by kernel_rfl
theorem d15_81 : DecOk 15 81 := fun W c => by kernel_rfl
theorem d15_82 : DecOk 15 82 := fun W c => by kernel_rfl
theorem d15_83 : DecOk 15 83 := fun W c => by kernel_rfl
theorem d15_84 : DecOk 15 84 := fun W c => by kernel_rfl
theorem d15_85 : DecOk 15 85 := fun W c => by kernel_rfl
theorem d15_86 : DecOk 15 86 := fun W c => by kernel_rfl
theorem d15_87 : DecOk 15 87 := fun W c => by kernel_rfl
theorem d15_88 : DecOk 15 88 := fun W c => by kernel_rfl
theorem d15_89 : DecOk 15 89 := fun W c => by kernel_rfl
theorem d15_90 : DecOk 15 90 := fun W c => by kernel_rfl
theorem d15_91 : DecOk 15 91 := fun W c => by kernel_rfl
theorem d15_92 : DecOk 15 92 := fun W c => by kernel_rfl
theorem d15_93 : DecOk 15 93 := fun W c => by kernel_rfl
theorem d15_94 : DecOk 15 94 := fun W c => by kernel_rfl
theorem d15_95 : DecOk 15 95 := fun W c => by kernel_rfl
theorem d15_96 : DecOk 15 96 := fun W c => by kernel_rfl
theorem d15_97 : DecOk 15 97 := fun W c => by kernel_rfl
theorem d15_98 : DecOk 15 98 := fun W c => by kernel_rfl
theorem d15_99 : DecOk 15 99 := fun W c => by kernel_rfl
theorem d15_100 : DecOk 15 100 := fun W c => by kernel_rfl
theorem d15_101 : DecOk 15 101 := fun W c => by kernel_rfl
theorem d15_102 : DecOk 15 102 := fun W c => by kernel_rfl
theorem d15_103 : DecOk 15 103 := fun W c => by kernel_rfl
theorem d15_104 : DecOk 15 104 := fun W c => by kernel_rfl
theorem d15_105 : DecOk 15 105 := fun W c => by kernel_rfl
theorem d15_106 : DecOk 15 106 := fun W c => by kernel_rfl
theorem d15_107 : DecOk 15 107 := fun W c => by kernel_rfl
theorem d15_108 : DecOk 15 108 := fun W c => by kernel_rfl
theorem d15_109 : DecOk 15 109 := fun W c => by kernel_rfl
theorem d15_110 : DecOk 15 110 := fun W c => by kernel_rfl
theorem d15_111 : DecOk 15 111 := fun W c => by kernel_rfl
theorem d15_112 : DecOk 15 112 := fun W c => by kernel_rfl
theorem d15_113 : DecOk 15 113 := fun W c => by kernel_rfl
theorem d15_114 : DecOk 15 114 := fun W c => by kernel_rfl
theorem d15_115 : DecOk 15 115 := fun W c => by kernel_rfl
theorem d15_116 : DecOk 15 116 := fun W c => by kernel_rfl
theorem d15_117 : DecOk 15 117 := fun W c => by kernel_rfl
theorem d15_118 : DecOk 15 118 := fun W c => by kernel_rfl
theorem d15_119 : DecOk 15 119 := fun W c => by kernel_rfl
theorem d15_120 : DecOk 15 120 := fun W c => by kernel_rfl
theorem d15_121 : DecOk 15 121 := fun W c => by kernel_rfl
theorem d15_122 : DecOk 15 122 := fun W c => by kernel_rfl
theorem d15_123 : DecOk 15 123 := fun W c => by kernel_rfl
theorem d15_124 : DecOk 15 124 := fun W c => by kernel_rfl
theorem d15_125 : DecOk 15 125 := fun W c => by kernel_rfl
theorem d15_126 : DecOk 15 126 := fun W c => by kernel_rfl
theorem d15_127 : DecOk 15 127 := fun W c => by kernel_rfl
theorem d15_128 : DecOk 15 128 := fun W c => by kernel_rfl
theorem d15_129 : DecOk 15 129 := fun W c => by kernel_rfl
theorem d15_130 : DecOk 15 130 := fun W c => by kernel_rfl
theorem d15_131 : DecOk 15 131 := fun W c => by kernel_rfl
theorem d15_132 : DecOk 15 132 := fun W c => by kernel_rfl
theorem d15_133 : DecOk 15 133 := fun W c => by kernel_rfl
theorem d15_134 : DecOk 15 134 := fun W c => by kernel_rfl
theorem d15_135 : DecOk 15 135 := fun W c => by kernel_rfl
theorem d15_136 : DecOk 15 136 := fun W c => by kernel_rfl
theorem d15_137 : DecOk 15 137 := fun W c => by kernel_rfl
theorem d15_138 : DecOk 15 138 := fun W c => by kernel_rfl
theorem d15_139 : DecOk 15 139 := fun W c => by kernel_rfl
theorem d15_140 : DecOk 15 140 := fun W c => by kernel_rfl
theorem d15_141 : DecOk 15 141 := fun W c => by kernel_rfl
theorem d15_142 : DecOk 15 142 := fun W c => by kernel_rfl
theorem d15_143 : DecOk 15 143 := fun W c => by kernel_rfl
theorem d15_144 : DecOk 15 144 := fun W c => by kernel_rfl
theorem d15_145 : DecOk 15 145 := fun W c => by kernel_rfl
theorem d15_146 : DecOk 15 146 := fun W c => by kernel_rfl
theorem d15_147 : DecOk 15 147 := fun W c => by kernel_rfl
theorem d15_148 : DecOk 15 148 := fun W c => by kernel_rfl
theorem d15_149 : DecOk 15 149 := fun W c => by kernel_rfl
theorem d15_150 : DecOk 15 150 := fun W c => by kernel_rfl
theorem d15_151 : DecOk 15 151 := fun W c => by kernel_rfl
theorem d15_152 : DecOk 15 152 := fun W c => by kernel_rfl
theorem d15_153 : DecOk 15 153 := fun W c => by kernel_rfl
theorem d15_154 : DecOk 15 154 := fun W c => by kernel_rfl
theorem d15_155 : DecOk 15 155 := fun W c => by kernel_rfl
theorem d15_156 : DecOk 15 156 := fun W c => by kernel_rfl
theorem d15_157 : DecOk 15 157 := fun W c => by kernel_rfl
theorem d15_158 : DecOk 15 158 := fun W c => by kernel_rfl
theorem d15_159 : DecOk 15 159 := fun W c => by kernel_rfl
theorem d15_160 : DecOk 15 160 := fun W c => by kernel_rfl
theorem d15_161 : DecOk 15 161 := fun W c => by kernel_rfl
theorem d15_162 : DecOk 15 162 := fun W c => by kernel_rfl
theorem d15_163 : DecOk 15 163 := fun W c => by kernel_rfl
theorem d15_164 : DecOk 15 164 := fun W c => by kernel_rfl
theorem d15_165 : DecOk 15 165 := fun W c => by kernel_rfl
theorem d15_166 : DecOk 15 166 := fun W c => by kernel_rfl
theorem d15_167 : DecOk 15 167 := fun W c => by kernel_rfl
theorem d15_168 : DecOk 15 168 := fun W c => by kernel_rfl
theorem d15_169 : DecOk 15 169 := fun W c => by kernel_rfl
theorem d15_170 : DecOk 15 170 := fun W c => by kernel_rfl
theorem d15_171 : DecOk 15 171 := fun W c => by kernel_rfl
theorem d15_172 : DecOk 15 172 := fun W c => by kernel_rfl
theorem d15_173 : DecOk 15 173 := fun W c => by kernel_rfl
theorem d15_174 : DecOk 15 174 := fun W c => by kernel_rfl
theorem d15_175 : DecOk 15 175 := fun W c => by kernel_rfl
theorem d15_176 : DecOk 15 176 := fun W c => by kernel_rfl
theorem d15_177 : DecOk 15 177 := fun W c => by kernel_rfl
theorem d15_178 : DecOk 15 178 := fun W c => by kernel_rfl
theorem d15_179 : DecOk 15 179 := fun W c => by kernel_rfl
theorem d15_180 : DecOk 15 180 := fun W c => by kernel_rfl
theorem d15_181 : DecOk 15 181 := fun W c => by kernel_rfl
theorem d15_182 : DecOk 15 182 := fun W c => by kernel_rfl
theorem d15_183 : DecOk 15 183 := fun W c => by kernel_rfl
theorem d15_184 : DecOk 15 184 := fun W c => by kernel_rfl
theorem d15_185 : DecOk 15 185 := fun W c => by kernel_rfl
theorem d15_186 : DecOk 15 186 := fun W c => by kernel_rfl
theorem d15_187 : DecOk 15 187 := fun W c => by kernel_rfl
theorem d15_188 : DecOk 15 188 := fun W c => by kernel_rfl
theorem d15_189 : DecOk 15 189 := fun W c => by kernel_rfl
theorem d15_190 : DecOk 15 190 := fun W c => by kernel_rfl
theorem d15_191 : DecOk 15 191 := fun W c => by kernel_rfl
theorem d15_192 : DecOk 15 192 := fun W c => by kernel_rfl
theorem d15_193 : DecOk 15 193 := fun W c => by kernel_rfl
theorem d15_194 : DecOk 15 194 := fun W c => by kernel_rfl
theorem d15_195 : DecOk 15 195 := fun W c => by kernel_rfl
theorem d15_196 : DecOk 15 196 := fun W c => by kernel_rfl
theorem d15_197 : DecOk 15 197 := fun W c => by kernel_rfl
theorem d15_198 : DecOk 15 198 := fun W c => by kernel_rfl
theorem d15_199 : DecOk 15 199 := fun W c => by kernel_rfl
theorem d15_200 : DecOk 15 200 := fun W c => by kernel_rfl
theorem d15_201 : DecOk 15 201 := fun W c => by kernel_rfl
theorem d15_202 : DecOk 15 202 := fun W c => by kernel_rfl
theorem d15_203 : DecOk 15 203 := fun W c => by kernel_rfl
theorem d15_204 : DecOk 15 204 := fun W c => by kernel_rfl
theorem d15_205 : DecOk 15 205 := fun W c => by kernel_rfl
theorem d15_206 : DecOk 15 206 := fun W c => by kernel_rfl
theorem d15_207 : DecOk 15 207 := fun W c => by kernel_rfl
theorem d15_208 : DecOk 15 208 := fun W c => by kernel_rfl
theorem d15_209 : DecOk 15 209 := fun W c => by kernel_rfl
theorem d15_210 : DecOk 15 210 := fun W c => by kernel_rfl
theorem d15_211 : DecOk 15 211 := fun W c => by kernel_rfl
theorem d15_212 : DecOk 15 212 := fun W c => by kernel_rfl
theorem d15_213 : DecOk 15 213 := fun W c => by kernel_rfl
theorem d15_214 : DecOk 15 214 := fun W c => by kernel_rfl
theorem d15_215 : DecOk 15 215 := fun W c => by kernel_rfl
theorem d15_216 : DecOk 15 216 := fun W c => by kernel_rfl
theorem d15_217 : DecOk 15 217 := fun W c => by kernel_rfl
theorem d15_218 : DecOk 15 218 := fun W c => by kernel_rfl
theorem d15_219 : DecOk 15 219 := fun W c => by kernel_rfl
theorem d15_220 : DecOk 15 220 := fun W c => by kernel_rfl
theorem d15_221 : DecOk 15 221 := fun W c => by kernel_rfl
theorem d15_222 : DecOk 15 222 := fun W c => by kernel_rfl
theorem d15_223 : DecOk 15 223 := fun W c => by kernel_rfl
theorem d15_224 : DecOk 15 224 := fun W c => by kernel_rfl
theorem d15_225 : DecOk 15 225 := fun W c => by kernel_rfl
theorem d15_226 : DecOk 15 226 := fun W c => by kernel_rfl
theorem d15_227 : DecOk 15 227 := fun W c => by kernel_rfl
theorem d15_228 : DecOk 15 228 := fun W c => by kernel_rfl
theorem d15_229 : DecOk 15 229 := fun W c => by kernel_rfl
theorem d15_230 : DecOk 15 230 := fun W c => by kernel_rfl
theorem d15_231 : DecOk 15 231 := fun W c => by kernel_rfl
theorem d15_232 : DecOk 15 232 := fun W c => by kernel_rfl
theorem d15_233 : DecOk 15 233 := fun W c => by kernel_rfl
theorem d15_234 : DecOk 15 234 := fun W c => by kernel_rfl
theorem d15_235 : DecOk 15 235 := fun W c => by kernel_rfl
theorem d15_236 : DecOk 15 236 := fun W c => by kernel_rfl
theorem d15_237 : DecOk 15 237 := fun W c => by kernel_rfl
theorem d15_238 : DecOk 15 238 := fun W c => by kernel_rfl
theorem d15_239 : DecOk 15 239 := fun W c => by kernel_rfl
theorem d15_240 : DecOk 15 240 := fun W c => by kernel_rfl
theorem d15_241 : DecOk 15 241 := fun W c => by kernel_rfl
theorem d15_242 : DecOk 15 242 := fun W c => by kernel_rfl
theorem d15_243 : DecOk 15 243 := fun W c => by kernel_rfl
theorem d15_244 : DecOk 15 244 := fun W c => by kernel_rfl
theorem d15_245 : DecOk 15 245 := fun W c => by kernel_rfl
theorem d15_246 : DecOk 15 246 := fun W c => by kernel_rfl
theorem d15_247 : DecOk 15 247 := fun W c => by kernel_rfl
theorem d15_248 : DecOk 15 248 := fun W c => by kernel_rfl
theorem d15_249 : DecOk 15 249 := fun W c => by kernel_rfl
theorem d15_250 : DecOk 15 250 := fun W c => by kernel_rfl
theorem d15_251 : DecOk 15 251 := fun W c => by kernel_rfl
theorem d15_252 : DecOk 15 252 := fun W c => by kernel_rfl
theorem d15_253 : DecOk 15 253 := fun W c => by kernel_rfl
theorem d15_254 : DecOk 15 254 := fun W c => by kernel_rfl
theorem d15_255 : DecOk 15 255 := fun W c => by kernel_rfl
theorem d16_0 : DecOk 16 0 := fun W c => by kernel_rfl
theorem d16_1 : DecOk 16 1 := fun W c => by kernel_rfl
theorem d16_2 : DecOk 16 2 := fun W c => by kernel_rfl
theorem d16_3 : DecOk 16 3 := fun W c => by kernel_rfl
theorem d16_4 : DecOk 16 4 := fun W c => by kernel_rfl
theorem d16_5 : DecOk 16 5 := fun W c => by kernel_rfl
theorem d16_6 : DecOk 16 6 := fun W c => by kernel_rfl
theorem d16_7 : DecOk 16 7 := fun W c => by kernel_rfl
theorem d16_8 : DecOk 16 8 := fun W c => by kernel_rfl
theorem d16_9 : DecOk 16 9 := fun W c => by kernel_rfl
theorem d16_10 : DecOk 16 10 := fun W c => by kernel_rfl
theorem d16_11 : DecOk 16 11 := fun W c => by kernel_rfl
theorem d16_12 : DecOk 16 12 := fun W c => by kernel_rfl
theorem d16_13 : DecOk 16 13 := fun W c => by kernel_rfl
theorem d16_14 : DecOk 16 14 := fun W c => by kernel_rfl
theorem d16_15 : DecOk 16 15 := fun W c => by kernel_rfl
theorem d16_16 : DecOk 16 16 := fun W c => by kernel_rfl
theorem d16_17 : DecOk 16 17 := fun W c => by kernel_rfl
theorem d16_18 : DecOk 16 18 := fun W c => by kernel_rfl
theorem d16_19 : DecOk 16 19 := fun W c => by kernel_rfl
theorem d16_20 : DecOk 16 20 := fun W c => by kernel_rfl
theorem d16_21 : DecOk 16 21 := fun W c => by kernel_rfl
theorem d16_22 : DecOk 16 22 := fun W c => by kernel_rfl
theorem d16_23 : DecOk 16 23 := fun W c => by kernel_rfl
theorem d16_24 : DecOk 16 24 := fun W c => by kernel_rfl
theorem d16_25 : DecOk 16 25 := fun W c => by kernel_rfl
theorem d16_26 : DecOk 16 26 := fun W c => by kernel_rfl
theorem d16_27 : DecOk 16 27 := fun W c => by kernel_rfl
theorem d16_28 : DecOk 16 28 := fun W c => by kernel_rfl
theorem d16_29 : DecOk 16 29 := fun W c => by kernel_rfl
theorem d16_30 : DecOk 16 30 := fun W c => by kernel_rfl
theorem d16_31 : DecOk 16 31 := fun W c => by kernel_rfl
theorem d16_32 : DecOk 16 32 := fun W c => by kernel_rfl
theorem d16_33 : DecOk 16 33 := fun W c => by kernel_rfl
theorem d16_34 : DecOk 16 34 := fun W c => by kernel_rfl
theorem d16_35 : DecOk 16 35 := fun W c => by kernel_rfl
theorem d16_36 : DecOk 16 36 := fun W c => by kernel_rfl
theorem d16_37 : DecOk 16 37 := fun W c => by kernel_rfl
theorem d16_38 : DecOk 16 38 := fun W c => by kernel_rfl
theorem d16_39 : DecOk 16 39 := fun W c => by kernel_rfl
theorem d16_40 : DecOk 16 40 := fun W c => by kernel_rfl
theorem d16_41 : DecOk 16 41 := fun W c => by kernel_rfl
theorem d16_42 : DecOk 16 42 := fun W c => by kernel_rfl
theorem d16_43 : DecOk 16 43 := fun W c => by kernel_rfl
theorem d16_44 : DecOk 16 44 := fun W c => by kernel_rfl
theorem d16_45 : DecOk 16 45 := fun W c => by kernel_rfl
theorem d16_46 : DecOk 16 46 := fun W c => by kernel_rfl
theorem d16_47 : DecOk 16 47 := fun W c => by kernel_rfl
theorem d16_48 : DecOk 16 48 := fun W c => by kernel_rfl
theorem d16_49 : DecOk 16 49 := fun W c => by kernel_rfl
theorem d16_50 : DecOk 16 50 := fun W c => by kernel_rfl
theorem d16_51 : DecOk 16 51 := fun W c => by kernel_rfl
theorem d16_52 : DecOk 16 52 := fun W c => by kernel_rfl
theorem d16_53 : DecOk 16 53 := fun W c => by kernel_rfl
theorem d16_54 : DecOk 16 54 := fun W c => by kernel_rfl
theorem d16_55 : DecOk 16 55 := fun W c => by kernel_rfl
theorem d16_56 : DecOk 16 56 := fun W c => by kernel_rfl
theorem d16_57 : DecOk 16 57 := fun W c => by kernel_rfl
theorem d16_58 : DecOk 16 58 := fun W c => by kernel_rfl
theorem d16_59 : DecOk 16 59 := fun W c => by kernel_rfl
theorem d16_60 : DecOk 16 60 := fun W c => by kernel_rfl
theorem d16_61 : DecOk 16 61 := fun W c => by kernel_rfl
theorem d16_62 : DecOk 16 62 := fun W c => by kernel_rfl
theorem d16_63 : DecOk 16 63 := fun W c => by kernel_rfl
theorem d16_64 : DecOk 16 64 := fun W c => by kernel_rfl
theorem d16_65 : DecOk 16 65 := fun W c => by kernel_rfl
theorem d16_66 : DecOk 16 66 := fun W c => by kernel_rfl
theorem d16_67 : DecOk 16 67 := fun W c => by kernel_rfl
theorem d16_68 : DecOk 16 68 := fun W c => by kernel_rfl
theorem d16_69 : DecOk 16 69 := fun W c => by kernel_rfl
theorem d16_70 : DecOk 16 70 := fun W c => by kernel_rfl
theorem d16_71 : DecOk 16 71 := fun W c => by kernel_rfl
theorem d16_72 : DecOk 16 72 := fun W c => by kernel_rfl
theorem d16_73 : DecOk 16 73 := fun W c => by kernel_rfl
theorem d16_74 : DecOk 16 74 := fun W c => by kernel_rfl
theorem d16_75 : DecOk 16 75 := fun W c => by kernel_rfl
theorem d16_76 : DecOk 16 76 := fun W c => by kernel_rfl
theorem d16_77 : DecOk 16 77 := fun W c => by kernel_rfl
theorem d16_78 : DecOk 16 78 := fun W c => by kernel_rfl
theorem d16_79 : DecOk 16 79 := fun W c => by kernel_rfl
theorem d16_80 : DecOk 16 80 := fun W c => by kernel_rfl
theorem d16_81 : DecOk 16 81 := fun W c => by kernel_rfl
theorem d16_82 : DecOk 16 82 := fun W c => by kernel_rfl
theorem d16_83 : DecOk 16 83 := fun W c => by kernel_rfl
theorem d16_84 : DecOk 16 84 := fun W c => by kernel_rfl
theorem d16_85 : DecOk 16 85 := fun W c => by kernel_rfl
theorem d16_86 : DecOk 16 86 := fun W c => by kernel_rfl
theorem d16_87 : DecOk 16 87 := fun W c => by kernel_rfl
theorem d16_88 : DecOk 16 88 := fun W c => by kernel_rfl
theorem d16_89 : DecOk 16 89 := fun W c => by kernel_rfl
theorem d16_90 : DecOk 16 90 := fun W c => by kernel_rfl
theorem d16_91 : DecOk 16 91 := fun W c => by kernel_rfl
theorem d16_92 : DecOk 16 92 := fun W c => by kernel_rfl
theorem d16_93 : DecOk 16 93 := fun W c => by kernel_rfl
theorem d16_94 : DecOk 16 94 := fun W c => by kernel_rfl
theorem d16_95 : DecOk 16 95 := fun W c => by kernel_rfl
theorem d16_96 : DecOk 16 96 := fun W c => by kernel_rfl
theorem d16_97 : DecOk 16 97 := fun W c => by kernel_rfl
theorem d16_98 : DecOk 16 98 := fun W c => by kernel_rfl
theorem d16_99 : DecOk 16 99 := fun W c => by kernel_rfl
theorem d16_100 : DecOk 16 100 := fun W c => by kernel_rfl
theorem d16_101 : DecOk 16 101 := fun W c => by kernel_rfl
theorem d16_102 : DecOk 16 102 := fun W c => by kernel_rfl
theorem d16_103 : DecOk 16 103 := fun W c => by kernel_rfl
theorem d16_104 : DecOk 16 104 := fun W c => by kernel_rfl
theorem d16_105 : DecOk 16 105 := fun W c => by kernel_rfl
theorem d16_106 : DecOk 16 106 := fun W c => by kernel_rfl
theorem d16_107 : DecOk 16 107 := fun W c => by kernel_rfl
theorem d16_108 : DecOk 16 108 := fun W c => by kernel_rfl
theorem d16_109 : DecOk 16 109 := fun W c => by kernel_rfl
theorem d16_110 : DecOk 16 110 := fun W c => by kernel_rfl
theorem d16_111 : DecOk 16 111 := fun W c => by kernel_rfl
theorem d16_112 : DecOk 16 112 := fun W c => by kernel_rfl
theorem d16_113 : DecOk 16 113 := fun W c => by kernel_rfl
theorem d16_114 : DecOk 16 114 := fun W c => by kernel_rfl
theorem d16_115 : DecOk 16 115 := fun W c => by kernel_rfl
theorem d16_116 : DecOk 16 116 := fun W c => by kernel_rfl
theorem d16_117 : DecOk 16 117 := fun W c => by kernel_rfl
theorem d16_118 : DecOk 16 118 := fun W c => by kernel_rfl
theorem d16_119 : DecOk 16 119 := fun W c => by kernel_rfl
theorem d16_120 : DecOk 16 120 := fun W c => by kernel_rfl
theorem d16_121 : DecOk 16 121 := fun W c => by kernel_rfl
theorem d16_122 : DecOk 16 122 := fun W c => by kernel_rfl
theorem d16_123 : DecOk 16 123 := fun W c => by kernel_rfl
theorem d16_124 : DecOk 16 124 := fun W c => by kernel_rfl
theorem d16_125 : DecOk 16 125 := fun W c => by kernel_rfl
theorem d16_126 : DecOk 16 126 := fun W c => by kernel_rfl
theorem d16_127 : DecOk 16 127 := fun W c => by kernel_rfl
theorem d16_128 : DecOk 16 128 := fun W c => by kernel_rfl
theorem d16_129 : DecOk 16 129 := fun W c => by kernel_rfl
theorem d16_130 : DecOk 16 130 := fun W c => by kernel_rfl
theorem d16_131 : DecOk 16 131 := fun W c => by kernel_rfl
theorem d16_132 : DecOk 16 132 := fun W c => by kernel_rfl
theorem d16_133 : DecOk 16 133 := fun W c => by kernel_rfl
theorem d16_134 : DecOk 16 134 := fun W c => by kernel_rfl
theorem d16_135 : DecOk 16 135 := fun W c => by kernel_rfl
theorem d16_136 : DecOk 16 136 := fun W c => by kernel_rfl
theorem d16_137 : DecOk 16 137 := fun W c => by kernel_rfl
theorem d16_138 : DecOk 16 138 := fun W c => by kernel_rfl
theorem d16_139 : DecOk 16 139 := fun W c => by kernel_rfl
theorem d16_140 : DecOk 16 140 := fun W c => by kernel_rfl
theorem d16_141 : DecOk 16 141 := fun W c => by kernel_rfl
theorem d16_142 : DecOk 16 142 := fun W c => by kernel_rfl
theorem d16_143 : DecOk 16 143 := fun W c => by kernel_rfl
theorem d16_144 : DecOk 16 144 := fun W c => by kernel_rfl
theorem d16_145 : DecOk 16 145 := fun W c => by kernel_rfl
theorem d16_146 : DecOk 16 146 := fun W c => by kernel_rfl
theorem d16_147 : DecOk 16 147 := fun W c => by kernel_rfl
theorem d16_148 : DecOk 16 148 := fun W c => by kernel_rfl
theorem d16_149 : DecOk 16 149 := fun W c => by kernel_rfl
theorem d16_150 : DecOk 16 150 := fun W c => by kernel_rfl
theorem d16_151 : DecOk 16 151 := fun W c => by kernel_rfl
theorem d16_152 : DecOk 16 152 := fun W c => by kernel_rfl
theorem d16_153 : DecOk 16 153 := fun W c => by kernel_rfl
theorem d16_154 : DecOk 16 154 := fun W c => by kernel_rfl
theorem d16_155 : DecOk 16 155 := fun W c => by kernel_rfl
theorem d16_156 : DecOk 16 156 := fun W c => by kernel_rfl
theorem d16_157 : DecOk 16 157 := fun W c => by kernel_rfl
theorem d16_158 : DecOk 16 158 := fun W c => by kernel_rfl
theorem d16_159 : DecOk 16 159 := fun W c => by kernel_rfl
theorem d16_160 : DecOk 16 160 := fun W c => by kernel_rfl
theorem d16_161 : DecOk 16 161 := fun W c => by kernel_rfl
theorem d16_162 : DecOk 16 162 := fun W c => by kernel_rfl
theorem d16_163 : DecOk 16 163 := fun W c => by kernel_rfl
theorem d16_164 : DecOk 16 164 := fun W c => by kernel_rfl
theorem d16_165 : DecOk 16 165 := fun W c => by kernel_rfl
theorem d16_166 : DecOk 16 166 := fun W c => by kernel_rfl
theorem d16_167 : DecOk 16 167 := fun W c => by kernel_rfl
theorem d16_168 : DecOk 16 168 := fun W c => by kernel_rfl
theorem d16_169 : DecOk 16 169 := fun W c => by kernel_rfl
theorem d16_170 : DecOk 16 170 := fun W c => by kernel_rfl
theorem d16_171 : DecOk 16 171 := fun W c => by kernel_rfl
theorem d16_172 : DecOk 16 172 := fun W c => by kernel_rfl
theorem d16_173 : DecOk 16 173 := fun W c => by kernel_rfl
theorem d16_174 : DecOk 16 174 := fun W c => by kernel_rfl
theorem d16_175 : DecOk 16 175 := fun W c => by kernel_rfl
theorem d16_176 : DecOk 16 176 := fun W c => by kernel_rfl
theorem d16_177 : DecOk 16 177 := fun W c => by kernel_rfl
theorem d16_178 : DecOk 16 178 := fun W c => by kernel_rfl
theorem d16_179 : DecOk 16 179 := fun W c => by kernel_rfl
theorem d16_180 : DecOk 16 180 := fun W c => by kernel_rfl
theorem d16_181 : DecOk 16 181 := fun W c => by kernel_rfl
theorem d16_182 : DecOk 16 182 := fun W c => by kernel_rfl
theorem d16_183 : DecOk 16 183 := fun W c => by kernel_rfl
theorem d16_184 : DecOk 16 184 := fun W c => by kernel_rfl
theorem d16_185 : DecOk 16 185 := fun W c => by kernel_rfl
theorem d16_186 : DecOk 16 186 := fun W c => by kernel_rfl
theorem d16_187 : DecOk 16 187 := fun W c => by kernel_rfl
theorem d16_188 : DecOk 16 188 := fun W c => by kernel_rfl
theorem d16_189 : DecOk 16 189 := fun W c => by kernel_rfl
theorem d16_190 : DecOk 16 190 := fun W c => by kernel_rfl
theorem d16_191 : DecOk 16 191 := fun W c => by kernel_rfl
theorem d16_192 : DecOk 16 192 := fun W c => by kernel_rfl
theorem d16_193 : DecOk 16 193 := fun W c => by kernel_rfl
theorem d16_194 : DecOk 16 194 := fun W c => by kernel_rfl
theorem d16_195 : DecOk 16 195 := fun W c => by kernel_rfl
theorem d16_196 : DecOk 16 196 := fun W c => by kernel_rfl
theorem d16_197 : DecOk 16 197 := fun W c => by kernel_rfl
theorem d16_198 : DecOk 16 198 := fun W c => by kernel_rfl
theorem d16_199 : DecOk 16 199 := fun W c => by kernel_rfl
theorem d16_200 : DecOk 16 200 := fun W c => by kernel_rfl
theorem d16_201 : DecOk 16 201 := fun W c => by kernel_rfl
theorem d16_202 : DecOk 16 202 := fun W c => by kernel_rfl
theorem d16_203 : DecOk 16 203 := fun W c => by kernel_rfl
theorem d16_204 : DecOk 16 204 := fun W c => by kernel_rfl
theorem d16_205 : DecOk 16 205 := fun W c => by kernel_rfl
theorem d16_206 : DecOk 16 206 := fun W c => by kernel_rfl
theorem d16_207 : DecOk 16 207 := fun W c => by kernel_rfl
theorem d16_208 : DecOk 16 208 := fun W c => by kernel_rfl
theorem d16_209 : DecOk 16 209 := fun W c => by kernel_rfl
theorem d16_210 : DecOk 16 210 := fun W c => by kernel_rfl
theorem d16_211 : DecOk 16 211 := fun W c => by kernel_rfl
theorem d16_212 : DecOk 16 212 := fun W c => by kernel_rfl
theorem d16_213 : DecOk 16 213 := fun W c => by kernel_rfl
theorem d16_214 : DecOk 16 214 := fun W c => by kernel_rfl
theorem d16_215 : DecOk 16 215 := fun W c => by kernel_rfl
theorem d16_216 : DecOk 16 216 := fun W c => by kernel_rfl
theorem d16_217 : DecOk 16 217 := fun W c => by kernel_rfl
theorem d16_218 : DecOk 16 218 := fun W c => by kernel_rfl
theorem d16_219 : DecOk 16 219 := fun W c => by kernel_rfl
theorem d16_220 : DecOk 16 220 := fun W c => by kernel_rfl
theorem d16_221 : DecOk 16 221 := fun W c => by kernel_rfl
theorem d16_222 : DecOk 16 222 := fun W c => by kernel_rfl
theorem d16_223 : DecOk 16 223 := fun W c => by kernel_rfl
theorem d16_224 : DecOk 16 224 := fun W c => by kernel_rfl
theorem d16_225 : DecOk 16 225 := fun W c => by kernel_rfl
theorem d16_226 : DecOk 16 226 := fun W c => by kernel_rfl
theorem d16_227 : DecOk 16 227 := fun W c => by kernel_rfl
theorem d16_228 : DecOk 16 228 := fun W c => by kernel_rfl
theorem d16_229 : DecOk 16 229 := fun W c => by kernel_rfl
theorem d16_230 : DecOk 16 230 := fun W c => by kernel_rfl
theorem d16_231 : DecOk 16 231 := fun W c => by kernel_rfl
theorem d16_232 : DecOk 16 232 := fun W c => by kernel_rfl
theorem d16_233 : DecOk 16 233 := fun W c => by kernel_rfl
theorem d16_234 : DecOk 16 234 := fun W c => by kernel_rfl
theorem d16_235 : DecOk 16 235 := fun W c => by kernel_rfl
theorem d16_236 : DecOk 16 236 := fun W c => by kernel_rfl
theorem d16_237 : DecOk 16 237 := fun W c => by kernel_rfl
theorem d16_238 : DecOk 16 238 := fun W c => by kernel_rfl
theorem d16_239 : DecOk 16 239 := fun W c => by kernel_rfl
theorem d16_240 : DecOk 16 240 := fun W c => by kernel_rfl
theorem d16_241 : DecOk 16 241 := fun W c => by kernel_rfl
theorem d16_242 : DecOk 16 242 := fun W c => by kernel_rfl
theorem d16_243 : DecOk 16 243 := fun W c => by kernel_rfl
theorem d16_244 : DecOk 16 244 := fun W c => by kernel_rfl
theorem d16_245 : DecOk 16 245 := fun W c => by kernel_rfl
theorem d16_246 : DecOk 16 246 := fun W c => by kernel_rfl
theorem d16_247 : DecOk 16 247 := fun W c => by kernel_rfl
theorem d16_248 : DecOk 16 248 := fun W c => by kernel_rfl
theorem d16_249 : DecOk 16 249 := fun W c => by kernel_rfl
theorem d16_250 : DecOk 16 250 := fun W c => by kernel_rfl
theorem d16_251 : DecOk 16 251 := fun W c => by kernel_rfl
theorem d16_252 : DecOk 16 252 := fun W c => by kernel_rfl
theorem d16_253 : DecOk 16 253 := fun W c => by kernel_rfl
theorem d16_254 : DecOk 16 254 := fun W c => by kernel_rfl
theorem d16_255 : DecOk 16 255 := fun W c => by kernel_rfl
theorem dec15 {v : Nat} (h : v < 256) : DecOk 15 v := by
  rcases Nat.lt_or_ge v 128 with h2 | h2
  · rcases Nat.lt_or_ge v 64 with h4 | h4
    · rcases Nat.lt_or_ge v 32 with h6 | h6
      · rcases Nat.lt_or_ge v 16 with h8 | h8
        · rcases Nat.lt_or_ge v 8 with h10 | h10
          · rcases Nat.lt_or_ge v 4 with h12 | h12
            · rcases Nat.lt_or_ge v 2 with h14 | h14
              · rcases Nat.lt_or_ge v 1 with h16 | h16
                · obtain rfl : v = 0 := by omega
                  exact d15_0
                · obtain rfl : v = 1 := by omega
                  exact d15_1
              · rcases Nat.lt_or_ge v 3 with h16 | h16
                · obtain rfl : v = 2 := by omega
                  exact d15_2
                · obtain rfl : v = 3 := by omega
                  exact d15_3
            · rcases Nat.lt_or_ge v 6 with h14 | h14
              · rcases Nat.lt_or_ge v 5 with h16 | h16
                · obtain rfl : v = 4 := by omega
                  exact d15_4
                · obtain rfl : v = 5 := by omega
                  exact d15_5
              · rcases Nat.lt_or_ge v 7 with h16 | h16
                · obtain rfl : v = 6 := by omega
                  exact d15_6
                · obtain rfl : v = 7 := by omega
                  exact d15_7
          · rcases Nat.lt_or_ge v 12 with h12 | h12
            · rcases Nat.lt_or_ge v 10 with h14 | h14
              · rcases Nat.lt_or_ge v 9 with h16 | h16
                · obtain rfl : v = 8 := by omega
                  exact d15_8
                · obtain rfl : v = 9 := by omega
                  exact d15_9
              · rcases Nat.lt_or_ge v 11 with h16 | h16
                · obtain rfl : v = 10 := by omega
                  exact d15_10
                · obtain rfl : v = 11 := by omega
                  exact d15_11
            · rcases Nat.lt_or_ge v 14 with h14 | h14
              · rcases Nat.lt_or_ge v 13 with h16 | h16
                · obtain rfl : v = 12 := by omega
                  exact d15_12
                · obtain rfl : v = 13 := by omega
                  exact d15_13
              · rcases Nat.lt_or_ge v 15 with h16 | h16
                · obtain rfl : v = 14 := by omega
                  exact d15_14
                · obtain rfl : v = 15 := by omega
                  exact d15_15
        · rcases Nat.lt_or_ge v 24 with h10 | h10
          · rcases Nat.lt_or_ge v 20 with h12 | h12
            · rcases Nat.lt_or_ge v 18 with h14 | h14
              · rcases Nat.lt_or_ge v 17 with h16 | h16
                · obtain rfl : v = 16 := by omega
                  exact d15_16
                · obtain rfl : v = 17 := by omega
                  exact d15_17
              · rcases Nat.lt_or_ge v 19 with h16 | h16
                · obtain rfl : v = 18 := by omega
                  exact d15_18
                · obtain rfl : v = 19 := by omega
                  exact d15_19
            · rcases Nat.lt_or_ge v 22 with h14 | h14
              · rcases Nat.lt_or_ge v 21 with h16 | h16
                · obtain rfl : v = 20 := by omega
                  exact d15_20
                · obtain rfl : v = 21 := by omega
                  exact d15_21
              · rcases Nat.lt_or_ge v 23 with h16 | h16
                · obtain rfl : v = 22 := by omega
                  exact d15_22
                · obtain rfl : v = 23 := by omega
                  exact d15_23
          · rcases Nat.lt_or_ge v 28 with h12 | h12
            · rcases Nat.lt_or_ge v 26 with h14 | h14
              · rcases Nat.lt_or_ge v 25 with h16 | h16
                · obtain rfl : v = 24 := by omega
                  exact d15_24
                · obtain rfl : v = 25 := by omega
                  exact d15_25
              · rcases Nat.lt_or_ge v 27 with h16 | h16
                · obtain rfl : v = 26 := by omega
                  exact d15_26
                · obtain rfl : v = 27 := by omega
                  exact d15_27
            · rcases Nat.lt_or_ge v 30 with h14 | h14
              · rcases Nat.lt_or_ge v 29 with h16 | h16
                · obtain rfl : v = 28 := by omega
                  exact d15_28
                · obtain rfl : v = 29 := by omega
                  exact d15_29
              · rcases Nat.lt_or_ge v 31 with h16 | h16
                · obtain rfl : v = 30 := by omega
                  exact d15_30
                · obtain rfl : v = 31 := by omega
                  exact d15_31
      · rcases Nat.lt_or_ge v 48 with h8 | h8
        · rcases Nat.lt_or_ge v 40 with h10 | h10
          · rcases Nat.lt_or_ge v 36 with h12 | h12
            · rcases Nat.lt_or_ge v 34 with h14 | h14
              · rcases Nat.lt_or_ge v 33 with h16 | h16
                · obtain rfl : v = 32 := by omega
                  exact d15_32
                · obtain rfl : v = 33 := by omega
                  exact d15_33
              · rcases Nat.lt_or_ge v 35 with h16 | h16
                · obtain rfl : v = 34 := by omega
                  exact d15_34
                · obtain rfl : v = 35 := by omega
                  exact d15_35
            · rcases Nat.lt_or_ge v 38 with h14 | h14
              · rcases Nat.lt_or_ge v 37 with h16 | h16
                · obtain rfl : v = 36 := by omega
                  exact d15_36
                · obtain rfl : v = 37 := by omega
                  exact d15_37
              · rcases Nat.lt_or_ge v 39 with h16 | h16
                · obtain rfl : v = 38 := by omega
                  exact d15_38
                · obtain rfl : v = 39 := by omega
                  exact d15_39
          · rcases Nat.lt_or_ge v 44 with h12 | h12
            · rcases Nat.lt_or_ge v 42 with h14 | h14
              · rcases Nat.lt_or_ge v 41 with h16 | h16
                · obtain rfl : v = 40 := by omega
                  exact d15_40
                · obtain rfl : v = 41 := by omega
                  exact d15_41
              · rcases Nat.lt_or_ge v 43 with h16 | h16
                · obtain rfl : v = 42 := by omega
                  exact d15_42
                · obtain rfl : v = 43 := by omega
                  exact d15_43
            · rcases Nat.lt_or_ge v 46 with h14 | h14
              · rcases Nat.lt_or_ge v 45 with h16 | h16
                · obtain rfl : v = 44 := by omega
                  exact d15_44
                · obtain rfl : v = 45 := by omega
                  exact d15_45
              · rcases Nat.lt_or_ge v 47 with h16 | h16
                · obtain rfl : v = 46 := by omega
                  exact d15_46
                · obtain rfl : v = 47 := by omega
                  exact d15_47
        · rcases Nat.lt_or_ge v 56 with h10 | h10
          · rcases Nat.lt_or_ge v 52 with h12 | h12
            · rcases Nat.lt_or_ge v 50 with h14 | h14
              · rcases Nat.lt_or_ge v 49 with h16 | h16
                · obtain rfl : v = 48 := by omega
                  exact d15_48
                · obtain rfl : v = 49 := by omega
                  exact d15_49
              · rcases Nat.lt_or_ge v 51 with h16 | h16
                · obtain rfl : v = 50 := by omega
                  exact d15_50
                · obtain rfl : v = 51 := by omega
                  exact d15_51
            · rcases Nat.lt_or_ge v 54 with h14 | h14
              · rcases Nat.lt_or_ge v 53 with h16 | h16
                · obtain rfl : v = 52 := by omega
                  exact d15_52
                · obtain rfl : v = 53 := by omega
                  exact d15_53
              · rcases Nat.lt_or_ge v 55 with h16 | h16
                · obtain rfl : v = 54 := by omega
                  exact d15_54
                · obtain rfl : v = 55 := by omega
                  exact d15_55
          · rcases Nat.lt_or_ge v 60 with h12 | h12
            · rcases Nat.lt_or_ge v 58 with h14 | h14
              · rcases Nat.lt_or_ge v 57 with h16 | h16
                · obtain rfl : v = 56 := by omega
                  exact d15_56
                · obtain rfl : v = 57 := by omega
                  exact d15_57
              · rcases Nat.lt_or_ge v 59 with h16 | h16
                · obtain rfl : v = 58 := by omega
                  exact d15_58
                · obtain rfl : v = 59 := by omega
                  exact d15_59
            · rcases Nat.lt_or_ge v 62 with h14 | h14
              · rcases Nat.lt_or_ge v 61 with h16 | h16
                · obtain rfl : v = 60 := by omega
                  exact d15_60
                · obtain rfl : v = 61 := by omega
                  exact d15_61
              · rcases Nat.lt_or_ge v 63 with h16 | h16
                · obtain rfl : v = 62 := by omega
                  exact d15_62
                · obtain rfl : v = 63 := by omega
                  exact d15_63
    · rcases Nat.lt_or_ge v 96 with h6 | h6
      · rcases Nat.lt_or_ge v 80 with h8 | h8
        · rcases Nat.lt_or_ge v 72 with h10 | h10
          · rcases Nat.lt_or_ge v 68 with h12 | h12
            · rcases Nat.lt_or_ge v 66 with h14 | h14
              · rcases Nat.lt_or_ge v 65 with h16 | h16
                · obtain rfl : v = 64 := by omega
                  exact d15_64
                · obtain rfl : v = 65 := by omega
                  exact d15_65
              · rcases Nat.lt_or_ge v 67 with h16 | h16
                · obtain rfl : v = 66 := by omega
                  exact d15_66
                · obtain rfl : v = 67 := by omega
                  exact d15_67
            · rcases Nat.lt_or_ge v 70 with h14 | h14
              · rcases Nat.lt_or_ge v 69 with h16 | h16
                · obtain rfl : v = 68 := by omega
                  exact d15_68
                · obtain rfl : v = 69 := by omega
                  exact d15_69
              · rcases Nat.lt_or_ge v 71 with h16 | h16
                · obtain rfl : v = 70 := by omega
                  exact d15_70
                · obtain rfl : v = 71 := by omega
                  exact d15_71
          · rcases Nat.lt_or_ge v 76 with h12 | h12
            · rcases Nat.lt_or_ge v 74 with h14 | h14
              · rcases Nat.lt_or_ge v 73 with h16 | h16
                · obtain rfl : v = 72 := by omega
                  exact d15_72
                · obtain rfl : v = 73 := by omega
                  exact d15_73
              · rcases Nat.lt_or_ge v 75 with h16 | h16
                · obtain rfl : v = 74 := by omega
                  exact d15_74
                · obtain rfl : v = 75 := by omega
                  exact d15_75
            · rcases Nat.lt_or_ge v 78 with h14 | h14
              · rcases Nat.lt_or_ge v 77 with h16 | h16
                · obtain rfl : v = 76 := by omega
                  exact d15_76
                · obtain rfl : v = 77 := by omega
                  exact d15_77
              · rcases Nat.lt_or_ge v 79 with h16 | h16
                · obtain rfl : v = 78 := by omega
                  exact d15_78
                · obtain rfl : v = 79 := by omega
                  exact d15_79
        · rcases Nat.lt_or_ge v 88 with h10 | h10
          · rcases Nat.lt_or_ge v 84 with h12 | h12
            · rcases Nat.lt_or_ge v 82 with h14 | h14
              · rcases Nat.lt_or_ge v 81 with h16 | h16
                · obtain rfl : v = 80 := by omega
                  exact d15_80
                · obtain rfl : v = 81 := by omega
                  exact d15_81
              · rcases Nat.lt_or_ge v 83 with h16 | h16
                · obtain rfl : v = 82 := by omega
                  exact d15_82
                · obtain rfl : v = 83 := by omega
                  exact d15_83
            · rcases Nat.lt_or_ge v 86 with h14 | h14
              · rcases Nat.lt_or_ge v 85 with h16 | h16
                · obtain rfl : v = 84 := by omega
                  exact d15_84
                · obtain rfl : v = 85 := by omega
                  exact d15_85
              · rcases Nat.lt_or_ge v 87 with h16 | h16
                · obtain rfl : v = 86 := by omega
                  exact d15_86
                · obtain rfl : v = 87 := by omega
                  exact d15_87
          · rcases Nat.lt_or_ge v 92 with h12 | h12
            · rcases Nat.lt_or_ge v 90 with h14 | h14
              · rcases Nat.lt_or_ge v 89 with h16 | h16
                · obtain rfl : v = 88 := by omega
                  exact d15_88
                · obtain rfl : v = 89 := by omega
                  exact d15_89
              · rcases Nat.lt_or_ge v 91 with h16 | h16
                · obtain rfl : v = 90 := by omega
                  exact d15_90
                · obtain rfl : v = 91 := by omega
                  exact d15_91
            · rcases Nat.lt_or_ge v 94 with h14 | h14
              · rcases Nat.lt_or_ge v 93 with h16 | h16
                · obtain rfl : v = 92 := by omega
                  exact d15_92
                · obtain rfl : v = 93 := by omega
                  exact d15_93
              · rcases Nat.lt_or_ge v 95 with h16 | h16
                · obtain rfl : v = 94 := by omega
                  exact d15_94
                · obtain rfl : v = 95 := by omega
                  exact d15_95
      · rcases Nat.lt_or_ge v 112 with h8 | h8
        · rcases Nat.lt_or_ge v 104 with h10 | h10
          · rcases Nat.lt_or_ge v 100 with h12 | h12
            · rcases Nat.lt_or_ge v 98 with h14 | h14
              · rcases Nat.lt_or_ge v 97 with h16 | h16
                · obtain rfl : v = 96 := by omega
                  exact d15_96
                · obtain rfl : v = 97 := by omega
                  exact d15_97
              · rcases Nat.lt_or_ge v 99 with h16 | h16
                · obtain rfl : v = 98 := by omega
                  exact d15_98
                · obtain rfl : v = 99 := by omega
                  exact d15_99
            · rcases Nat.lt_or_ge v 102 with h14 | h14
              · rcases Nat.lt_or_ge v 101 with h16 | h16
                · obtain rfl : v = 100 := by omega
                  exact d15_100
                · obtain rfl : v = 101 := by omega
                  exact d15_101
              · rcases Nat.lt_or_ge v 103 with h16 | h16
                · obtain rfl : v = 102 := by omega
                  exact d15_102
                · obtain rfl : v = 103 := by omega
                  exact d15_103
          · rcases Nat.lt_or_ge v 108 with h12 | h12
            · rcases Nat.lt_or_ge v 106 with h14 | h14
              · rcases Nat.lt_or_ge v 105 with h16 | h16
                · obtain rfl : v = 104 := by omega
                  exact d15_104
                · obtain rfl : v = 105 := by omega
                  exact d15_105
              · rcases Nat.lt_or_ge v 107 with h16 | h16
                · obtain rfl : v = 106 := by omega
                  exact d15_106
                · obtain rfl : v = 107 := by omega
                  exact d15_107
            · rcases Nat.lt_or_ge v 110 with h14 | h14
              · rcases Nat.lt_or_ge v 109 with h16 | h16
                · obtain rfl : v = 108 := by omega
                  exact d15_108
                · obtain rfl : v = 109 := by omega
                  exact d15_109
              · rcases Nat.lt_or_ge v 111 with h16 | h16
                · obtain rfl : v = 110 := by omega
                  exact d15_110
                · obtain rfl : v = 111 := by omega
                  exact d15_111
        · rcases Nat.lt_or_ge v 120 with h10 | h10
          · rcases Nat.lt_or_ge v 116 with h12 | h12
            · rcases Nat.lt_or_ge v 114 with h14 | h14
              · rcases Nat.lt_or_ge v 113 with h16 | h16
                · obtain rfl : v = 112 := by omega
                  exact d15_112
                · obtain rfl : v = 113 := by omega
                  exact d15_113
              · rcases Nat.lt_or_ge v 115 with h16 | h16
                · obtain rfl : v = 114 := by omega
                  exact d15_114
                · obtain rfl : v = 115 := by omega
                  exact d15_115
            · rcases Nat.lt_or_ge v 118 with h14 | h14
              · rcases Nat.lt_or_ge v 117 with h16 | h16
                · obtain rfl : v = 116 := by omega
                  exact d15_116
                · obtain rfl : v = 117 := by omega
                  exact d15_117
              · rcases Nat.lt_or_ge v 119 with h16 | h16
                · obtain rfl : v = 118 := by omega
                  exact d15_118
                · obtain rfl : v = 119 := by omega
                  exact d15_119
          · rcases Nat.lt_or_ge v 124 with h12 | h12
            · rcases Nat.lt_or_ge v 122 with h14 | h14
              · rcases Nat.lt_or_ge v 121 with h16 | h16
                · obtain rfl : v = 120 := by omega
                  exact d15_120
                · obtain rfl : v = 121 := by omega
                  exact d15_121
              · rcases Nat.lt_or_ge v 123 with h16 | h16
                · obtain rfl : v = 122 := by omega
                  exact d15_122
                · obtain rfl : v = 123 := by omega
                  exact d15_123
            · rcases Nat.lt_or_ge v 126 with h14 | h14
              · rcases Nat.lt_or_ge v 125 with h16 | h16
                · obtain rfl : v = 124 := by omega
                  exact d15_124
                · obtain rfl : v = 125 := by omega
                  exact d15_125
              · rcases Nat.lt_or_ge v 127 with h16 | h16
                · obtain rfl : v = 126 := by omega
                  exact d15_126
                · obtain rfl : v = 127 := by omega
                  exact d15_127
  · rcases Nat.lt_or_ge v 192 with h4 | h4
    · rcases Nat.lt_or_ge v 160 with h6 | h6
      · rcases Nat.lt_or_ge v 144 with h8 | h8
        · rcases Nat.lt_or_ge v 136 with h10 | h10
          · rcases Nat.lt_or_ge v 132 with h12 | h12
            · rcases Nat.lt_or_ge v 130 with h14 | h14
              · rcases Nat.lt_or_ge v 129 with h16 | h16
                · obtain rfl : v = 128 := by omega
                  exact d15_128
                · obtain rfl : v = 129 := by omega
                  exact d15_129
              · rcases Nat.lt_or_ge v 131 with h16 | h16
                · obtain rfl : v = 130 := by omega
                  exact d15_130
                · obtain rfl : v = 131 := by omega
                  exact d15_131
            · rcases Nat.lt_or_ge v 134 with h14 | h14
              · rcases Nat.lt_or_ge v 133 with h16 | h16
                · obtain rfl : v = 132 := by omega
                  exact d15_132
                · obtain rfl : v = 133 := by omega
                  exact d15_133
              · rcases Nat.lt_or_ge v 135 with h16 | h16
                · obtain rfl : v = 134 := by omega
                  exact d15_134
                · obtain rfl : v = 135 := by omega
                  exact d15_135
          · rcases Nat.lt_or_ge v 140 with h12 | h12
            · rcases Nat.lt_or_ge v 138 with h14 | h14
              · rcases Nat.lt_or_ge v 137 with h16 | h16
                · obtain rfl : v = 136 := by omega
                  exact d15_136
                · obtain rfl : v = 137 := by omega
                  exact d15_137
              · rcases Nat.lt_or_ge v 139 with h16 | h16
                · obtain rfl : v = 138 := by omega
                  exact d15_138
                · obtain rfl : v = 139 := by omega
                  exact d15_139
            · rcases Nat.lt_or_ge v 142 with h14 | h14
              · rcases Nat.lt_or_ge v 141 with h16 | h16
                · obtain rfl : v = 140 := by omega
                  exact d15_140
                · obtain rfl : v = 141 := by omega
                  exact d15_141
              · rcases Nat.lt_or_ge v 143 with h16 | h16
                · obtain rfl : v = 142 := by omega
                  exact d15_142
                · obtain rfl : v = 143 := by omega
                  exact d15_143
        · rcases Nat.lt_or_ge v 152 with h10 | h10
          · rcases Nat.lt_or_ge v 148 with h12 | h12
            · rcases Nat.lt_or_ge v 146 with h14 | h14
              · rcases Nat.lt_or_ge v 145 with h16 | h16
                · obtain rfl : v = 144 := by omega
                  exact d15_144
                · obtain rfl : v = 145 := by omega
                  exact d15_145
              · rcases Nat.lt_or_ge v 147 with h16 | h16
                · obtain rfl : v = 146 := by omega
                  exact d15_146
                · obtain rfl : v = 147 := by omega
                  exact d15_147
            · rcases Nat.lt_or_ge v 150 with h14 | h14
              · rcases Nat.lt_or_ge v 149 with h16 | h16
                · obtain rfl : v = 148 := by omega
                  exact d15_148
                · obtain rfl : v = 149 := by omega
                  exact d15_149
              · rcases Nat.lt_or_ge v 151 with h16 | h16
                · obtain rfl : v = 150 := by omega
                  exact d15_150
                · obtain rfl : v = 151 := by omega
                  exact d15_151
          · rcases Nat.lt_or_ge v 156 with h12 | h12
            · rcases Nat.lt_or_ge v 154 with h14 | h14
              · rcases Nat.lt_or_ge v 153 with h16 | h16
                · obtain rfl : v = 152 := by omega
                  exact d15_152
                · obtain rfl : v = 153 := by omega
                  exact d15_153
              · rcases Nat.lt_or_ge v 155 with h16 | h16
                · obtain rfl : v = 154 := by omega
                  exact d15_154
                · obtain rfl : v = 155 := by omega
                  exact d15_155
            · rcases Nat.lt_or_ge v 158 with h14 | h14
              · rcases Nat.lt_or_ge v 157 with h16 | h16
                · obtain rfl : v = 156 := by omega
                  exact d15_156
                · obtain rfl : v = 157 := by omega
                  exact d15_157
              · rcases Nat.lt_or_ge v 159 with h16 | h16
                · obtain rfl : v = 158 := by omega
                  exact d15_158
                · obtain rfl : v = 159 := by omega
                  exact d15_159
      · rcases Nat.lt_or_ge v 176 with h8 | h8
        · rcases Nat.lt_or_ge v 168 with h10 | h10
          · rcases Nat.lt_or_ge v 164 with h12 | h12
            · rcases Nat.lt_or_ge v 162 with h14 | h14
              · rcases Nat.lt_or_ge v 161 with h16 | h16
                · obtain rfl : v = 160 := by omega
                  exact d15_160
                · obtain rfl : v = 161 := by omega
                  exact d15_161
              · rcases Nat.lt_or_ge v 163 with h16 | h16
                · obtain rfl : v = 162 := by omega
                  exact d15_162
                · obtain rfl : v = 163 := by omega
                  exact d15_163
            · rcases Nat.lt_or_ge v 166 with h14 | h14
              · rcases Nat.lt_or_ge v 165 with h16 | h16
                · obtain rfl : v = 164 := by omega
                  exact d15_164
                · obtain rfl : v = 165 := by omega
                  exact d15_165
              · rcases Nat.lt_or_ge v 167 with h16 | h16
                · obtain rfl : v = 166 := by omega
                  exact d15_166
                · obtain rfl : v = 167 := by omega
                  exact d15_167
          · rcases Nat.lt_or_ge v 172 with h12 | h12
            · rcases Nat.lt_or_ge v 170 with h14 | h14
              · rcases Nat.lt_or_ge v 169 with h16 | h16
                · obtain rfl : v = 168 := by omega
                  exact d15_168
                · obtain rfl : v = 169 := by omega
                  exact d15_169
              · rcases Nat.lt_or_ge v 171 with h16 | h16
                · obtain rfl : v = 170 := by omega
                  exact d15_170
                · obtain rfl : v = 171 := by omega
                  exact d15_171
            · rcases Nat.lt_or_ge v 174 with h14 | h14
              · rcases Nat.lt_or_ge v 173 with h16 | h16
                · obtain rfl : v = 172 := by omega
                  exact d15_172
                · obtain rfl : v = 173 := by omega
                  exact d15_173
              · rcases Nat.lt_or_ge v 175 with h16 | h16
                · obtain rfl : v = 174 := by omega
                  exact d15_174
                · obtain rfl : v = 175 := by omega
                  exact d15_175
        · rcases Nat.lt_or_ge v 184 with h10 | h10
          · rcases Nat.lt_or_ge v 180 with h12 | h12
            · rcases Nat.lt_or_ge v 178 with h14 | h14
              · rcases Nat.lt_or_ge v 177 with h16 | h16
                · obtain rfl : v = 176 := by omega
                  exact d15_176
                · obtain rfl : v = 177 := by omega
                  exact d15_177
              · rcases Nat.lt_or_ge v 179 with h16 | h16
                · obtain rfl : v = 178 := by omega
                  exact d15_178
                · obtain rfl : v = 179 := by omega
                  exact d15_179
            · rcases Nat.lt_or_ge v 182 with h14 | h14
              · rcases Nat.lt_or_ge v 181 with h16 | h16
                · obtain rfl : v = 180 := by omega
                  exact d15_180
                · obtain rfl : v = 181 := by omega
                  exact d15_181
              · rcases Nat.lt_or_ge v 183 with h16 | h16
                · obtain rfl : v = 182 := by omega
                  exact d15_182
                · obtain rfl : v = 183 := by omega
                  exact d15_183
          · rcases Nat.lt_or_ge v 188 with h12 | h12
            · rcases Nat.lt_or_ge v 186 with h14 | h14
              · rcases Nat.lt_or_ge v 185 with h16 | h16
                · obtain rfl : v = 184 := by omega
                  exact d15_184
                · obtain rfl : v = 185 := by omega
                  exact d15_185
              · rcases Nat.lt_or_ge v 187 with h16 | h16
                · obtain rfl : v = 186 := by omega
                  exact d15_186
                · obtain rfl : v = 187 := by omega
                  exact d15_187
            · rcases Nat.lt_or_ge v 190 with h14 | h14
              · rcases Nat.lt_or_ge v 189 with h16 | h16
                · obtain rfl : v = 188 := by omega
                  exact d15_188
                · obtain rfl : v = 189 := by omega
                  exact d15_189
              · rcases Nat.lt_or_ge v 191 with h16 | h16
                · obtain rfl : v = 190 := by omega
                  exact d15_190
                · obtain rfl : v = 191 := by omega
                  exact d15_191
    · rcases Nat.lt_or_ge v 224 with h6 | h6
      · rcases Nat.lt_or_ge v 208 with h8 | h8
        · rcases Nat.lt_or_ge v 200 with h10 | h10
          · rcases Nat.lt_or_ge v 196 with h12 | h12
            · rcases Nat.lt_or_ge v 194 with h14 | h14
              · rcases Nat.lt_or_ge v 193 with h16 | h16
                · obtain rfl : v = 192 := by omega
                  exact d15_192
                · obtain rfl : v = 193 := by omega
                  exact d15_193
              · rcases Nat.lt_or_ge v 195 with h16 | h16
                · obtain rfl : v = 194 := by omega
                  exact d15_194
                · obtain rfl : v = 195 := by omega
                  exact d15_195
            · rcases Nat.lt_or_ge v 198 with h14 | h14
              · rcases Nat.lt_or_ge v 197 with h16 | h16
                · obtain rfl : v = 196 := by omega
                  exact d15_196
                · obtain rfl : v = 197 := by omega
                  exact d15_197
              · rcases Nat.lt_or_ge v 199 with h16 | h16
                · obtain rfl : v = 198 := by omega
                  exact d15_198
                · obtain rfl : v = 199 := by omega
                  exact d15_199
          · rcases Nat.lt_or_ge v 204 with h12 | h12
            · rcases Nat.lt_or_ge v 202 with h14 | h14
              · rcases Nat.lt_or_ge v 201 with h16 | h16
                · obtain rfl : v = 200 := by omega
                  exact d15_200
                · obtain rfl : v = 201 := by omega
                  exact d15_201
              · rcases Nat.lt_or_ge v 203 with h16 | h16
                · obtain rfl : v = 202 := by omega
                  exact d15_202
                · obtain rfl : v = 203 := by omega
                  exact d15_203
            · rcases Nat.lt_or_ge v 206 with h14 | h14
              · rcases Nat.lt_or_ge v 205 with h16 | h16
                · obtain rfl : v = 204 := by omega
                  exact d15_204
                · obtain rfl : v = 205 := by omega
                  exact d15_205
              · rcases Nat.lt_or_ge v 207 with h16 | h16
                · obtain rfl : v = 206 := by omega
                  exact d15_206
                · obtain rfl : v = 207 := by omega
                  exact d15_207
        · rcases Nat.lt_or_ge v 216 with h10 | h10
          · rcases Nat.lt_or_ge v 212 with h12 | h12
            · rcases Nat.lt_or_ge v 210 with h14 | h14
              · rcases Nat.lt_or_ge v 209 with h16 | h16
                · obtain rfl : v = 208 := by omega
                  exact d15_208
                · obtain rfl : v = 209 := by omega
                  exact d15_209
              · rcases Nat.lt_or_ge v 211 with h16 | h16
                · obtain rfl : v = 210 := by omega
                  exact d15_210
                · obtain rfl : v = 211 := by omega
                  exact d15_211
            · rcases Nat.lt_or_ge v 214 with h14 | h14
              · rcases Nat.lt_or_ge v 213 with h16 | h16
                · obtain rfl : v = 212 := by omega
                  exact d15_212
                · obtain rfl : v = 213 := by omega
                  exact d15_213
              · rcases Nat.lt_or_ge v 215 with h16 | h16
                · obtain rfl : v = 214 := by omega
                  exact d15_214
                · obtain rfl : v = 215 := by omega
                  exact d15_215
          · rcases Nat.lt_or_ge v 220 with h12 | h12
            · rcases Nat.lt_or_ge v 218 with h14 | h14
              · rcases Nat.lt_or_ge v 217 with h16 | h16
                · obtain rfl : v = 216 := by omega
                  exact d15_216
                · obtain rfl : v = 217 := by omega
                  exact d15_217
              · rcases Nat.lt_or_ge v 219 with h16 | h16
                · obtain rfl : v = 218 := by omega
                  exact d15_218
                · obtain rfl : v = 219 := by omega
                  exact d15_219
            · rcases Nat.lt_or_ge v 222 with h14 | h14
              · rcases Nat.lt_or_ge v 221 with h16 | h16
                · obtain rfl : v = 220 := by omega
                  exact d15_220
                · obtain rfl : v = 221 := by omega
                  exact d15_221
              · rcases Nat.lt_or_ge v 223 with h16 | h16
                · obtain rfl : v = 222 := by omega
                  exact d15_222
                · obtain rfl : v = 223 := by omega
                  exact d15_223
      · rcases Nat.lt_or_ge v 240 with h8 | h8
        · rcases Nat.lt_or_ge v 232 with h10 | h10
          · rcases Nat.lt_or_ge v 228 with h12 | h12
            · rcases Nat.lt_or_ge v 226 with h14 | h14
              · rcases Nat.lt_or_ge v 225 with h16 | h16
                · obtain rfl : v = 224 := by omega
                  exact d15_224
                · obtain rfl : v = 225 := by omega
                  exact d15_225
              · rcases Nat.lt_or_ge v 227 with h16 | h16
                · obtain rfl : v = 226 := by omega
                  exact d15_226
                · obtain rfl : v = 227 := by omega
                  exact d15_227
            · rcases Nat.lt_or_ge v 230 with h14 | h14
              · rcases Nat.lt_or_ge v 229 with h16 | h16
                · obtain rfl : v = 228 := by omega
                  exact d15_228
                · obtain rfl : v = 229 := by omega
                  exact d15_229
              · rcases Nat.lt_or_ge v 231 with h16 | h16
                · obtain rfl : v = 230 := by omega
                  exact d15_230
                · obtain rfl : v = 231 := by omega
                  exact d15_231
          · rcases Nat.lt_or_ge v 236 with h12 | h12
            · rcases Nat.lt_or_ge v 234 with h14 | h14
              · rcases Nat.lt_or_ge v 233 with h16 | h16
                · obtain rfl : v = 232 := by omega
                  exact d15_232
                · obtain rfl : v = 233 := by omega
                  exact d15_233
              · rcases Nat.lt_or_ge v 235 with h16 | h16
                · obtain rfl : v = 234 := by omega
                  exact d15_234
                · obtain rfl : v = 235 := by omega
                  exact d15_235
            · rcases Nat.lt_or_ge v 238 with h14 | h14
              · rcases Nat.lt_or_ge v 237 with h16 | h16
                · obtain rfl : v = 236 := by omega
                  exact d15_236
                · obtain rfl : v = 237 := by omega
                  exact d15_237
              · rcases Nat.lt_or_ge v 239 with h16 | h16
                · obtain rfl : v = 238 := by omega
                  exact d15_238
                · obtain rfl : v = 239 := by omega
                  exact d15_239
        · rcases Nat.lt_or_ge v 248 with h10 | h10
          · rcases Nat.lt_or_ge v 244 with h12 | h12
            · rcases Nat.lt_or_ge v 242 with h14 | h14
              · rcases Nat.lt_or_ge v 241 with h16 | h16
                · obtain rfl : v = 240 := by omega
                  exact d15_240
                · obtain rfl : v = 241 := by omega
                  exact d15_241
              · rcases Nat.lt_or_ge v 243 with h16 | h16
                · obtain rfl : v = 242 := by omega
                  exact d15_242
                · obtain rfl : v = 243 := by omega
                  exact d15_243
            · rcases Nat.lt_or_ge v 246 with h14 | h14
              · rcases Nat.lt_or_ge v 245 with h16 | h16
                · obtain rfl : v = 244 := by omega
                  exact d15_244
                · obtain rfl : v = 245 := by omega
                  exact d15_245
              · rcases Nat.lt_or_ge v 247 with h16 | h16
                · obtain rfl : v = 246 := by omega
                  exact d15_246
                · obtain rfl : v = 247 := by omega
                  exact d15_247
          · rcases Nat.lt_or_ge v 252 with h12 | h12
            · rcases Nat.lt_or_ge v 250 with h14 | h14
              · rcases Nat.lt_or_ge v 249 with h16 | h16
                · obtain rfl : v = 248 := by omega
                  exact d15_248
                · obtain rfl : v = 249 := by omega
                  exact d15_249
              · rcases Nat.lt_or_ge v 251 with h16 | h16
                · obtain rfl : v = 250 := by omega
                  exact d15_250
                · obtain rfl : v = 251 := by omega
                  exact d15_251
            · rcases Nat.lt_or_ge v 254 with h14 | h14
              · rcases Nat.lt_or_ge v 253 with h16 | h16
                · obtain rfl : v = 252 := by omega
                  exact d15_252
                · obtain rfl : v = 253 := by omega
                  exact d15_253
              · rcases Nat.lt_or_ge v 255 with h16 | h16
                · obtain rfl : v = 254 := by omega
                  exact d15_254
                · obtain rfl : v = 255 := by omega
                  exact d15_255
theorem dec16 {v : Nat} (h : v < 256) : DecOk 16 v := by
  rcases Nat.lt_or_ge v 128 with h2 | h2
  · rcases Nat.lt_or_ge v 64 with h4 | h4
    · rcases Nat.lt_or_ge v 32 with h6 | h6
      · rcases Nat.lt_or_ge v 16 with h8 | h8
        · rcases Nat.lt_or_ge v 8 with h10 | h10
          · rcases Nat.lt_or_ge v 4 with h12 | h12
            · rcases Nat.lt_or_ge v 2 with h14 | h14
              · rcases Nat.lt_or_ge v 1 with h16 | h16
                · obtain rfl : v = 0 := by omega
                  exact d16_0
                · obtain rfl : v = 1 := by omega
                  exact d16_1
              · rcases Nat.lt_or_ge v 3 with h16 | h16
                · obtain rfl : v = 2 := by omega
                  exact d16_2
                · obtain rfl : v = 3 := by omega
                  exact d16_3
            · rcases Nat.lt_or_ge v 6 with h14 | h14
              · rcases Nat.lt_or_ge v 5 with h16 | h16
                · obtain rfl : v = 4 := by omega
                  exact d16_4
                · obtain rfl : v = 5 := by omega
                  exact d16_5
              · rcases Nat.lt_or_ge v 7 with h16 | h16
                · obtain rfl : v = 6 := by omega
                  exact d16_6
                · obtain rfl : v = 7 := by omega
                  exact d16_7
          · rcases Nat.lt_or_ge v 12 with h12 | h12
            · rcases Nat.lt_or_ge v 10 with h14 | h14
              · rcases Nat.lt_or_ge v 9 with h16 | h16
                · obtain rfl : v = 8 := by omega
                  exact d16_8
                · obtain rfl : v = 9 := by omega
                  exact d16_9
              · rcases Nat.lt_or_ge v 11 with h16 | h16
                · obtain rfl : v = 10 := by omega
                  exact d16_10
                · obtain rfl : v = 11 := by omega
                  exact d16_11
            · rcases Nat.lt_or_ge v 14 with h14 | h14
              · rcases Nat.lt_or_ge v 13 with h16 | h16
                · obtain rfl : v = 12 := by omega
                  exact d16_12
                · obtain rfl : v = 13 := by omega
                  exact d16_13
              · rcases Nat.lt_or_ge v 15 with h16 | h16
                · obtain rfl : v = 14 := by omega
                  exact d16_14
                · obtain rfl : v = 15 := by omega
                  exact d16_15
        · rcases Nat.lt_or_ge v 24 with h10 | h10
          · rcases Nat.lt_or_ge v 20 with h12 | h12
            · rcases Nat.lt_or_ge v 18 with h14 | h14
              · rcases Nat.lt_or_ge v 17 with h16 | h16
                · obtain rfl : v = 16 := by omega
                  exact d16_16
                · obtain rfl : v = 17 := by omega
                  exact d16_17
              · rcases Nat.lt_or_ge v 19 with h16 | h16
                · obtain rfl : v = 18 := by omega
                  exact d16_18
                · obtain rfl : v = 19 := by omega
                  exact d16_19
            · rcases Nat.lt_or_ge v 22 with h14 | h14
              · rcases Nat.lt_or_ge v 21 with h16 | h16
                · obtain rfl : v = 20 := by omega
                  exact d16_20
                · obtain rfl : v = 21 := by omega
                  exact d16_21
              · rcases Nat.lt_or_ge v 23 with h16 | h16
                · obtain rfl : v = 22 := by omega
                  exact d16_22
                · obtain rfl : v = 23 := by omega
                  exact d16_23
          · rcases Nat.lt_or_ge v 28 with h12 | h12
            · rcases Nat.lt_or_ge v 26 with h14 | h14
              · rcases Nat.lt_or_ge v 25 with h16 | h16
                · obtain rfl : v = 24 := by omega
                  exact d16_24
                · obtain rfl : v = 25 := by omega
                  exact d16_25
              · rcases Nat.lt_or_ge v 27 with h16 | h16
                · obtain rfl : v = 26 := by omega
                  exact d16_26
                · obtain rfl : v = 27 := by omega
                  exact d16_27
            · rcases Nat.lt_or_ge v 30 with h14 | h14
              · rcases Nat.lt_or_ge v 29 with h16 | h16
                · obtain rfl : v = 28 := by omega
                  exact d16_28
                · obtain rfl : v = 29 := by omega
                  exact d16_29
              · rcases Nat.lt_or_ge v 31 with h16 | h16
                · obtain rfl : v = 30 := by omega
                  exact d16_30
                · obtain rfl : v = 31 := by omega
                  exact d16_31
      · rcases Nat.lt_or_ge v 48 with h8 | h8
        · rcases Nat.lt_or_ge v 40 with h10 | h10
          · rcases Nat.lt_or_ge v 36 with h12 | h12
            · rcases Nat.lt_or_ge v 34 with h14 | h14
              · rcases Nat.lt_or_ge v 33 with h16 | h16
                · obtain rfl : v = 32 := by omega
                  exact d16_32
                · obtain rfl : v = 33 := by omega
                  exact d16_33
              · rcases Nat.lt_or_ge v 35 with h16 | h16
                · obtain rfl : v = 34 := by omega
                  exact d16_34
                · obtain rfl : v = 35 := by omega
                  exact d16_35
            · rcases Nat.lt_or_ge v 38 with h14 | h14
              · rcases Nat.lt_or_ge v 37 with h16 | h16
                · obtain rfl : v = 36 := by omega
                  exact d16_36
                · obtain rfl : v = 37 := by omega
                  exact d16_37
              · rcases Nat.lt_or_ge v 39 with h16 | h16
                · obtain rfl : v = 38 := by omega
                  exact d16_38
                · obtain rfl : v = 39 := by omega
                  exact d16_39
          · rcases Nat.lt_or_ge v 44 with h12 | h12
            · rcases Nat.lt_or_ge v 42 with h14 | h14
              · rcases Nat.lt_or_ge v 41 with h16 | h16
                · obtain rfl : v = 40 := by omega
                  exact d16_40
                · obtain rfl : v = 41 := by omega
                  exact d16_41
              · rcases Nat.lt_or_ge v 43 with h16 | h16
                · obtain rfl : v = 42 := by omega
                  exact d16_42
                · obtain rfl : v = 43 := by omega
                  exact d16_43
            · rcases Nat.lt_or_ge v 46 with h14 | h14
              · rcases Nat.lt_or_ge v 45 with h16 | h16
                · obtain rfl : v = 44 := by omega
                  exact d16_44
                · obtain rfl : v = 45 := by omega
                  exact d16_45
              · rcases Nat.lt_or_ge v 47 with h16 | h16
                · obtain rfl : v = 46 := by omega
                  exact d16_46
                · obtain rfl : v = 47 := by omega
                  exact d16_47
        · rcases Nat.lt_or_ge v 56 with h10 | h10
          · rcases Nat.lt_or_ge v 52 with h12 | h12
            · rcases Nat.lt_or_ge v 50 with h14 | h14
              · rcases Nat.lt_or_ge v 49 with h16 | h16
                · obtain rfl : v = 48 := by omega
                  exact d16_48
                · obtain rfl : v = 49 := by omega
                  exact d16_49
              · rcases Nat.lt_or_ge v 51 with h16 | h16
                · obtain rfl : v = 50 := by omega
                  exact d16_50
                · obtain rfl : v = 51 := by omega
                  exact d16_51
            · rcases Nat.lt_or_ge v 54 with h14 | h14
              · rcases Nat.lt_or_ge v 53 with h16 | h16
                · obtain rfl : v = 52 := by omega
                  exact d16_52
                · obtain rfl : v = 53 := by omega
                  exact d16_53
              · rcases Nat.lt_or_ge v 55 with h16 | h16
                · obtain rfl : v = 54 := by omega
                  exact d16_54
                · obtain rfl : v = 55 := by omega
                  exact d16_55
          · rcases Nat.lt_or_ge v 60 with h12 | h12
            · rcases Nat.lt_or_ge v 58 with h14 | h14
              · rcases Nat.lt_or_ge v 57 with h16 | h16
                · obtain rfl : v = 56 := by omega
                  exact d16_56
                · obtain rfl : v = 57 := by omega
                  exact d16_57
              · rcases Nat.lt_or_ge v 59 with h16 | h16
                · obtain rfl : v = 58 := by omega
                  exact d16_58
                · obtain rfl : v = 59 := by omega
                  exact d16_59
            · rcases Nat.lt_or_ge v 62 with h14 | h14
              · rcases Nat.lt_or_ge v 61 with h16 | h16
                · obtain rfl : v = 60 := by omega
                  exact d16_60
                · obtain rfl : v = 61 := by omega
                  exact d16_61
              · rcases Nat.lt_or_ge v 63 with h16 | h16
                · obtain rfl : v = 62 := by omega
                  exact d16_62
                · obtain rfl : v = 63 := by omega
                  exact d16_63
    · rcases Nat.lt_or_ge v 96 with h6 | h6
      · rcases Nat.lt_or_ge v 80 with h8 | h8
        · rcases Nat.lt_or_ge v 72 with h10 | h10
          · rcases Nat.lt_or_ge v 68 with h12 | h12
            · rcases Nat.lt_or_ge v 66 with h14 | h14
              · rcases Nat.lt_or_ge v 65 with h16 | h16
                · obtain rfl : v = 64 := by omega
                  exact d16_64
                · obtain rfl : v = 65 := by omega
                  exact d16_65
              · rcases Nat.lt_or_ge v 67 with h16 | h16
                · obtain rfl : v = 66 := by omega
                  exact d16_66
                · obtain rfl : v = 67 := by omega
                  exact d16_67
            · rcases Nat.lt_or_ge v 70 with h14 | h14
              · rcases Nat.lt_or_ge v 69 with h16 | h16
                · obtain rfl : v = 68 := by omega
                  exact d16_68
                · obtain rfl : v = 69 := by omega
                  exact d16_69
              · rcases Nat.lt_or_ge v 71 with h16 | h16
                · obtain rfl : v = 70 := by omega
                  exact d16_70
                · obtain rfl : v = 71 := by omega
                  exact d16_71
          · rcases Nat.lt_or_ge v 76 with h12 | h12
            · rcases Nat.lt_or_ge v 74 with h14 | h14
              · rcases Nat.lt_or_ge v 73 with h16 | h16
                · obtain rfl : v = 72 := by omega
                  exact d16_72
                · obtain rfl : v = 73 := by omega
                  exact d16_73
              · rcases Nat.lt_or_ge v 75 with h16 | h16
                · obtain rfl : v = 74 := by omega
                  exact d16_74
                · obtain rfl : v = 75 := by omega
                  exact d16_75
            · rcases Nat.lt_or_ge v 78 with h14 | h14
              · rcases Nat.lt_or_ge v 77 with h16 | h16
                · obtain rfl : v = 76 := by omega
                  exact d16_76
                · obtain rfl : v = 77 := by omega
                  exact d16_77
              · rcases Nat.lt_or_ge v 79 with h16 | h16
                · obtain rfl : v = 78 := by omega
                  exact d16_78
                · obtain rfl : v = 79 := by omega
                  exact d16_79
        · rcases Nat.lt_or_ge v 88 with h10 | h10
          · rcases Nat.lt_or_ge v 84 with h12 | h12
            · rcases Nat.lt_or_ge v 82 with h14 | h14
              · rcases Nat.lt_or_ge v 81 with h16 | h16
                · obtain rfl : v = 80 := by omega
                  exact d16_80
                · obtain rfl : v = 81 := by omega
                  exact d16_81
              · rcases Nat.lt_or_ge v 83 with h16 | h16
                · obtain rfl : v = 82 := by omega
                  exact d16_82
                · obtain rfl : v = 83 := by omega
                  exact d16_83
            · rcases Nat.lt_or_ge v 86 with h14 | h14
              · rcases Nat.lt_or_ge v 85 with h16 | h16
                · obtain rfl : v = 84 := by omega
                  exact d16_84
                · obtain rfl : v = 85 := by omega
                  exact d16_85
              · rcases Nat.lt_or_ge v 87 with h16 | h16
                · obtain rfl : v = 86 := by omega
                  exact d16_86
                · obtain rfl : v = 87 := by omega
                  exact d16_87
          · rcases Nat.lt_or_ge v 92 with h12 | h12
            · rcases Nat.lt_or_ge v 90 with h14 | h14
              · rcases Nat.lt_or_ge v 89 with h16 | h16
                · obtain rfl : v = 88 := by omega
                  exact d16_88
                · obtain rfl : v = 89 := by omega
                  exact d16_89
              · rcases Nat.lt_or_ge v 91 with h16 | h16
                · obtain rfl : v = 90 := by omega
                  exact d16_90
                · obtain rfl : v = 91 := by omega
                  exact d16_91
            · rcases Nat.lt_or_ge v 94 with h14 | h14
              · rcases Nat.lt_or_ge v 93 with h16 | h16
                · obtain rfl : v = 92 := by omega
                  exact d16_92
                · obtain rfl : v = 93 := by omega
                  exact d16_93
              · rcases Nat.lt_or_ge v 95 with h16 | h16
                · obtain rfl : v = 94 := by omega
                  exact d16_94
                · obtain rfl : v = 95 := by omega
                  exact d16_95
      · rcases Nat.lt_or_ge v 112 with h8 | h8
        · rcases Nat.lt_or_ge v 104 with h10 | h10
          · rcases Nat.lt_or_ge v 100 with h12 | h12
            · rcases Nat.lt_or_ge v 98 with h14 | h14
              · rcases Nat.lt_or_ge v 97 with h16 | h16
                · obtain rfl : v = 96 := by omega
                  exact d16_96
                · obtain rfl : v = 97 := by omega
                  exact d16_97
              · rcases Nat.lt_or_ge v 99 with h16 | h16
                · obtain rfl : v = 98 := by omega
                  exact d16_98
                · obtain rfl : v = 99 := by omega
                  exact d16_99
            · rcases Nat.lt_or_ge v 102 with h14 | h14
              · rcases Nat.lt_or_ge v 101 with h16 | h16
                · obtain rfl : v = 100 := by omega
                  exact d16_100
                · obtain rfl : v = 101 := by omega
                  exact d16_101
              · rcases Nat.lt_or_ge v 103 with h16 | h16
                · obtain rfl : v = 102 := by omega
                  exact d16_102
                · obtain rfl : v = 103 := by omega
                  exact d16_103
          · rcases Nat.lt_or_ge v 108 with h12 | h12
            · rcases Nat.lt_or_ge v 106 with h14 | h14
              · rcases Nat.lt_or_ge v 105 with h16 | h16
                · obtain rfl : v = 104 := by omega
                  exact d16_104
                · obtain rfl : v = 105 := by omega
                  exact d16_105
              · rcases Nat.lt_or_ge v 107 with h16 | h16
                · obtain rfl : v = 106 := by omega
                  exact d16_106
                · obtain rfl : v = 107 := by omega
                  exact d16_107
            · rcases Nat.lt_or_ge v 110 with h14 | h14
              · rcases Nat.lt_or_ge v 109 with h16 | h16
                · obtain rfl : v = 108 := by omega
                  exact d16_108
                · obtain rfl : v = 109 := by omega
                  exact d16_109
              · rcases Nat.lt_or_ge v 111 with h16 | h16
                · obtain rfl : v = 110 := by omega
                  exact d16_110
                · obtain rfl : v = 111 := by omega
                  exact d16_111
        · rcases Nat.lt_or_ge v 120 with h10 | h10
          · rcases Nat.lt_or_ge v 116 with h12 | h12
            · rcases Nat.lt_or_ge v 114 with h14 | h14
              · rcases Nat.lt_or_ge v 113 with h16 | h16
                · obtain rfl : v = 112 := by omega
                  exact d16_112
                · obtain rfl : v = 113 := by omega
                  exact d16_113
              · rcases Nat.lt_or_ge v 115 with h16 | h16
                · obtain rfl : v = 114 := by omega
                  exact d16_114
                · obtain rfl : v = 115 := by omega
                  exact d16_115
            · rcases Nat.lt_or_ge v 118 with h14 | h14
              · rcases Nat.lt_or_ge v 117 with h16 | h16
                · obtain rfl : v = 116 := by omega
                  exact d16_116
                · obtain rfl : v = 117 := by omega
                  exact d16_117
              · rcases Nat.lt_or_ge v 119 with h16 | h16
                · obtain rfl : v = 118 := by omega
                  exact d16_118
                · obtain rfl : v = 119 := by omega
                  exact d16_119
          · rcases Nat.lt_or_ge v 124 with h12 | h12
            · rcases Nat.lt_or_ge v 122 with h14 | h14
              · rcases Nat.lt_or_ge v 121 with h16 | h16
                · obtain rfl : v = 120 := by omega
                  exact d16_120
                · obtain rfl : v = 121 := by omega
                  exact d16_121
              · rcases Nat.lt_or_ge v 123 with h16 | h16
                · obtain rfl : v = 122 := by omega
                  exact d16_122
                · obtain rfl : v = 123 := by omega
                  exact d16_123
            · rcases Nat.lt_or_ge v 126 with h14 | h14
              · rcases Nat.lt_or_ge v 125 with h16 | h16
                · obtain rfl : v = 124 := by omega
                  exact d16_124
                · obtain rfl : v = 125 := by omega
                  exact d16_125
              · rcases Nat.lt_or_ge v 127 with h16 | h16
                · obtain rfl : v = 126 := by omega
                  exact d16_126
                · obtain rfl : v = 127 := by omega
                  exact d16_127
  · rcases Nat.lt_or_ge v 192 with h4 | h4
    · rcases Nat.lt_or_ge v 160 with h6 | h6
      · rcases Nat.lt_or_ge v 144 with h8 | h8
        · rcases Nat.lt_or_ge v 136 with h10 | h10
          · rcases Nat.lt_or_ge v 132 with h12 | h12
            · rcases Nat.lt_or_ge v 130 with h14 | h14
              · rcases Nat.lt_or_ge v 129 with h16 | h16
                · obtain rfl : v = 128 := by omega
                  exact d16_128
                · obtain rfl : v = 129 := by omega
                  exact d16_129
              · rcases Nat.lt_or_ge v 131 with h16 | h16
                · obtain rfl : v = 130 := by omega
                  exact d16_130
                · obtain rfl : v = 131 := by omega
                  exact d16_131
            · rcases Nat.lt_or_ge v 134 with h14 | h14
              · rcases Nat.lt_or_ge v 133 with h16 | h16
                · obtain rfl : v = 132 := by omega
                  exact d16_132
                · obtain rfl : v = 133 := by omega
                  exact d16_133
              · rcases Nat.lt_or_ge v 135 with h16 | h16
                · obtain rfl : v = 134 := by omega
                  exact d16_134
                · obtain rfl : v = 135 := by omega
                  exact d16_135
          · rcases Nat.lt_or_ge v 140 with h12 | h12
            · rcases Nat.lt_or_ge v 138 with h14 | h14
              · rcases Nat.lt_or_ge v 137 with h16 | h16
                · obtain rfl : v = 136 := by omega
                  exact d16_136
                · obtain rfl : v = 137 := by omega
                  exact d16_137
              · rcases Nat.lt_or_ge v 139 with h16 | h16
                · obtain rfl : v = 138 := by omega
                  exact d16_138
                · obtain rfl : v = 139 := by omega
                  exact d16_139
            · rcases Nat.lt_or_ge v 142 with h14 | h14
              · rcases Nat.lt_or_ge v 141 with h16 | h16
                · obtain rfl : v = 140 := by omega
                  exact d16_140
                · obtain rfl : v = 141 := by omega
                  exact d16_141
              · rcases Nat.lt_or_ge v 143 with h16 | h16
                · obtain rfl : v = 142 := by omega
                  exact d16_142
                · obtain rfl : v = 143 := by omega
                  exact d16_143
        · rcases Nat.lt_or_ge v 152 with h10 | h10
          · rcases Nat.lt_or_ge v 148 with h12 | h12
            · rcases Nat.lt_or_ge v 146 with h14 | h14
              · rcases Nat.lt_or_ge v 145 with h16 | h16
                · obtain rfl : v = 144 := by omega
                  exact d16_144
                · obtain rfl : v = 145 := by omega
                  exact d16_145
              · rcases Nat.lt_or_ge v 147 with h16 | h16
                · obtain rfl : v = 146 := by omega
                  exact d16_146
                · obtain rfl : v = 147 := by omega
                  exact d16_147
            · rcases Nat.lt_or_ge v 150 with h14 | h14
              · rcases Nat.lt_or_ge v 149 with h16 | h16
                · obtain rfl : v = 148 := by omega
                  exact d16_148
                · obtain rfl : v = 149 := by omega
                  exact d16_149
              · rcases Nat.lt_or_ge v 151 with h16 | h16
                · obtain rfl : v = 150 := by omega
                  exact d16_150
                · obtain rfl : v = 151 := by omega
                  exact d16_151
          · rcases Nat.lt_or_ge v 156 with h12 | h12
            · rcases Nat.lt_or_ge v 154 with h14 | h14
              · rcases Nat.lt_or_ge v 153 with h16 | h16
                · obtain rfl : v = 152 := by omega
                  exact d16_152
                · obtain rfl : v = 153 := by omega
                  exact d16_153
              · rcases Nat.lt_or_ge v 155 with h16 | h16
                · obtain rfl : v = 154 := by omega
                  exact d16_154
                · obtain rfl : v = 155 := by omega
                  exact d16_155
            · rcases Nat.lt_or_ge v 158 with h14 | h14
              · rcases Nat.lt_or_ge v 157 with h16 | h16
                · obtain rfl : v = 156 := by omega
                  exact d16_156
                · obtain rfl : v = 157 := by omega
                  exact d16_157
              · rcases Nat.lt_or_ge v 159 with h16 | h16
                · obtain rfl : v = 158 := by omega
                  exact d16_158
                · obtain rfl : v = 159 := by omega
                  exact d16_159
      · rcases Nat.lt_or_ge v 176 with h8 | h8
        · rcases Nat.lt_or_ge v 168 with h10 | h10
          · rcases Nat.lt_or_ge v 164 with h12 | h12
            · rcases Nat.lt_or_ge v 162 with h14 | h14
              · rcases Nat.lt_or_ge v 161 with h16 | h16
                · obtain rfl : v = 160 := by omega
                  exact d16_160
                · obtain rfl : v = 161 := by omega
                  exact d16_161
              · rcases Nat.lt_or_ge v 163 with h16 | h16
                · obtain rfl : v = 162 := by omega
                  exact d16_162
                · obtain rfl : v = 163 := by omega
                  exact d16_163
            · rcases Nat.lt_or_ge v 166 with h14 | h14
              · rcases Nat.lt_or_ge v 165 with h16 | h16
                · obtain rfl : v = 164 := by omega
                  exact d16_164
                · obtain rfl : v = 165 := by omega
                  exact d16_165
              · rcases Nat.lt_or_ge v 167 with h16 | h16
                · obtain rfl : v = 166 := by omega
                  exact d16_166
                · obtain rfl : v = 167 := by omega
                  exact d16_167
          · rcases Nat.lt_or_ge v 172 with h12 | h12
            · rcases Nat.lt_or_ge v 170 with h14 | h14
              · rcases Nat.lt_or_ge v 169 with h16 | h16
                · obtain rfl : v = 168 := by omega
                  exact d16_168
                · obtain rfl : v = 169 := by omega
                  exact d16_169
              · rcases Nat.lt_or_ge v 171 with h16 | h16
                · obtain rfl : v = 170 := by omega
                  exact d16_170
                · obtain rfl : v = 171 := by omega
                  exact d16_171
            · rcases Nat.lt_or_ge v 174 with h14 | h14
              · rcases Nat.lt_or_ge v 173 with h16 | h16
                · obtain rfl : v = 172 := by omega
                  exact d16_172
                · obtain rfl : v = 173 := by omega
                  exact d16_173
              · rcases Nat.lt_or_ge v 175 with h16 | h16
                · obtain rfl : v = 174 := by omega
                  exact d16_174
                · obtain rfl : v = 175 := by omega
                  exact d16_175
        · rcases Nat.lt_or_ge v 184 with h10 | h10
          · rcases Nat.lt_or_ge v 180 with h12 | h12
            · rcases Nat.lt_or_ge v 178 with h14 | h14
              · rcases Nat.lt_or_ge v 177 with h16 | h16
                · obtain rfl : v = 176 := by omega
                  exact d16_176
                · obtain rfl : v = 177 := by omega
                  exact d16_177
              · rcases Nat.lt_or_ge v 179 with h16 | h16
                · obtain rfl : v = 178 := by omega
                  exact d16_178
                · obtain rfl : v = 179 := by omega
                  exact d16_179
            · rcases Nat.lt_or_ge v 182 with h14 | h14
              · rcases Nat.lt_or_ge v 181 with h16 | h16
                · obtain rfl : v = 180 := by omega
                  exact d16_180
                · obtain rfl : v = 181 := by omega
                  exact d16_181
              · rcases Nat.lt_or_ge v 183 with h16 | h16
                · obtain rfl : v = 182 := by omega
                  exact d16_182
                · obtain rfl : v = 183 := by omega
                  exact d16_183
          · rcases Nat.lt_or_ge v 188 with h12 | h12
            · rcases Nat.lt_or_ge v 186 with h14 | h14
              · rcases Nat.lt_or_ge v 185 with h16 | h16
                · obtain rfl : v = 184 := by omega
                  exact d16_184
                · obtain rfl : v = 185 := by omega
                  exact d16_185
              · rcases Nat.lt_or_ge v 187 with h16 | h16
                · obtain rfl : v = 186 := by omega
                  exact d16_186
                · obtain rfl : v = 187 := by omega
                  exact d16_187
            · rcases Nat.lt_or_ge v 190 with h14 | h14
              · rcases Nat.lt_or_ge v 189 with h16 | h16
                · obtain rfl : v = 188 := by omega
                  exact d16_188
                · obtain rfl : v = 189 := by omega
                  exact d16_189
              · rcases Nat.lt_or_ge v 191 with h16 | h16
                · obtain rfl : v = 190 := by omega
                  exact d16_190
                · obtain rfl : v = 191 := by omega
                  exact d16_191
    · rcases Nat.lt_or_ge v 224 with h6 | h6
      · rcases Nat.lt_or_ge v 208 with h8 | h8
        · rcases Nat.lt_or_ge v 200 with h10 | h10
          · rcases Nat.lt_or_ge v 196 with h12 | h12
            · rcases Nat.lt_or_ge v 194 with h14 | h14
              · rcases Nat.lt_or_ge v 193 with h16 | h16
                · obtain rfl : v = 192 := by omega
                  exact d16_192
                · obtain rfl : v = 193 := by omega
                  exact d16_193
              · rcases Nat.lt_or_ge v 195 with h16 | h16
                · obtain rfl : v = 194 := by omega
                  exact d16_194
                · obtain rfl : v = 195 := by omega
                  exact d16_195
            · rcases Nat.lt_or_ge v 198 with h14 | h14
              · rcases Nat.lt_or_ge v 197 with h16 | h16
                · obtain rfl : v = 196 := by omega
                  exact d16_196
                · obtain rfl : v = 197 := by omega
                  exact d16_197
              · rcases Nat.lt_or_ge v 199 with h16 | h16
                · obtain rfl : v = 198 := by omega
                  exact d16_198
                · obtain rfl : v = 199 := by omega
                  exact d16_199
          · rcases Nat.lt_or_ge v 204 with h12 | h12
            · rcases Nat.lt_or_ge v 202 with h14 | h14
              · rcases Nat.lt_or_ge v 201 with h16 | h16
                · obtain rfl : v = 200 := by omega
                  exact d16_200
                · obtain rfl : v = 201 := by omega
                  exact d16_201
              · rcases Nat.lt_or_ge v 203 with h16 | h16
                · obtain rfl : v = 202 := by omega
                  exact d16_202
                · obtain rfl : v = 203 := by omega
                  exact d16_203
            · rcases Nat.lt_or_ge v 206 with h14 | h14
              · rcases Nat.lt_or_ge v 205 with h16 | h16
                · obtain rfl : v = 204 := by omega
                  exact d16_204
                · obtain rfl : v = 205 := by omega
                  exact d16_205
              · rcases Nat.lt_or_ge v 207 with h16 | h16
                · obtain rfl : v = 206 := by omega
                  exact d16_206
                · obtain rfl : v = 207 := by omega
                  exact d16_207
        · rcases Nat.lt_or_ge v 216 with h10 | h10
          · rcases Nat.lt_or_ge v 212 with h12 | h12
            · rcases Nat.lt_or_ge v 210 with h14 | h14
              · rcases Nat.lt_or_ge v 209 with h16 | h16
                · obtain rfl : v = 208 := by omega
                  exact d16_208
                · obtain rfl : v = 209 := by omega
                  exact d16_209
              · rcases Nat.lt_or_ge v 211 with h16 | h16
                · obtain rfl : v = 210 := by omega
                  exact d16_210
                · obtain rfl : v = 211 := by omega
                  exact d16_211
            · rcases Nat.lt_or_ge v 214 with h14 | h14
              · rcases Nat.lt_or_ge v 213 with h16 | h16
                · obtain rfl : v = 212 := by omega
                  exact d16_212
                · obtain rfl : v = 213 := by omega
                  exact d16_213
              · rcases Nat.lt_or_ge v 215 with h16 | h16
                · obtain rfl : v = 214 := by omega
                  exact d16_214
                · obtain rfl : v = 215 := by omega
                  exact d16_215
          · rcases Nat.lt_or_ge v 220 with h12 | h12
            · rcases Nat.lt_or_ge v 218 with h14 | h14
              · rcases Nat.lt_or_ge v 217 with h16 | h16
                · obtain rfl : v = 216 := by omega
                  exact d16_216
                · obtain rfl : v = 217 := by omega
                  exact d16_217
              · rcases Nat.lt_or_ge v 219 with h16 | h16
                · obtain rfl : v = 218 := by omega
                  exact d16_218
                · obtain rfl : v = 219 := by omega
                  exact d16_219
            · rcases Nat.lt_or_ge v 222 with h14 | h14
              · rcases Nat.lt_or_ge v 221 with h16 | h16
                · obtain rfl : v = 220 := by omega
                  exact d16_220
                · obtain rfl : v = 221 := by omega
                  exact d16_221
              · rcases Nat.lt_or_ge v 223 with h16 | h16
                · obtain rfl : v = 222 := by omega
                  exact d16_222
                · obtain rfl : v = 223 := by omega
                  exact d16_223
      · rcases Nat.lt_or_ge v 240 with h8 | h8
        · rcases Nat.lt_or_ge v 232 with h10 | h10
          · rcases Nat.lt_or_ge v 228 with h12 | h12
            · rcases Nat.lt_or_ge v 226 with h14 | h14
              · rcases Nat.lt_or_ge v 225 with h16 | h16
                · obtain rfl : v = 224 := by omega
                  exact d16_224
                · obtain rfl : v = 225 := by omega
                  exact d16_225
              · rcases Nat.lt_or_ge v 227 with h16 | h16
                · obtain rfl : v = 226 := by omega
                  exact d16_226
                · obtain rfl : v = 227 := by omega
                  exact d16_227
            · rcases Nat.lt_or_ge v 230 with h14 | h14
              · rcases Nat.lt_or_ge v 229 with h16 | h16
                · obtain rfl : v = 228 := by omega
                  exact d16_228
                · obtain rfl : v = 229 := by omega
                  exact d16_229
              · rcases Nat.lt_or_ge v 231 with h16 | h16
                · obtain rfl : v = 230 := by omega
                  exact d16_230
                · obtain rfl : v = 231 := by omega
                  exact d16_231
          · rcases Nat.lt_or_ge v 236 with h12 | h12
            · rcases Nat.lt_or_ge v 234 with h14 | h14
              · rcases Nat.lt_or_ge v 233 with h16 | h16
                · obtain rfl : v = 232 := by omega
                  exact d16_232
                · obtain rfl : v = 233 := by omega
                  exact d16_233
              · rcases Nat.lt_or_ge v 235 with h16 | h16
                · obtain rfl : v = 234 := by omega
                  exact d16_234
                · obtain rfl : v = 235 := by omega
                  exact d16_235
            · rcases Nat.lt_or_ge v 238 with h14 | h14
              · rcases Nat.lt_or_ge v 237 with h16 | h16
                · obtain rfl : v = 236 := by omega
                  exact d16_236
                · obtain rfl : v = 237 := by omega
                  exact d16_237
              · rcases Nat.lt_or_ge v 239 with h16 | h16
                · obtain rfl : v = 238 := by omega
                  exact d16_238
                · obtain rfl : v = 239 := by omega
                  exact d16_239
        · rcases Nat.lt_or_ge v 248 with h10 | h10
          · rcases Nat.lt_or_ge v 244 with h12 | h12
            · rcases Nat.lt_or_ge v 242 with h14 | h14
              · rcases Nat.lt_or_ge v 241 with h16 | h16
                · obtain rfl : v = 240 := by omega
                  exact d16_240
                · obtain rfl : v = 241 := by omega
                  exact d16_241
              · rcases Nat.lt_or_ge v 243 with h16 | h16
                · obtain rfl : v = 242 := by omega
                  exact d16_242
                · obtain rfl : v = 243 := by omega
                  exact d16_243
            · rcases Nat.lt_or_ge v 246 with h14 | h14
              · rcases Nat.lt_or_ge v 245 with h16 | h16
                · obtain rfl : v = 244 := by omega
                  exact d16_244
                · obtain rfl : v = 245 := by omega
                  exact d16_245
              · rcases Nat.lt_or_ge v 247 with h16 | h16
                · obtain rfl : v = 246 := by omega
                  exact d16_246
                · obtain rfl : v = 247 := by omega
                  exact d16_247
          · rcases Nat.lt_or_ge v 252 with h12 | h12
            · rcases Nat.lt_or_ge v 250 with h14 | h14
              · rcases Nat.lt_or_ge v 249 with h16 | h16
                · obtain rfl : v = 248 := by omega
                  exact d16_248
                · obtain rfl : v = 249 := by omega
                  exact d16_249
              · rcases Nat.lt_or_ge v 251 with h16 | h16
                · obtain rfl : v = 250 := by omega
                  exact d16_250
                · obtain rfl : v = 251 := by omega
                  exact d16_251
            · rcases Nat.lt_or_ge v 254 with h14 | h14
              · rcases Nat.lt_or_ge v 253 with h16 | h16
                · obtain rfl : v = 252 := by omega
                  exact d16_252
                · obtain rfl : v = 253 := by omega
                  exact d16_253
              · rcases Nat.lt_or_ge v 255 with h16 | h16
                · obtain rfl : v = 254 := by omega
                  exact d16_254
                · obtain rfl : v = 255 := by omega
                  exact d16_255
end Go.Proofs.YtdglgiaegjkinaaDoor
