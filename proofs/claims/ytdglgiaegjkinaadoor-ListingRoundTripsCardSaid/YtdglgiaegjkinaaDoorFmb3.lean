/- Format (the document) at the opcodes 192 to 255. Printed by mkfmt.py. -/
import Derived.Test.YtdglgiaegjkinaaDoorSpc
namespace Go.Proofs.YtdglgiaegjkinaaDoor
open Go Go.Sx
set_option maxRecDepth 100000
theorem f8_192_n : Fmt8 192 none := fun W c b o n cap => by kernel_rfl
theorem f8_192 : FmAll Fmt8 192 := all_none (by kernel_rfl) (by kernel_rfl) f8_192_n
theorem f8_193_n : Fmt8 193 none := fun W c b o n cap => by kernel_rfl
theorem f8_193 : FmAll Fmt8 193 := all_none (by kernel_rfl) (by kernel_rfl) f8_193_n
theorem f8_194_n : Fmt8 194 none := fun W c b o n cap => by kernel_rfl
theorem f8_194 : FmAll Fmt8 194 := all_none (by kernel_rfl) (by kernel_rfl) f8_194_n
theorem f8_195_n : Fmt8 195 none := fun W c b o n cap => by kernel_rfl
theorem f8_195 : FmAll Fmt8 195 := all_none (by kernel_rfl) (by kernel_rfl) f8_195_n
theorem f8_196_n : Fmt8 196 none := fun W c b o n cap => by kernel_rfl
theorem f8_196 : FmAll Fmt8 196 := all_none (by kernel_rfl) (by kernel_rfl) f8_196_n
theorem f8_197_n : Fmt8 197 none := fun W c b o n cap => by kernel_rfl
theorem f8_197 : FmAll Fmt8 197 := all_none (by kernel_rfl) (by kernel_rfl) f8_197_n
theorem f8_198_n : Fmt8 198 none := fun W c b o n cap => by kernel_rfl
theorem f8_198 : FmAll Fmt8 198 := all_none (by kernel_rfl) (by kernel_rfl) f8_198_n
theorem f8_199_n : Fmt8 199 none := fun W c b o n cap => by kernel_rfl
theorem f8_199 : FmAll Fmt8 199 := all_none (by kernel_rfl) (by kernel_rfl) f8_199_n
theorem f8_200_n : Fmt8 200 none := fun W c b o n cap => by kernel_rfl
theorem f8_200 : FmAll Fmt8 200 := all_none (by kernel_rfl) (by kernel_rfl) f8_200_n
theorem f8_201_n : Fmt8 201 none := fun W c b o n cap => by kernel_rfl
theorem f8_201 : FmAll Fmt8 201 := all_none (by kernel_rfl) (by kernel_rfl) f8_201_n
theorem f8_202_n : Fmt8 202 none := fun W c b o n cap => by kernel_rfl
theorem f8_202 : FmAll Fmt8 202 := all_none (by kernel_rfl) (by kernel_rfl) f8_202_n
theorem f8_203_t : Fmt8 203 (some true) := fun W c b o n cap => by kernel_rfl
theorem f8_203_f : Fmt8 203 (some false) := fun W c b o n cap => by kernel_rfl
theorem f8_203 : FmAll Fmt8 203 := all_some f8_203_t f8_203_f
theorem f8_204_n : Fmt8 204 none := fun W c b o n cap => by kernel_rfl
theorem f8_204 : FmAll Fmt8 204 := all_none (by kernel_rfl) (by kernel_rfl) f8_204_n
theorem f8_205_n : Fmt8 205 none := fun W c b o n cap => by kernel_rfl
theorem f8_205 : FmAll Fmt8 205 := all_none (by kernel_rfl) (by kernel_rfl) f8_205_n
theorem f8_206_n : Fmt8 206 none := fun W c b o n cap => by kernel_rfl
theorem f8_206 : FmAll Fmt8 206 := all_none (by kernel_rfl) (by kernel_rfl) f8_206_n
theorem f8_207_n : Fmt8 207 none := fun W c b o n cap => by kernel_rfl
theorem f8_207 : FmAll Fmt8 207 := all_none (by kernel_rfl) (by kernel_rfl) f8_207_n
theorem f8_208_n : Fmt8 208 none := fun W c b o n cap => by kernel_rfl
theorem f8_208 : FmAll Fmt8 208 := all_none (by kernel_rfl) (by kernel_rfl) f8_208_n
theorem f8_209_n : Fmt8 209 none := fun W c b o n cap => by kernel_rfl
theorem f8_209 : FmAll Fmt8 209 := all_none (by kernel_rfl) (by kernel_rfl) f8_209_n
theorem f8_210_n : Fmt8 210 none := fun W c b o n cap => by kernel_rfl
theorem f8_210 : FmAll Fmt8 210 := all_none (by kernel_rfl) (by kernel_rfl) f8_210_n
theorem f8_211_n : Fmt8 211 none := fun W c b o n cap => by kernel_rfl
theorem f8_211 : FmAll Fmt8 211 := all_none (by kernel_rfl) (by kernel_rfl) f8_211_n
theorem f8_212_n : Fmt8 212 none := fun W c b o n cap => by kernel_rfl
theorem f8_212 : FmAll Fmt8 212 := all_none (by kernel_rfl) (by kernel_rfl) f8_212_n
theorem f8_213_n : Fmt8 213 none := fun W c b o n cap => by kernel_rfl
theorem f8_213 : FmAll Fmt8 213 := all_none (by kernel_rfl) (by kernel_rfl) f8_213_n
theorem f8_214_n : Fmt8 214 none := fun W c b o n cap => by kernel_rfl
theorem f8_214 : FmAll Fmt8 214 := all_none (by kernel_rfl) (by kernel_rfl) f8_214_n
theorem f8_215_n : Fmt8 215 none := fun W c b o n cap => by kernel_rfl
theorem f8_215 : FmAll Fmt8 215 := all_none (by kernel_rfl) (by kernel_rfl) f8_215_n
theorem f8_216_n : Fmt8 216 none := fun W c b o n cap => by kernel_rfl
theorem f8_216 : FmAll Fmt8 216 := all_none (by kernel_rfl) (by kernel_rfl) f8_216_n
theorem f8_217_t : Fmt8 217 (some true) := fun W c b o n cap => by kernel_rfl
theorem f8_217_f : Fmt8 217 (some false) := fun W c b o n cap => by kernel_rfl
theorem f8_217 : FmAll Fmt8 217 := all_some f8_217_t f8_217_f
theorem f8_218_n : Fmt8 218 none := fun W c b o n cap => by kernel_rfl
theorem f8_218 : FmAll Fmt8 218 := all_none (by kernel_rfl) (by kernel_rfl) f8_218_n
theorem f8_219_n : Fmt8 219 none := fun W c b o n cap => by kernel_rfl
theorem f8_219 : FmAll Fmt8 219 := all_none (by kernel_rfl) (by kernel_rfl) f8_219_n
theorem f8_220_n : Fmt8 220 none := fun W c b o n cap => by kernel_rfl
theorem f8_220 : FmAll Fmt8 220 := all_none (by kernel_rfl) (by kernel_rfl) f8_220_n
theorem f8_221_t : Fmt8 221 (some true) := fun W c b o n cap => by kernel_rfl
theorem f8_221_f : Fmt8 221 (some false) := fun W c b o n cap => by kernel_rfl
theorem f8_221 : FmAll Fmt8 221 := all_some f8_221_t f8_221_f
theorem f8_222_n : Fmt8 222 none := fun W c b o n cap => by kernel_rfl
theorem f8_222 : FmAll Fmt8 222 := all_none (by kernel_rfl) (by kernel_rfl) f8_222_n
theorem f8_223_n : Fmt8 223 none := fun W c b o n cap => by kernel_rfl
theorem f8_223 : FmAll Fmt8 223 := all_none (by kernel_rfl) (by kernel_rfl) f8_223_n
theorem f8_224_n : Fmt8 224 none := fun W c b o n cap => by kernel_rfl
theorem f8_224 : FmAll Fmt8 224 := all_none (by kernel_rfl) (by kernel_rfl) f8_224_n
theorem f8_225_n : Fmt8 225 none := fun W c b o n cap => by kernel_rfl
theorem f8_225 : FmAll Fmt8 225 := all_none (by kernel_rfl) (by kernel_rfl) f8_225_n
theorem f8_226_n : Fmt8 226 none := fun W c b o n cap => by kernel_rfl
theorem f8_226 : FmAll Fmt8 226 := all_none (by kernel_rfl) (by kernel_rfl) f8_226_n
theorem f8_227_n : Fmt8 227 none := fun W c b o n cap => by kernel_rfl
theorem f8_227 : FmAll Fmt8 227 := all_none (by kernel_rfl) (by kernel_rfl) f8_227_n
theorem f8_228_n : Fmt8 228 none := fun W c b o n cap => by kernel_rfl
theorem f8_228 : FmAll Fmt8 228 := all_none (by kernel_rfl) (by kernel_rfl) f8_228_n
theorem f8_229_n : Fmt8 229 none := fun W c b o n cap => by kernel_rfl
theorem f8_229 : FmAll Fmt8 229 := all_none (by kernel_rfl) (by kernel_rfl) f8_229_n
theorem f8_230_n : Fmt8 230 none := fun W c b o n cap => by kernel_rfl
theorem f8_230 : FmAll Fmt8 230 := all_none (by kernel_rfl) (by kernel_rfl) f8_230_n
theorem f8_231_n : Fmt8 231 none := fun W c b o n cap => by kernel_rfl
theorem f8_231 : FmAll Fmt8 231 := all_none (by kernel_rfl) (by kernel_rfl) f8_231_n
theorem f8_232_n : Fmt8 232 none := fun W c b o n cap => by kernel_rfl
theorem f8_232 : FmAll Fmt8 232 := all_none (by kernel_rfl) (by kernel_rfl) f8_232_n
theorem f8_233_n : Fmt8 233 none := fun W c b o n cap => by kernel_rfl
theorem f8_233 : FmAll Fmt8 233 := all_none (by kernel_rfl) (by kernel_rfl) f8_233_n
theorem f8_234_n : Fmt8 234 none := fun W c b o n cap => by kernel_rfl
theorem f8_234 : FmAll Fmt8 234 := all_none (by kernel_rfl) (by kernel_rfl) f8_234_n
theorem f8_235_n : Fmt8 235 none := fun W c b o n cap => by kernel_rfl
theorem f8_235 : FmAll Fmt8 235 := all_none (by kernel_rfl) (by kernel_rfl) f8_235_n
theorem f8_236_n : Fmt8 236 none := fun W c b o n cap => by kernel_rfl
theorem f8_236 : FmAll Fmt8 236 := all_none (by kernel_rfl) (by kernel_rfl) f8_236_n
theorem f8_237_t : Fmt8 237 (some true) := fun W c b o n cap => by kernel_rfl
theorem f8_237_f : Fmt8 237 (some false) := fun W c b o n cap => by kernel_rfl
theorem f8_237 : FmAll Fmt8 237 := all_some f8_237_t f8_237_f
theorem f8_238_n : Fmt8 238 none := fun W c b o n cap => by kernel_rfl
theorem f8_238 : FmAll Fmt8 238 := all_none (by kernel_rfl) (by kernel_rfl) f8_238_n
theorem f8_239_n : Fmt8 239 none := fun W c b o n cap => by kernel_rfl
theorem f8_239 : FmAll Fmt8 239 := all_none (by kernel_rfl) (by kernel_rfl) f8_239_n
theorem f8_240_n : Fmt8 240 none := fun W c b o n cap => by kernel_rfl
theorem f8_240 : FmAll Fmt8 240 := all_none (by kernel_rfl) (by kernel_rfl) f8_240_n
theorem f8_241_n : Fmt8 241 none := fun W c b o n cap => by kernel_rfl
theorem f8_241 : FmAll Fmt8 241 := all_none (by kernel_rfl) (by kernel_rfl) f8_241_n
theorem f8_242_n : Fmt8 242 none := fun W c b o n cap => by kernel_rfl
theorem f8_242 : FmAll Fmt8 242 := all_none (by kernel_rfl) (by kernel_rfl) f8_242_n
theorem f8_243_n : Fmt8 243 none := fun W c b o n cap => by kernel_rfl
theorem f8_243 : FmAll Fmt8 243 := all_none (by kernel_rfl) (by kernel_rfl) f8_243_n
theorem f8_244_n : Fmt8 244 none := fun W c b o n cap => by kernel_rfl
theorem f8_244 : FmAll Fmt8 244 := all_none (by kernel_rfl) (by kernel_rfl) f8_244_n
theorem f8_245_n : Fmt8 245 none := fun W c b o n cap => by kernel_rfl
theorem f8_245 : FmAll Fmt8 245 := all_none (by kernel_rfl) (by kernel_rfl) f8_245_n
theorem f8_246_n : Fmt8 246 none := fun W c b o n cap => by kernel_rfl
theorem f8_246 : FmAll Fmt8 246 := all_none (by kernel_rfl) (by kernel_rfl) f8_246_n
theorem f8_247_n : Fmt8 247 none := fun W c b o n cap => by kernel_rfl
theorem f8_247 : FmAll Fmt8 247 := all_none (by kernel_rfl) (by kernel_rfl) f8_247_n
theorem f8_248_n : Fmt8 248 none := fun W c b o n cap => by kernel_rfl
theorem f8_248 : FmAll Fmt8 248 := all_none (by kernel_rfl) (by kernel_rfl) f8_248_n
theorem f8_249_n : Fmt8 249 none := fun W c b o n cap => by kernel_rfl
theorem f8_249 : FmAll Fmt8 249 := all_none (by kernel_rfl) (by kernel_rfl) f8_249_n
theorem f8_250_n : Fmt8 250 none := fun W c b o n cap => by kernel_rfl
theorem f8_250 : FmAll Fmt8 250 := all_none (by kernel_rfl) (by kernel_rfl) f8_250_n
theorem f8_251_n : Fmt8 251 none := fun W c b o n cap => by kernel_rfl
theorem f8_251 : FmAll Fmt8 251 := all_none (by kernel_rfl) (by kernel_rfl) f8_251_n
theorem f8_252_n : Fmt8 252 none := fun W c b o n cap => by kernel_rfl
theorem f8_252 : FmAll Fmt8 252 := all_none (by kernel_rfl) (by kernel_rfl) f8_252_n
theorem f8_253_t : Fmt8 253 (some true) := fun W c b o n cap => by kernel_rfl
theorem f8_253_f : Fmt8 253 (some false) := fun W c b o n cap => by kernel_rfl
theorem f8_253 : FmAll Fmt8 253 := all_some f8_253_t f8_253_f
theorem f8_254_n : Fmt8 254 none := fun W c b o n cap => by kernel_rfl
theorem f8_254 : FmAll Fmt8 254 := all_none (by kernel_rfl) (by kernel_rfl) f8_254_n
theorem f8_255_n : Fmt8 255 none := fun W c b o n cap => by kernel_rfl
theorem f8_255 : FmAll Fmt8 255 := all_none (by kernel_rfl) (by kernel_rfl) f8_255_n
theorem f8_192_256 (v : Nat) (h : 192 ≤ v) (h' : v < 256) : FmAll Fmt8 v := by
  rcases Nat.lt_or_ge v 224 with h2 | h2
  · skip
    rcases Nat.lt_or_ge v 208 with h4 | h4
    · skip
      rcases Nat.lt_or_ge v 200 with h6 | h6
      · skip
        rcases Nat.lt_or_ge v 196 with h8 | h8
        · skip
          rcases Nat.lt_or_ge v 194 with h10 | h10
          · skip
            rcases Nat.lt_or_ge v 193 with h12 | h12
            · skip
              obtain rfl : v = 192 := by omega
              exact f8_192
            · skip
              obtain rfl : v = 193 := by omega
              exact f8_193
          · skip
            rcases Nat.lt_or_ge v 195 with h12 | h12
            · skip
              obtain rfl : v = 194 := by omega
              exact f8_194
            · skip
              obtain rfl : v = 195 := by omega
              exact f8_195
        · skip
          rcases Nat.lt_or_ge v 198 with h10 | h10
          · skip
            rcases Nat.lt_or_ge v 197 with h12 | h12
            · skip
              obtain rfl : v = 196 := by omega
              exact f8_196
            · skip
              obtain rfl : v = 197 := by omega
              exact f8_197
          · skip
            rcases Nat.lt_or_ge v 199 with h12 | h12
            · skip
              obtain rfl : v = 198 := by omega
              exact f8_198
            · skip
              obtain rfl : v = 199 := by omega
              exact f8_199
      · skip
        rcases Nat.lt_or_ge v 204 with h8 | h8
        · skip
          rcases Nat.lt_or_ge v 202 with h10 | h10
          · skip
            rcases Nat.lt_or_ge v 201 with h12 | h12
            · skip
              obtain rfl : v = 200 := by omega
              exact f8_200
            · skip
              obtain rfl : v = 201 := by omega
              exact f8_201
          · skip
            rcases Nat.lt_or_ge v 203 with h12 | h12
            · skip
              obtain rfl : v = 202 := by omega
              exact f8_202
            · skip
              obtain rfl : v = 203 := by omega
              exact f8_203
        · skip
          rcases Nat.lt_or_ge v 206 with h10 | h10
          · skip
            rcases Nat.lt_or_ge v 205 with h12 | h12
            · skip
              obtain rfl : v = 204 := by omega
              exact f8_204
            · skip
              obtain rfl : v = 205 := by omega
              exact f8_205
          · skip
            rcases Nat.lt_or_ge v 207 with h12 | h12
            · skip
              obtain rfl : v = 206 := by omega
              exact f8_206
            · skip
              obtain rfl : v = 207 := by omega
              exact f8_207
    · skip
      rcases Nat.lt_or_ge v 216 with h6 | h6
      · skip
        rcases Nat.lt_or_ge v 212 with h8 | h8
        · skip
          rcases Nat.lt_or_ge v 210 with h10 | h10
          · skip
            rcases Nat.lt_or_ge v 209 with h12 | h12
            · skip
              obtain rfl : v = 208 := by omega
              exact f8_208
            · skip
              obtain rfl : v = 209 := by omega
              exact f8_209
          · skip
            rcases Nat.lt_or_ge v 211 with h12 | h12
            · skip
              obtain rfl : v = 210 := by omega
              exact f8_210
            · skip
              obtain rfl : v = 211 := by omega
              exact f8_211
        · skip
          rcases Nat.lt_or_ge v 214 with h10 | h10
          · skip
            rcases Nat.lt_or_ge v 213 with h12 | h12
            · skip
              obtain rfl : v = 212 := by omega
              exact f8_212
            · skip
              obtain rfl : v = 213 := by omega
              exact f8_213
          · skip
            rcases Nat.lt_or_ge v 215 with h12 | h12
            · skip
              obtain rfl : v = 214 := by omega
              exact f8_214
            · skip
              obtain rfl : v = 215 := by omega
              exact f8_215
      · skip
        rcases Nat.lt_or_ge v 220 with h8 | h8
        · skip
          rcases Nat.lt_or_ge v 218 with h10 | h10
          · skip
            rcases Nat.lt_or_ge v 217 with h12 | h12
            · skip
              obtain rfl : v = 216 := by omega
              exact f8_216
            · skip
              obtain rfl : v = 217 := by omega
              exact f8_217
          · skip
            rcases Nat.lt_or_ge v 219 with h12 | h12
            · skip
              obtain rfl : v = 218 := by omega
              exact f8_218
            · skip
              obtain rfl : v = 219 := by omega
              exact f8_219
        · skip
          rcases Nat.lt_or_ge v 222 with h10 | h10
          · skip
            rcases Nat.lt_or_ge v 221 with h12 | h12
            · skip
              obtain rfl : v = 220 := by omega
              exact f8_220
            · skip
              obtain rfl : v = 221 := by omega
              exact f8_221
          · skip
            rcases Nat.lt_or_ge v 223 with h12 | h12
            · skip
              obtain rfl : v = 222 := by omega
              exact f8_222
            · skip
              obtain rfl : v = 223 := by omega
              exact f8_223
  · skip
    rcases Nat.lt_or_ge v 240 with h4 | h4
    · skip
      rcases Nat.lt_or_ge v 232 with h6 | h6
      · skip
        rcases Nat.lt_or_ge v 228 with h8 | h8
        · skip
          rcases Nat.lt_or_ge v 226 with h10 | h10
          · skip
            rcases Nat.lt_or_ge v 225 with h12 | h12
            · skip
              obtain rfl : v = 224 := by omega
              exact f8_224
            · skip
              obtain rfl : v = 225 := by omega
              exact f8_225
          · skip
            rcases Nat.lt_or_ge v 227 with h12 | h12
            · skip
              obtain rfl : v = 226 := by omega
              exact f8_226
            · skip
              obtain rfl : v = 227 := by omega
              exact f8_227
        · skip
          rcases Nat.lt_or_ge v 230 with h10 | h10
          · skip
            rcases Nat.lt_or_ge v 229 with h12 | h12
            · skip
              obtain rfl : v = 228 := by omega
              exact f8_228
            · skip
              obtain rfl : v = 229 := by omega
              exact f8_229
          · skip
            rcases Nat.lt_or_ge v 231 with h12 | h12
            · skip
              obtain rfl : v = 230 := by omega
              exact f8_230
            · skip
              obtain rfl : v = 231 := by omega
              exact f8_231
      · skip
        rcases Nat.lt_or_ge v 236 with h8 | h8
        · skip
          rcases Nat.lt_or_ge v 234 with h10 | h10
          · skip
            rcases Nat.lt_or_ge v 233 with h12 | h12
            · skip
              obtain rfl : v = 232 := by omega
              exact f8_232
            · skip
              obtain rfl : v = 233 := by omega
              exact f8_233
          · skip
            rcases Nat.lt_or_ge v 235 with h12 | h12
            · skip
              obtain rfl : v = 234 := by omega
              exact f8_234
            · skip
              obtain rfl : v = 235 := by omega
              exact f8_235
        · skip
          rcases Nat.lt_or_ge v 238 with h10 | h10
          · skip
            rcases Nat.lt_or_ge v 237 with h12 | h12
            · skip
              obtain rfl : v = 236 := by omega
              exact f8_236
            · skip
              obtain rfl : v = 237 := by omega
              exact f8_237
          · skip
            rcases Nat.lt_or_ge v 239 with h12 | h12
            · skip
              obtain rfl : v = 238 := by omega
              exact f8_238
            · skip
              obtain rfl : v = 239 := by omega
              exact f8_239
    · skip
      rcases Nat.lt_or_ge v 248 with h6 | h6
      · skip
        rcases Nat.lt_or_ge v 244 with h8 | h8
        · skip
          rcases Nat.lt_or_ge v 242 with h10 | h10
          · skip
            rcases Nat.lt_or_ge v 241 with h12 | h12
            · skip
              obtain rfl : v = 240 := by omega
              exact f8_240
            · skip
              obtain rfl : v = 241 := by omega
              exact f8_241
          · skip
            rcases Nat.lt_or_ge v 243 with h12 | h12
            · skip
              obtain rfl : v = 242 := by omega
              exact f8_242
            · skip
              obtain rfl : v = 243 := by omega
              exact f8_243
        · skip
          rcases Nat.lt_or_ge v 246 with h10 | h10
          · skip
            rcases Nat.lt_or_ge v 245 with h12 | h12
            · skip
              obtain rfl : v = 244 := by omega
              exact f8_244
            · skip
              obtain rfl : v = 245 := by omega
              exact f8_245
          · skip
            rcases Nat.lt_or_ge v 247 with h12 | h12
            · skip
              obtain rfl : v = 246 := by omega
              exact f8_246
            · skip
              obtain rfl : v = 247 := by omega
              exact f8_247
      · skip
        rcases Nat.lt_or_ge v 252 with h8 | h8
        · skip
          rcases Nat.lt_or_ge v 250 with h10 | h10
          · skip
            rcases Nat.lt_or_ge v 249 with h12 | h12
            · skip
              obtain rfl : v = 248 := by omega
              exact f8_248
            · skip
              obtain rfl : v = 249 := by omega
              exact f8_249
          · skip
            rcases Nat.lt_or_ge v 251 with h12 | h12
            · skip
              obtain rfl : v = 250 := by omega
              exact f8_250
            · skip
              obtain rfl : v = 251 := by omega
              exact f8_251
        · skip
          rcases Nat.lt_or_ge v 254 with h10 | h10
          · skip
            rcases Nat.lt_or_ge v 253 with h12 | h12
            · skip
              obtain rfl : v = 252 := by omega
              exact f8_252
            · skip
              obtain rfl : v = 253 := by omega
              exact f8_253
          · skip
            rcases Nat.lt_or_ge v 255 with h12 | h12
            · skip
              obtain rfl : v = 254 := by omega
              exact f8_254
            · skip
              obtain rfl : v = 255 := by omega
              exact f8_255
end Go.Proofs.YtdglgiaegjkinaaDoor
