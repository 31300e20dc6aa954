/- Format (listing) at the opcodes 192 to 255. Printed by mkfmt.py. -/
import Derived.Test.YtdglgiaegjkinaaDoorSpc
namespace Go.Proofs.YtdglgiaegjkinaaDoor
open Go Go.Sx
set_option maxRecDepth 100000
theorem f7_192_n : Fmt7 192 none := fun W c b o n cap => by kernel_rfl
theorem f7_192 : FmAll Fmt7 192 := all_none (by kernel_rfl) (by kernel_rfl) f7_192_n
theorem f7_193_n : Fmt7 193 none := fun W c b o n cap => by kernel_rfl
theorem f7_193 : FmAll Fmt7 193 := all_none (by kernel_rfl) (by kernel_rfl) f7_193_n
theorem f7_194_n : Fmt7 194 none := fun W c b o n cap => by kernel_rfl
theorem f7_194 : FmAll Fmt7 194 := all_none (by kernel_rfl) (by kernel_rfl) f7_194_n
theorem f7_195_n : Fmt7 195 none := fun W c b o n cap => by kernel_rfl
theorem f7_195 : FmAll Fmt7 195 := all_none (by kernel_rfl) (by kernel_rfl) f7_195_n
theorem f7_196_n : Fmt7 196 none := fun W c b o n cap => by kernel_rfl
theorem f7_196 : FmAll Fmt7 196 := all_none (by kernel_rfl) (by kernel_rfl) f7_196_n
theorem f7_197_n : Fmt7 197 none := fun W c b o n cap => by kernel_rfl
theorem f7_197 : FmAll Fmt7 197 := all_none (by kernel_rfl) (by kernel_rfl) f7_197_n
theorem f7_198_n : Fmt7 198 none := fun W c b o n cap => by kernel_rfl
theorem f7_198 : FmAll Fmt7 198 := all_none (by kernel_rfl) (by kernel_rfl) f7_198_n
theorem f7_199_n : Fmt7 199 none := fun W c b o n cap => by kernel_rfl
theorem f7_199 : FmAll Fmt7 199 := all_none (by kernel_rfl) (by kernel_rfl) f7_199_n
theorem f7_200_n : Fmt7 200 none := fun W c b o n cap => by kernel_rfl
theorem f7_200 : FmAll Fmt7 200 := all_none (by kernel_rfl) (by kernel_rfl) f7_200_n
theorem f7_201_n : Fmt7 201 none := fun W c b o n cap => by kernel_rfl
theorem f7_201 : FmAll Fmt7 201 := all_none (by kernel_rfl) (by kernel_rfl) f7_201_n
theorem f7_202_n : Fmt7 202 none := fun W c b o n cap => by kernel_rfl
theorem f7_202 : FmAll Fmt7 202 := all_none (by kernel_rfl) (by kernel_rfl) f7_202_n
theorem f7_203_t : Fmt7 203 (some true) := fun W c b o n cap => by kernel_rfl
theorem f7_203_f : Fmt7 203 (some false) := fun W c b o n cap => by kernel_rfl
theorem f7_203 : FmAll Fmt7 203 := all_some f7_203_t f7_203_f
theorem f7_204_n : Fmt7 204 none := fun W c b o n cap => by kernel_rfl
theorem f7_204 : FmAll Fmt7 204 := all_none (by kernel_rfl) (by kernel_rfl) f7_204_n
theorem f7_205_n : Fmt7 205 none := fun W c b o n cap => by kernel_rfl
theorem f7_205 : FmAll Fmt7 205 := all_none (by kernel_rfl) (by kernel_rfl) f7_205_n
theorem f7_206_n : Fmt7 206 none := fun W c b o n cap => by kernel_rfl
theorem f7_206 : FmAll Fmt7 206 := all_none (by kernel_rfl) (by kernel_rfl) f7_206_n
theorem f7_207_n : Fmt7 207 none := fun W c b o n cap => by kernel_rfl
theorem f7_207 : FmAll Fmt7 207 := all_none (by kernel_rfl) (by kernel_rfl) f7_207_n
theorem f7_208_n : Fmt7 208 none := fun W c b o n cap => by kernel_rfl
theorem f7_208 : FmAll Fmt7 208 := all_none (by kernel_rfl) (by kernel_rfl) f7_208_n
theorem f7_209_n : Fmt7 209 none := fun W c b o n cap => by kernel_rfl
theorem f7_209 : FmAll Fmt7 209 := all_none (by kernel_rfl) (by kernel_rfl) f7_209_n
theorem f7_210_n : Fmt7 210 none := fun W c b o n cap => by kernel_rfl
theorem f7_210 : FmAll Fmt7 210 := all_none (by kernel_rfl) (by kernel_rfl) f7_210_n
theorem f7_211_n : Fmt7 211 none := fun W c b o n cap => by kernel_rfl
theorem f7_211 : FmAll Fmt7 211 := all_none (by kernel_rfl) (by kernel_rfl) f7_211_n
theorem f7_212_n : Fmt7 212 none := fun W c b o n cap => by kernel_rfl
theorem f7_212 : FmAll Fmt7 212 := all_none (by kernel_rfl) (by kernel_rfl) f7_212_n
theorem f7_213_n : Fmt7 213 none := fun W c b o n cap => by kernel_rfl
theorem f7_213 : FmAll Fmt7 213 := all_none (by kernel_rfl) (by kernel_rfl) f7_213_n
theorem f7_214_n : Fmt7 214 none := fun W c b o n cap => by kernel_rfl
theorem f7_214 : FmAll Fmt7 214 := all_none (by kernel_rfl) (by kernel_rfl) f7_214_n
theorem f7_215_n : Fmt7 215 none := fun W c b o n cap => by kernel_rfl
theorem f7_215 : FmAll Fmt7 215 := all_none (by kernel_rfl) (by kernel_rfl) f7_215_n
theorem f7_216_n : Fmt7 216 none := fun W c b o n cap => by kernel_rfl
theorem f7_216 : FmAll Fmt7 216 := all_none (by kernel_rfl) (by kernel_rfl) f7_216_n
theorem f7_217_t : Fmt7 217 (some true) := fun W c b o n cap => by kernel_rfl
theorem f7_217_f : Fmt7 217 (some false) := fun W c b o n cap => by kernel_rfl
theorem f7_217 : FmAll Fmt7 217 := all_some f7_217_t f7_217_f
theorem f7_218_n : Fmt7 218 none := fun W c b o n cap => by kernel_rfl
theorem f7_218 : FmAll Fmt7 218 := all_none (by kernel_rfl) (by kernel_rfl) f7_218_n
theorem f7_219_n : Fmt7 219 none := fun W c b o n cap => by kernel_rfl
theorem f7_219 : FmAll Fmt7 219 := all_none (by kernel_rfl) (by kernel_rfl) f7_219_n
theorem f7_220_n : Fmt7 220 none := fun W c b o n cap => by kernel_rfl
theorem f7_220 : FmAll Fmt7 220 := all_none (by kernel_rfl) (by kernel_rfl) f7_220_n
theorem f7_221_t : Fmt7 221 (some true) := fun W c b o n cap => by kernel_rfl
theorem f7_221_f : Fmt7 221 (some false) := fun W c b o n cap => by kernel_rfl
theorem f7_221 : FmAll Fmt7 221 := all_some f7_221_t f7_221_f
theorem f7_222_n : Fmt7 222 none := fun W c b o n cap => by kernel_rfl
theorem f7_222 : FmAll Fmt7 222 := all_none (by kernel_rfl) (by kernel_rfl) f7_222_n
theorem f7_223_n : Fmt7 223 none := fun W c b o n cap => by kernel_rfl
theorem f7_223 : FmAll Fmt7 223 := all_none (by kernel_rfl) (by kernel_rfl) f7_223_n
theorem f7_224_n : Fmt7 224 none := fun W c b o n cap => by kernel_rfl
theorem f7_224 : FmAll Fmt7 224 := all_none (by kernel_rfl) (by kernel_rfl) f7_224_n
theorem f7_225_n : Fmt7 225 none := fun W c b o n cap => by kernel_rfl
theorem f7_225 : FmAll Fmt7 225 := all_none (by kernel_rfl) (by kernel_rfl) f7_225_n
theorem f7_226_n : Fmt7 226 none := fun W c b o n cap => by kernel_rfl
theorem f7_226 : FmAll Fmt7 226 := all_none (by kernel_rfl) (by kernel_rfl) f7_226_n
theorem f7_227_n : Fmt7 227 none := fun W c b o n cap => by kernel_rfl
theorem f7_227 : FmAll Fmt7 227 := all_none (by kernel_rfl) (by kernel_rfl) f7_227_n
theorem f7_228_n : Fmt7 228 none := fun W c b o n cap => by kernel_rfl
theorem f7_228 : FmAll Fmt7 228 := all_none (by kernel_rfl) (by kernel_rfl) f7_228_n
theorem f7_229_n : Fmt7 229 none := fun W c b o n cap => by kernel_rfl
theorem f7_229 : FmAll Fmt7 229 := all_none (by kernel_rfl) (by kernel_rfl) f7_229_n
theorem f7_230_n : Fmt7 230 none := fun W c b o n cap => by kernel_rfl
theorem f7_230 : FmAll Fmt7 230 := all_none (by kernel_rfl) (by kernel_rfl) f7_230_n
theorem f7_231_n : Fmt7 231 none := fun W c b o n cap => by kernel_rfl
theorem f7_231 : FmAll Fmt7 231 := all_none (by kernel_rfl) (by kernel_rfl) f7_231_n
theorem f7_232_n : Fmt7 232 none := fun W c b o n cap => by kernel_rfl
theorem f7_232 : FmAll Fmt7 232 := all_none (by kernel_rfl) (by kernel_rfl) f7_232_n
theorem f7_233_n : Fmt7 233 none := fun W c b o n cap => by kernel_rfl
theorem f7_233 : FmAll Fmt7 233 := all_none (by kernel_rfl) (by kernel_rfl) f7_233_n
theorem f7_234_n : Fmt7 234 none := fun W c b o n cap => by kernel_rfl
theorem f7_234 : FmAll Fmt7 234 := all_none (by kernel_rfl) (by kernel_rfl) f7_234_n
theorem f7_235_n : Fmt7 235 none := fun W c b o n cap => by kernel_rfl
theorem f7_235 : FmAll Fmt7 235 := all_none (by kernel_rfl) (by kernel_rfl) f7_235_n
theorem f7_236_n : Fmt7 236 none := fun W c b o n cap => by kernel_rfl
theorem f7_236 : FmAll Fmt7 236 := all_none (by kernel_rfl) (by kernel_rfl) f7_236_n
theorem f7_237_t : Fmt7 237 (some true) := fun W c b o n cap => by kernel_rfl
theorem f7_237_f : Fmt7 237 (some false) := fun W c b o n cap => by kernel_rfl
theorem f7_237 : FmAll Fmt7 237 := all_some f7_237_t f7_237_f
theorem f7_238_n : Fmt7 238 none := fun W c b o n cap => by kernel_rfl
theorem f7_238 : FmAll Fmt7 238 := all_none (by kernel_rfl) (by kernel_rfl) f7_238_n
theorem f7_239_n : Fmt7 239 none := fun W c b o n cap => by kernel_rfl
theorem f7_239 : FmAll Fmt7 239 := all_none (by kernel_rfl) (by kernel_rfl) f7_239_n
theorem f7_240_n : Fmt7 240 none := fun W c b o n cap => by kernel_rfl
theorem f7_240 : FmAll Fmt7 240 := all_none (by kernel_rfl) (by kernel_rfl) f7_240_n
theorem f7_241_n : Fmt7 241 none := fun W c b o n cap => by kernel_rfl
theorem f7_241 : FmAll Fmt7 241 := all_none (by kernel_rfl) (by kernel_rfl) f7_241_n
theorem f7_242_n : Fmt7 242 none := fun W c b o n cap => by kernel_rfl
theorem f7_242 : FmAll Fmt7 242 := all_none (by kernel_rfl) (by kernel_rfl) f7_242_n
theorem f7_243_n : Fmt7 243 none := fun W c b o n cap => by kernel_rfl
theorem f7_243 : FmAll Fmt7 243 := all_none (by kernel_rfl) (by kernel_rfl) f7_243_n
theorem f7_244_n : Fmt7 244 none := fun W c b o n cap => by kernel_rfl
theorem f7_244 : FmAll Fmt7 244 := all_none (by kernel_rfl) (by kernel_rfl) f7_244_n
theorem f7_245_n : Fmt7 245 none := fun W c b o n cap => by kernel_rfl
theorem f7_245 : FmAll Fmt7 245 := all_none (by kernel_rfl) (by kernel_rfl) f7_245_n
theorem f7_246_n : Fmt7 246 none := fun W c b o n cap => by kernel_rfl
theorem f7_246 : FmAll Fmt7 246 := all_none (by kernel_rfl) (by kernel_rfl) f7_246_n
theorem f7_247_n : Fmt7 247 none := fun W c b o n cap => by kernel_rfl
theorem f7_247 : FmAll Fmt7 247 := all_none (by kernel_rfl) (by kernel_rfl) f7_247_n
theorem f7_248_n : Fmt7 248 none := fun W c b o n cap => by kernel_rfl
theorem f7_248 : FmAll Fmt7 248 := all_none (by kernel_rfl) (by kernel_rfl) f7_248_n
theorem f7_249_n : Fmt7 249 none := fun W c b o n cap => by kernel_rfl
theorem f7_249 : FmAll Fmt7 249 := all_none (by kernel_rfl) (by kernel_rfl) f7_249_n
theorem f7_250_n : Fmt7 250 none := fun W c b o n cap => by kernel_rfl
theorem f7_250 : FmAll Fmt7 250 := all_none (by kernel_rfl) (by kernel_rfl) f7_250_n
theorem f7_251_n : Fmt7 251 none := fun W c b o n cap => by kernel_rfl
theorem f7_251 : FmAll Fmt7 251 := all_none (by kernel_rfl) (by kernel_rfl) f7_251_n
theorem f7_252_n : Fmt7 252 none := fun W c b o n cap => by kernel_rfl
theorem f7_252 : FmAll Fmt7 252 := all_none (by kernel_rfl) (by kernel_rfl) f7_252_n
theorem f7_253_t : Fmt7 253 (some true) := fun W c b o n cap => by kernel_rfl
theorem f7_253_f : Fmt7 253 (some false) := fun W c b o n cap => by kernel_rfl
theorem f7_253 : FmAll Fmt7 253 := all_some f7_253_t f7_253_f
theorem f7_254_n : Fmt7 254 none := fun W c b o n cap => by kernel_rfl
theorem f7_254 : FmAll Fmt7 254 := all_none (by kernel_rfl) (by kernel_rfl) f7_254_n
theorem f7_255_n : Fmt7 255 none := fun W c b o n cap => by kernel_rfl
theorem f7_255 : FmAll Fmt7 255 := all_none (by kernel_rfl) (by kernel_rfl) f7_255_n
theorem f7_192_256 (v : Nat) (h : 192 ≤ v) (h' : v < 256) : FmAll Fmt7 v := by
  rcases Nat.lt_or_ge v 224 with h2 | h2
  · skip
    rcases Nat.lt_or_ge v 208 with h4 | h4
    · skip
      rcases Nat.lt_or_ge v 200 with h6 | h6
      · skip
        rcases Nat.lt_or_ge v 196 with h8 | h8
        · skip
          rcases Nat.lt_or_ge v 194 with h10 | h10
          · skip
            rcases Nat.lt_or_ge v 193 with h12 | h12
            · skip
              obtain rfl : v = 192 := by omega
              exact f7_192
            · skip
              obtain rfl : v = 193 := by omega
              exact f7_193
          · skip
            rcases Nat.lt_or_ge v 195 with h12 | h12
            · skip
              obtain rfl : v = 194 := by omega
              exact f7_194
            · skip
              obtain rfl : v = 195 := by omega
              exact f7_195
        · skip
          rcases Nat.lt_or_ge v 198 with h10 | h10
          · skip
            rcases Nat.lt_or_ge v 197 with h12 | h12
            · skip
              obtain rfl : v = 196 := by omega
              exact f7_196
            · skip
              obtain rfl : v = 197 := by omega
              exact f7_197
          · skip
            rcases Nat.lt_or_ge v 199 with h12 | h12
            · skip
              obtain rfl : v = 198 := by omega
              exact f7_198
            · skip
              obtain rfl : v = 199 := by omega
              exact f7_199
      · skip
        rcases Nat.lt_or_ge v 204 with h8 | h8
        · skip
          rcases Nat.lt_or_ge v 202 with h10 | h10
          · skip
            rcases Nat.lt_or_ge v 201 with h12 | h12
            · skip
              obtain rfl : v = 200 := by omega
              exact f7_200
            · skip
              obtain rfl : v = 201 := by omega
              exact f7_201
          · skip
            rcases Nat.lt_or_ge v 203 with h12 | h12
            · skip
              obtain rfl : v = 202 := by omega
              exact f7_202
            · skip
              obtain rfl : v = 203 := by omega
              exact f7_203
        · skip
          rcases Nat.lt_or_ge v 206 with h10 | h10
          · skip
            rcases Nat.lt_or_ge v 205 with h12 | h12
            · skip
              obtain rfl : v = 204 := by omega
              exact f7_204
            · skip
              obtain rfl : v = 205 := by omega
              exact f7_205
          · skip
            rcases Nat.lt_or_ge v 207 with h12 | h12
            · skip
              obtain rfl : v = 206 := by omega
              exact f7_206
            · skip
              obtain rfl : v = 207 := by omega
              exact f7_207
    · skip
      rcases Nat.lt_or_ge v 216 with h6 | h6
      · skip
        rcases Nat.lt_or_ge v 212 with h8 | h8
        · skip
          rcases Nat.lt_or_ge v 210 with h10 | h10
          · skip
            rcases Nat.lt_or_ge v 209 with h12 | h12
            · skip
              obtain rfl : v = 208 := by omega
              exact f7_208
            · skip
              obtain rfl : v = 209 := by omega
              exact f7_209
          · skip
            rcases Nat.lt_or_ge v 211 with h12 | h12
            · skip
              obtain rfl : v = 210 := by omega
              exact f7_210
            · skip
              obtain rfl : v = 211 := by omega
              exact f7_211
        · skip
          rcases Nat.lt_or_ge v 214 with h10 | h10
          · skip
            rcases Nat.lt_or_ge v 213 with h12 | h12
            · skip
              obtain rfl : v = 212 := by omega
              exact f7_212
            · skip
              obtain rfl : v = 213 := by omega
              exact f7_213
          · skip
            rcases Nat.lt_or_ge v 215 with h12 | h12
            · skip
              obtain rfl : v = 214 := by omega
              exact f7_214
            · skip
              obtain rfl : v = 215 := by omega
              exact f7_215
      · skip
        rcases Nat.lt_or_ge v 220 with h8 | h8
        · skip
          rcases Nat.lt_or_ge v 218 with h10 | h10
          · skip
            rcases Nat.lt_or_ge v 217 with h12 | h12
            · skip
              obtain rfl : v = 216 := by omega
              exact f7_216
            · skip
              obtain rfl : v = 217 := by omega
              exact f7_217
          · skip
            rcases Nat.lt_or_ge v 219 with h12 | h12
            · skip
              obtain rfl : v = 218 := by omega
              exact f7_218
            · skip
              obtain rfl : v = 219 := by omega
              exact f7_219
        · skip
          rcases Nat.lt_or_ge v 222 with h10 | h10
          · skip
            rcases Nat.lt_or_ge v 221 with h12 | h12
            · skip
              obtain rfl : v = 220 := by omega
              exact f7_220
            · skip
              obtain rfl : v = 221 := by omega
              exact f7_221
          · skip
            rcases Nat.lt_or_ge v 223 with h12 | h12
            · skip
              obtain rfl : v = 222 := by omega
              exact f7_222
            · skip
              obtain rfl : v = 223 := by omega
              exact f7_223
  · skip
    rcases Nat.lt_or_ge v 240 with h4 | h4
    · skip
      rcases Nat.lt_or_ge v 232 with h6 | h6
      · skip
        rcases Nat.lt_or_ge v 228 with h8 | h8
        · skip
          rcases Nat.lt_or_ge v 226 with h10 | h10
          · skip
            rcases Nat.lt_or_ge v 225 with h12 | h12
            · skip
              obtain rfl : v = 224 := by omega
              exact f7_224
            · skip
              obtain rfl : v = 225 := by omega
              exact f7_225
          · skip
            rcases Nat.lt_or_ge v 227 with h12 | h12
            · skip
              obtain rfl : v = 226 := by omega
              exact f7_226
            · skip
              obtain rfl : v = 227 := by omega
              exact f7_227
        · skip
          rcases Nat.lt_or_ge v 230 with h10 | h10
          · skip
            rcases Nat.lt_or_ge v 229 with h12 | h12
            · skip
              obtain rfl : v = 228 := by omega
              exact f7_228
            · skip
              obtain rfl : v = 229 := by omega
              exact f7_229
          · skip
            rcases Nat.lt_or_ge v 231 with h12 | h12
            · skip
              obtain rfl : v = 230 := by omega
              exact f7_230
            · skip
              obtain rfl : v = 231 := by omega
              exact f7_231
      · skip
        rcases Nat.lt_or_ge v 236 with h8 | h8
        · skip
          rcases Nat.lt_or_ge v 234 with h10 | h10
          · skip
            rcases Nat.lt_or_ge v 233 with h12 | h12
            · skip
              obtain rfl : v = 232 := by omega
              exact f7_232
            · skip
              obtain rfl : v = 233 := by omega
              exact f7_233
          · skip
            rcases Nat.lt_or_ge v 235 with h12 | h12
            · skip
              obtain rfl : v = 234 := by omega
              exact f7_234
            · skip
              obtain rfl : v = 235 := by omega
              exact f7_235
        · skip
          rcases Nat.lt_or_ge v 238 with h10 | h10
          · skip
            rcases Nat.lt_or_ge v 237 with h12 | h12
            · skip
              obtain rfl : v = 236 := by omega
              exact f7_236
            · skip
              obtain rfl : v = 237 := by omega
              exact f7_237
          · skip
            rcases Nat.lt_or_ge v 239 with h12 | h12
            · skip
              obtain rfl : v = 238 := by omega
              exact f7_238
            · skip
              obtain rfl : v = 239 := by omega
              exact f7_239
    · skip
      rcases Nat.lt_or_ge v 248 with h6 | h6
      · skip
        rcases Nat.lt_or_ge v 244 with h8 | h8
        · skip
          rcases Nat.lt_or_ge v 242 with h10 | h10
          · skip
            rcases Nat.lt_or_ge v 241 with h12 | h12
            · skip
              obtain rfl : v = 240 := by omega
              exact f7_240
            · skip
              obtain rfl : v = 241 := by omega
              exact f7_241
          · skip
            rcases Nat.lt_or_ge v 243 with h12 | h12
            · skip
              obtain rfl : v = 242 := by omega
              exact f7_242
            · skip
              obtain rfl : v = 243 := by omega
              exact f7_243
        · skip
          rcases Nat.lt_or_ge v 246 with h10 | h10
          · skip
            rcases Nat.lt_or_ge v 245 with h12 | h12
            · skip
              obtain rfl : v = 244 := by omega
              exact f7_244
            · skip
              obtain rfl : v = 245 := by omega
              exact f7_245
          · skip
            rcases Nat.lt_or_ge v 247 with h12 | h12
            · skip
              obtain rfl : v = 246 := by omega
              exact f7_246
            · skip
              obtain rfl : v = 247 := by omega
              exact f7_247
      · skip
        rcases Nat.lt_or_ge v 252 with h8 | h8
        · skip
          rcases Nat.lt_or_ge v 250 with h10 | h10
          · skip
            rcases Nat.lt_or_ge v 249 with h12 | h12
            · skip
              obtain rfl : v = 248 := by omega
              exact f7_248
            · skip
              obtain rfl : v = 249 := by omega
              exact f7_249
          · skip
            rcases Nat.lt_or_ge v 251 with h12 | h12
            · skip
              obtain rfl : v = 250 := by omega
              exact f7_250
            · skip
              obtain rfl : v = 251 := by omega
              exact f7_251
        · skip
          rcases Nat.lt_or_ge v 254 with h10 | h10
          · skip
            rcases Nat.lt_or_ge v 253 with h12 | h12
            · skip
              obtain rfl : v = 252 := by omega
              exact f7_252
            · skip
              obtain rfl : v = 253 := by omega
              exact f7_253
          · skip
            rcases Nat.lt_or_ge v 255 with h12 | h12
            · skip
              obtain rfl : v = 254 := by omega
              exact f7_254
            · skip
              obtain rfl : v = 255 := by omega
              exact f7_255
end Go.Proofs.YtdglgiaegjkinaaDoor
