/- text (the document): what it comes to at an instruction. (Several texts in one.) -/
import Derived.Test.YtdglgiaegjkinaaDoorFmt
import Derived.Test.YtdglgiaegjkinaaDoorRz
namespace Go.Proofs.YtdglgiaegjkinaaDoor
open Go Go.Sx
set_option maxRecDepth 100000
noncomputable def rTx (W : World) (l : List Int) (x y : Int) : R := nbR Tryd.prog W [(42, specV FH9)] 20 [.agg (l.map fun n => .int .i64 (.lit n)), .one (.int .u8 (.sym x)), .one (.int .u8 (.sym y))]
def TxtOk (v : Nat) : Prop := ∀ W x y, gY (rTx W (ins true v) x y) = some (.one (.str (txt (tabK true v).1 (tabK true v).2 x y)), tl8 (tabK true v).2 x y)
/-- The text's parts, of the instruction itself. -/
def sameI : List Int → List Int → Bool
  | [], [] => true
  | a :: l, b :: m => match decide (a = b) with
    | true => sameI l m
    | false => false
  | _, _ => false
theorem sameI_eq : ∀ {l m : List Int}, sameI l m = true → l = m
  | [], [], _ => rfl
  | [], _ :: _, h => by cases h
  | _ :: _, [], h => by cases h
  | a :: l, b :: m, h => by
    unfold sameI at h
    split at h
    · rename_i h1
      rw [of_decide_eq_true h1, sameI_eq h]
    · cases h
def findI (l : List Int) : List (List Int) → List (Nat × List Nat) → Nat × List Nat
  | d :: ds, t :: ts => match sameI l d with
    | true => t
    | false => findI l ds ts
  | _, _ => (0, [])
def tabI (l : List Int) : Nat × List Nat := findI l dec85 tab85
def sameT (q r : Nat × List Nat) : Bool := Nat.beq q.1 r.1 && decide (q.2 = r.2)
theorem tabI_all : ((List.zip (dec85 ++ dec80) (tab85 ++ tab80)).all fun p => sameT (tabI p.1) p.2) = true := by kernel_rfl
def memI (l : List Int) : List (List Int) → Bool
  | [] => false
  | d :: ds => match sameI l d with
    | true => true
    | false => memI l ds
theorem mem_all : ((dec85 ++ dec80).all fun l => memI l dec85) = true := by kernel_rfl
end Go.Proofs.YtdglgiaegjkinaaDoor

/- text (the document) at the instructions 0 to 127. Printed by mktx.py. -/

namespace Go.Proofs.YtdglgiaegjkinaaDoor
open Go Go.Sx
set_option maxRecDepth 100000
theorem tx_0 : TxtOk 0 := fun W x y => by kernel_rfl
theorem tx_1 : TxtOk 1 := fun W x y => by kernel_rfl
theorem tx_2 : TxtOk 2 := fun W x y => by kernel_rfl
theorem tx_3 : TxtOk 3 := fun W x y => by kernel_rfl
theorem tx_4 : TxtOk 4 := fun W x y => by kernel_rfl
theorem tx_5 : TxtOk 5 := fun W x y => by kernel_rfl
theorem tx_6 : TxtOk 6 := fun W x y => by kernel_rfl
theorem tx_7 : TxtOk 7 := fun W x y => by kernel_rfl
theorem tx_8 : TxtOk 8 := fun W x y => by kernel_rfl
theorem tx_9 : TxtOk 9 := fun W x y => by kernel_rfl
theorem tx_10 : TxtOk 10 := fun W x y => by kernel_rfl
theorem tx_11 : TxtOk 11 := fun W x y => by kernel_rfl
theorem tx_12 : TxtOk 12 := fun W x y => by kernel_rfl
theorem tx_13 : TxtOk 13 := fun W x y => by kernel_rfl
theorem tx_14 : TxtOk 14 := fun W x y => by kernel_rfl
theorem tx_15 : TxtOk 15 := fun W x y => by kernel_rfl
theorem tx_16 : TxtOk 16 := fun W x y => by kernel_rfl
theorem tx_17 : TxtOk 17 := fun W x y => by kernel_rfl
theorem tx_18 : TxtOk 18 := fun W x y => by kernel_rfl
theorem tx_19 : TxtOk 19 := fun W x y => by kernel_rfl
theorem tx_20 : TxtOk 20 := fun W x y => by kernel_rfl
theorem tx_21 : TxtOk 21 := fun W x y => by kernel_rfl
theorem tx_22 : TxtOk 22 := fun W x y => by kernel_rfl
theorem tx_23 : TxtOk 23 := fun W x y => by kernel_rfl
theorem tx_24 : TxtOk 24 := fun W x y => by kernel_rfl
theorem tx_25 : TxtOk 25 := fun W x y => by kernel_rfl
theorem tx_26 : TxtOk 26 := fun W x y => by kernel_rfl
theorem tx_27 : TxtOk 27 := fun W x y => by kernel_rfl
theorem tx_28 : TxtOk 28 := fun W x y => by kernel_rfl
theorem tx_29 : TxtOk 29 := fun W x y => by kernel_rfl
theorem tx_30 : TxtOk 30 := fun W x y => by kernel_rfl
theorem tx_31 : TxtOk 31 := fun W x y => by kernel_rfl
theorem tx_32 : TxtOk 32 := fun W x y => by kernel_rfl
theorem tx_33 : TxtOk 33 := fun W x y => by kernel_rfl
theorem tx_34 : TxtOk 34 := fun W x y => by kernel_rfl
theorem tx_35 : TxtOk 35 := fun W x y => by kernel_rfl
theorem tx_36 : TxtOk 36 := fun W x y => by kernel_rfl
theorem tx_37 : TxtOk 37 := fun W x y => by kernel_rfl
theorem tx_38 : TxtOk 38 := fun W x y => by kernel_rfl
theorem tx_39 : TxtOk 39 := fun W x y => by kernel_rfl
theorem tx_40 : TxtOk 40 := fun W x y => by kernel_rfl
theorem tx_41 : TxtOk 41 := fun W x y => by kernel_rfl
theorem tx_42 : TxtOk 42 := fun W x y => by kernel_rfl
theorem tx_43 : TxtOk 43 := fun W x y => by kernel_rfl
theorem tx_44 : TxtOk 44 := fun W x y => by kernel_rfl
theorem tx_45 : TxtOk 45 := fun W x y => by kernel_rfl
theorem tx_46 : TxtOk 46 := fun W x y => by kernel_rfl
theorem tx_47 : TxtOk 47 := fun W x y => by kernel_rfl
theorem tx_48 : TxtOk 48 := fun W x y => by kernel_rfl
theorem tx_49 : TxtOk 49 := fun W x y => by kernel_rfl
theorem tx_50 : TxtOk 50 := fun W x y => by kernel_rfl
theorem tx_51 : TxtOk 51 := fun W x y => by kernel_rfl
theorem tx_52 : TxtOk 52 := fun W x y => by kernel_rfl
theorem tx_53 : TxtOk 53 := fun W x y => by kernel_rfl
theorem tx_54 : TxtOk 54 := fun W x y => by kernel_rfl
theorem tx_55 : TxtOk 55 := fun W x y => by kernel_rfl
theorem tx_56 : TxtOk 56 := fun W x y => by kernel_rfl
theorem tx_57 : TxtOk 57 := fun W x y => by kernel_rfl
theorem tx_58 : TxtOk 58 := fun W x y => by kernel_rfl
theorem tx_59 : TxtOk 59 := fun W x y => by kernel_rfl
theorem tx_60 : TxtOk 60 := fun W x y => by kernel_rfl
theorem tx_61 : TxtOk 61 := fun W x y => by kernel_rfl
theorem tx_62 : TxtOk 62 := fun W x y => by kernel_rfl
theorem tx_63 : TxtOk 63 := fun W x y => by kernel_rfl
theorem tx_64 : TxtOk 64 := fun W x y => by kernel_rfl
theorem tx_65 : TxtOk 65 := fun W x y => by kernel_rfl
theorem tx_66 : TxtOk 66 := fun W x y => by kernel_rfl
theorem tx_67 : TxtOk 67 := fun W x y => by kernel_rfl
theorem tx_68 : TxtOk 68 := fun W x y => by kernel_rfl
theorem tx_69 : TxtOk 69 := fun W x y => by kernel_rfl
theorem tx_70 : TxtOk 70 := fun W x y => by kernel_rfl
theorem tx_71 : TxtOk 71 := fun W x y => by kernel_rfl
theorem tx_72 : TxtOk 72 := fun W x y => by kernel_rfl
theorem tx_73 : TxtOk 73 := fun W x y => by kernel_rfl
theorem tx_74 : TxtOk 74 := fun W x y => by kernel_rfl
theorem tx_75 : TxtOk 75 := fun W x y => by kernel_rfl
theorem tx_76 : TxtOk 76 := fun W x y => by kernel_rfl
theorem tx_77 : TxtOk 77 := fun W x y => by kernel_rfl
theorem tx_78 : TxtOk 78 := fun W x y => by kernel_rfl
theorem tx_79 : TxtOk 79 := fun W x y => by kernel_rfl
theorem tx_80 : TxtOk 80 := fun W x y => by kernel_rfl
theorem tx_81 : TxtOk 81 := fun W x y => by kernel_rfl
theorem tx_82 : TxtOk 82 := fun W x y => by kernel_rfl
theorem tx_83 : TxtOk 83 := fun W x y => by kernel_rfl
theorem tx_84 : TxtOk 84 := fun W x y => by kernel_rfl
theorem tx_85 : TxtOk 85 := fun W x y => by kernel_rfl
theorem tx_86 : TxtOk 86 := fun W x y => by kernel_rfl
theorem tx_87 : TxtOk 87 := fun W x y => by kernel_rfl
theorem tx_88 : TxtOk 88 := fun W x y => by kernel_rfl
theorem tx_89 : TxtOk 89 := fun W x y => by kernel_rfl
theorem tx_90 : TxtOk 90 := fun W x y => by kernel_rfl
theorem tx_91 : TxtOk 91 := fun W x y => by kernel_rfl
theorem tx_92 : TxtOk 92 := fun W x y => by kernel_rfl
theorem tx_93 : TxtOk 93 := fun W x y => by kernel_rfl
theorem tx_94 : TxtOk 94 := fun W x y => by kernel_rfl
theorem tx_95 : TxtOk 95 := fun W x y => by kernel_rfl
theorem tx_96 : TxtOk 96 := fun W x y => by kernel_rfl
theorem tx_97 : TxtOk 97 := fun W x y => by kernel_rfl
theorem tx_98 : TxtOk 98 := fun W x y => by kernel_rfl
theorem tx_99 : TxtOk 99 := fun W x y => by kernel_rfl
theorem tx_100 : TxtOk 100 := fun W x y => by kernel_rfl
theorem tx_101 : TxtOk 101 := fun W x y => by kernel_rfl
theorem tx_102 : TxtOk 102 := fun W x y => by kernel_rfl
theorem tx_103 : TxtOk 103 := fun W x y => by kernel_rfl
theorem tx_104 : TxtOk 104 := fun W x y => by kernel_rfl
theorem tx_105 : TxtOk 105 := fun W x y => by kernel_rfl
theorem tx_106 : TxtOk 106 := fun W x y => by kernel_rfl
theorem tx_107 : TxtOk 107 := fun W x y => by kernel_rfl
theorem tx_108 : TxtOk 108 := fun W x y => by kernel_rfl
theorem tx_109 : TxtOk 109 := fun W x y => by kernel_rfl
theorem tx_110 : TxtOk 110 := fun W x y => by kernel_rfl
theorem tx_111 : TxtOk 111 := fun W x y => by kernel_rfl
theorem tx_112 : TxtOk 112 := fun W x y => by kernel_rfl
theorem tx_113 : TxtOk 113 := fun W x y => by kernel_rfl
theorem tx_114 : TxtOk 114 := fun W x y => by kernel_rfl
theorem tx_115 : TxtOk 115 := fun W x y => by kernel_rfl
theorem tx_116 : TxtOk 116 := fun W x y => by kernel_rfl
theorem tx_117 : TxtOk 117 := fun W x y => by kernel_rfl
theorem tx_118 : TxtOk 118 := fun W x y => by kernel_rfl
theorem tx_119 : TxtOk 119 := fun W x y => by kernel_rfl
theorem tx_120 : TxtOk 120 := fun W x y => by kernel_rfl
theorem tx_121 : TxtOk 121 := fun W x y => by kernel_rfl
theorem tx_122 : TxtOk 122 := fun W x y => by kernel_rfl
theorem tx_123 : TxtOk 123 := fun W x y => by kernel_rfl
theorem tx_124 : TxtOk 124 := fun W x y => by kernel_rfl
theorem tx_125 : TxtOk 125 := fun W x y => by kernel_rfl
theorem tx_126 : TxtOk 126 := fun W x y => by kernel_rfl
theorem tx_127 : TxtOk 127 := fun W x y => by kernel_rfl
end Go.Proofs.YtdglgiaegjkinaaDoor

/- text (the document) at the instructions 128 to 255. Printed by mktx.py. -/

namespace Go.Proofs.YtdglgiaegjkinaaDoor
open Go Go.Sx
set_option maxRecDepth 100000
theorem tx_128 : TxtOk 128 := fun W x y => by kernel_rfl
theorem tx_129 : TxtOk 129 := fun W x y => by kernel_rfl
theorem tx_130 : TxtOk 130 := fun W x y => by kernel_rfl
theorem tx_131 : TxtOk 131 := fun W x y => by kernel_rfl
theorem tx_132 : TxtOk 132 := fun W x y => by kernel_rfl
theorem tx_133 : TxtOk 133 := fun W x y => by kernel_rfl
theorem tx_134 : TxtOk 134 := fun W x y => by kernel_rfl
theorem tx_135 : TxtOk 135 := fun W x y => by kernel_rfl
theorem tx_136 : TxtOk 136 := fun W x y => by kernel_rfl
theorem tx_137 : TxtOk 137 := fun W x y => by kernel_rfl
theorem tx_138 : TxtOk 138 := fun W x y => by kernel_rfl
theorem tx_139 : TxtOk 139 := fun W x y => by kernel_rfl
theorem tx_140 : TxtOk 140 := fun W x y => by kernel_rfl
theorem tx_141 : TxtOk 141 := fun W x y => by kernel_rfl
theorem tx_142 : TxtOk 142 := fun W x y => by kernel_rfl
theorem tx_143 : TxtOk 143 := fun W x y => by kernel_rfl
theorem tx_144 : TxtOk 144 := fun W x y => by kernel_rfl
theorem tx_145 : TxtOk 145 := fun W x y => by kernel_rfl
theorem tx_146 : TxtOk 146 := fun W x y => by kernel_rfl
theorem tx_147 : TxtOk 147 := fun W x y => by kernel_rfl
theorem tx_148 : TxtOk 148 := fun W x y => by kernel_rfl
theorem tx_149 : TxtOk 149 := fun W x y => by kernel_rfl
theorem tx_150 : TxtOk 150 := fun W x y => by kernel_rfl
theorem tx_151 : TxtOk 151 := fun W x y => by kernel_rfl
theorem tx_152 : TxtOk 152 := fun W x y => by kernel_rfl
theorem tx_153 : TxtOk 153 := fun W x y => by kernel_rfl
theorem tx_154 : TxtOk 154 := fun W x y => by kernel_rfl
theorem tx_155 : TxtOk 155 := fun W x y => by kernel_rfl
theorem tx_156 : TxtOk 156 := fun W x y => by kernel_rfl
theorem tx_157 : TxtOk 157 := fun W x y => by kernel_rfl
theorem tx_158 : TxtOk 158 := fun W x y => by kernel_rfl
theorem tx_159 : TxtOk 159 := fun W x y => by kernel_rfl
theorem tx_160 : TxtOk 160 := fun W x y => by kernel_rfl
theorem tx_161 : TxtOk 161 := fun W x y => by kernel_rfl
theorem tx_162 : TxtOk 162 := fun W x y => by kernel_rfl
theorem tx_163 : TxtOk 163 := fun W x y => by kernel_rfl
theorem tx_164 : TxtOk 164 := fun W x y => by kernel_rfl
theorem tx_165 : TxtOk 165 := fun W x y => by kernel_rfl
theorem tx_166 : TxtOk 166 := fun W x y => by kernel_rfl
theorem tx_167 : TxtOk 167 := fun W x y => by kernel_rfl
theorem tx_168 : TxtOk 168 := fun W x y => by kernel_rfl
theorem tx_169 : TxtOk 169 := fun W x y => by kernel_rfl
theorem tx_170 : TxtOk 170 := fun W x y => by kernel_rfl
theorem tx_171 : TxtOk 171 := fun W x y => by kernel_rfl
theorem tx_172 : TxtOk 172 := fun W x y => by kernel_rfl
theorem tx_173 : TxtOk 173 := fun W x y => by kernel_rfl
theorem tx_174 : TxtOk 174 := fun W x y => by kernel_rfl
theorem tx_175 : TxtOk 175 := fun W x y => by kernel_rfl
theorem tx_176 : TxtOk 176 := fun W x y => by kernel_rfl
theorem tx_177 : TxtOk 177 := fun W x y => by kernel_rfl
theorem tx_178 : TxtOk 178 := fun W x y => by kernel_rfl
theorem tx_179 : TxtOk 179 := fun W x y => by kernel_rfl
theorem tx_180 : TxtOk 180 := fun W x y => by kernel_rfl
theorem tx_181 : TxtOk 181 := fun W x y => by kernel_rfl
theorem tx_182 : TxtOk 182 := fun W x y => by kernel_rfl
theorem tx_183 : TxtOk 183 := fun W x y => by kernel_rfl
theorem tx_184 : TxtOk 184 := fun W x y => by kernel_rfl
theorem tx_185 : TxtOk 185 := fun W x y => by kernel_rfl
theorem tx_186 : TxtOk 186 := fun W x y => by kernel_rfl
theorem tx_187 : TxtOk 187 := fun W x y => by kernel_rfl
theorem tx_188 : TxtOk 188 := fun W x y => by kernel_rfl
theorem tx_189 : TxtOk 189 := fun W x y => by kernel_rfl
theorem tx_190 : TxtOk 190 := fun W x y => by kernel_rfl
theorem tx_191 : TxtOk 191 := fun W x y => by kernel_rfl
theorem tx_192 : TxtOk 192 := fun W x y => by kernel_rfl
theorem tx_193 : TxtOk 193 := fun W x y => by kernel_rfl
theorem tx_194 : TxtOk 194 := fun W x y => by kernel_rfl
theorem tx_195 : TxtOk 195 := fun W x y => by kernel_rfl
theorem tx_196 : TxtOk 196 := fun W x y => by kernel_rfl
theorem tx_197 : TxtOk 197 := fun W x y => by kernel_rfl
theorem tx_198 : TxtOk 198 := fun W x y => by kernel_rfl
theorem tx_199 : TxtOk 199 := fun W x y => by kernel_rfl
theorem tx_200 : TxtOk 200 := fun W x y => by kernel_rfl
theorem tx_201 : TxtOk 201 := fun W x y => by kernel_rfl
theorem tx_202 : TxtOk 202 := fun W x y => by kernel_rfl
theorem tx_203 : TxtOk 203 := fun W x y => by kernel_rfl
theorem tx_204 : TxtOk 204 := fun W x y => by kernel_rfl
theorem tx_205 : TxtOk 205 := fun W x y => by kernel_rfl
theorem tx_206 : TxtOk 206 := fun W x y => by kernel_rfl
theorem tx_207 : TxtOk 207 := fun W x y => by kernel_rfl
theorem tx_208 : TxtOk 208 := fun W x y => by kernel_rfl
theorem tx_209 : TxtOk 209 := fun W x y => by kernel_rfl
theorem tx_210 : TxtOk 210 := fun W x y => by kernel_rfl
theorem tx_211 : TxtOk 211 := fun W x y => by kernel_rfl
theorem tx_212 : TxtOk 212 := fun W x y => by kernel_rfl
theorem tx_213 : TxtOk 213 := fun W x y => by kernel_rfl
theorem tx_214 : TxtOk 214 := fun W x y => by kernel_rfl
theorem tx_215 : TxtOk 215 := fun W x y => by kernel_rfl
theorem tx_216 : TxtOk 216 := fun W x y => by kernel_rfl
theorem tx_217 : TxtOk 217 := fun W x y => by kernel_rfl
theorem tx_218 : TxtOk 218 := fun W x y => by kernel_rfl
theorem tx_219 : TxtOk 219 := fun W x y => by kernel_rfl
theorem tx_220 : TxtOk 220 := fun W x y => by kernel_rfl
theorem tx_221 : TxtOk 221 := fun W x y => by kernel_rfl
theorem tx_222 : TxtOk 222 := fun W x y => by kernel_rfl
theorem tx_223 : TxtOk 223 := fun W x y => by kernel_rfl
theorem tx_224 : TxtOk 224 := fun W x y => by kernel_rfl
theorem tx_225 : TxtOk 225 := fun W x y => by kernel_rfl
theorem tx_226 : TxtOk 226 := fun W x y => by kernel_rfl
theorem tx_227 : TxtOk 227 := fun W x y => by kernel_rfl
theorem tx_228 : TxtOk 228 := fun W x y => by kernel_rfl
theorem tx_229 : TxtOk 229 := fun W x y => by kernel_rfl
theorem tx_230 : TxtOk 230 := fun W x y => by kernel_rfl
theorem tx_231 : TxtOk 231 := fun W x y => by kernel_rfl
theorem tx_232 : TxtOk 232 := fun W x y => by kernel_rfl
theorem tx_233 : TxtOk 233 := fun W x y => by kernel_rfl
theorem tx_234 : TxtOk 234 := fun W x y => by kernel_rfl
theorem tx_235 : TxtOk 235 := fun W x y => by kernel_rfl
theorem tx_236 : TxtOk 236 := fun W x y => by kernel_rfl
theorem tx_237 : TxtOk 237 := fun W x y => by kernel_rfl
theorem tx_238 : TxtOk 238 := fun W x y => by kernel_rfl
theorem tx_239 : TxtOk 239 := fun W x y => by kernel_rfl
theorem tx_240 : TxtOk 240 := fun W x y => by kernel_rfl
theorem tx_241 : TxtOk 241 := fun W x y => by kernel_rfl
theorem tx_242 : TxtOk 242 := fun W x y => by kernel_rfl
theorem tx_243 : TxtOk 243 := fun W x y => by kernel_rfl
theorem tx_244 : TxtOk 244 := fun W x y => by kernel_rfl
theorem tx_245 : TxtOk 245 := fun W x y => by kernel_rfl
theorem tx_246 : TxtOk 246 := fun W x y => by kernel_rfl
theorem tx_247 : TxtOk 247 := fun W x y => by kernel_rfl
theorem tx_248 : TxtOk 248 := fun W x y => by kernel_rfl
theorem tx_249 : TxtOk 249 := fun W x y => by kernel_rfl
theorem tx_250 : TxtOk 250 := fun W x y => by kernel_rfl
theorem tx_251 : TxtOk 251 := fun W x y => by kernel_rfl
theorem tx_252 : TxtOk 252 := fun W x y => by kernel_rfl
theorem tx_253 : TxtOk 253 := fun W x y => by kernel_rfl
theorem tx_254 : TxtOk 254 := fun W x y => by kernel_rfl
theorem tx_255 : TxtOk 255 := fun W x y => by kernel_rfl
end Go.Proofs.YtdglgiaegjkinaaDoor

/- text (the document): its contract. The cases below are printed by mktx.py. -/

namespace Go.Proofs.YtdglgiaegjkinaaDoor
open Go Go.Sx
set_option maxRecDepth 100000
theorem tx_all (v : Nat) (hv : v < 256) : TxtOk v := by
  rcases Nat.lt_or_ge v 128 with h | h
  · rcases Nat.lt_or_ge v 64 with h | h
    · rcases Nat.lt_or_ge v 32 with h | h
      · rcases Nat.lt_or_ge v 16 with h | h
        · rcases Nat.lt_or_ge v 8 with h | h
          · rcases Nat.lt_or_ge v 4 with h | h
            · rcases Nat.lt_or_ge v 2 with h | h
              · rcases Nat.lt_or_ge v 1 with h | h
                · obtain rfl : v = 0 := by omega
                  exact tx_0
                · obtain rfl : v = 1 := by omega
                  exact tx_1
              · rcases Nat.lt_or_ge v 3 with h | h
                · obtain rfl : v = 2 := by omega
                  exact tx_2
                · obtain rfl : v = 3 := by omega
                  exact tx_3
            · rcases Nat.lt_or_ge v 6 with h | h
              · rcases Nat.lt_or_ge v 5 with h | h
                · obtain rfl : v = 4 := by omega
                  exact tx_4
                · obtain rfl : v = 5 := by omega
                  exact tx_5
              · rcases Nat.lt_or_ge v 7 with h | h
                · obtain rfl : v = 6 := by omega
                  exact tx_6
                · obtain rfl : v = 7 := by omega
                  exact tx_7
          · rcases Nat.lt_or_ge v 12 with h | h
            · rcases Nat.lt_or_ge v 10 with h | h
              · rcases Nat.lt_or_ge v 9 with h | h
                · obtain rfl : v = 8 := by omega
                  exact tx_8
                · obtain rfl : v = 9 := by omega
                  exact tx_9
              · rcases Nat.lt_or_ge v 11 with h | h
                · obtain rfl : v = 10 := by omega
                  exact tx_10
                · obtain rfl : v = 11 := by omega
                  exact tx_11
            · rcases Nat.lt_or_ge v 14 with h | h
              · rcases Nat.lt_or_ge v 13 with h | h
                · obtain rfl : v = 12 := by omega
                  exact tx_12
                · obtain rfl : v = 13 := by omega
                  exact tx_13
              · rcases Nat.lt_or_ge v 15 with h | h
                · obtain rfl : v = 14 := by omega
                  exact tx_14
                · obtain rfl : v = 15 := by omega
                  exact tx_15
        · rcases Nat.lt_or_ge v 24 with h | h
          · rcases Nat.lt_or_ge v 20 with h | h
            · rcases Nat.lt_or_ge v 18 with h | h
              · rcases Nat.lt_or_ge v 17 with h | h
                · obtain rfl : v = 16 := by omega
                  exact tx_16
                · obtain rfl : v = 17 := by omega
                  exact tx_17
              · rcases Nat.lt_or_ge v 19 with h | h
                · obtain rfl : v = 18 := by omega
                  exact tx_18
                · obtain rfl : v = 19 := by omega
                  exact tx_19
            · rcases Nat.lt_or_ge v 22 with h | h
              · rcases Nat.lt_or_ge v 21 with h | h
                · obtain rfl : v = 20 := by omega
                  exact tx_20
                · obtain rfl : v = 21 := by omega
                  exact tx_21
              · rcases Nat.lt_or_ge v 23 with h | h
                · obtain rfl : v = 22 := by omega
                  exact tx_22
                · obtain rfl : v = 23 := by omega
                  exact tx_23
          · rcases Nat.lt_or_ge v 28 with h | h
            · rcases Nat.lt_or_ge v 26 with h | h
              · rcases Nat.lt_or_ge v 25 with h | h
                · obtain rfl : v = 24 := by omega
                  exact tx_24
                · obtain rfl : v = 25 := by omega
                  exact tx_25
              · rcases Nat.lt_or_ge v 27 with h | h
                · obtain rfl : v = 26 := by omega
                  exact tx_26
                · obtain rfl : v = 27 := by omega
                  exact tx_27
            · rcases Nat.lt_or_ge v 30 with h | h
              · rcases Nat.lt_or_ge v 29 with h | h
                · obtain rfl : v = 28 := by omega
                  exact tx_28
                · obtain rfl : v = 29 := by omega
                  exact tx_29
              · rcases Nat.lt_or_ge v 31 with h | h
                · obtain rfl : v = 30 := by omega
                  exact tx_30
                · obtain rfl : v = 31 := by omega
                  exact tx_31
      · rcases Nat.lt_or_ge v 48 with h | h
        · rcases Nat.lt_or_ge v 40 with h | h
          · rcases Nat.lt_or_ge v 36 with h | h
            · rcases Nat.lt_or_ge v 34 with h | h
              · rcases Nat.lt_or_ge v 33 with h | h
                · obtain rfl : v = 32 := by omega
                  exact tx_32
                · obtain rfl : v = 33 := by omega
                  exact tx_33
              · rcases Nat.lt_or_ge v 35 with h | h
                · obtain rfl : v = 34 := by omega
                  exact tx_34
                · obtain rfl : v = 35 := by omega
                  exact tx_35
            · rcases Nat.lt_or_ge v 38 with h | h
              · rcases Nat.lt_or_ge v 37 with h | h
                · obtain rfl : v = 36 := by omega
                  exact tx_36
                · obtain rfl : v = 37 := by omega
                  exact tx_37
              · rcases Nat.lt_or_ge v 39 with h | h
                · obtain rfl : v = 38 := by omega
                  exact tx_38
                · obtain rfl : v = 39 := by omega
                  exact tx_39
          · rcases Nat.lt_or_ge v 44 with h | h
            · rcases Nat.lt_or_ge v 42 with h | h
              · rcases Nat.lt_or_ge v 41 with h | h
                · obtain rfl : v = 40 := by omega
                  exact tx_40
                · obtain rfl : v = 41 := by omega
                  exact tx_41
              · rcases Nat.lt_or_ge v 43 with h | h
                · obtain rfl : v = 42 := by omega
                  exact tx_42
                · obtain rfl : v = 43 := by omega
                  exact tx_43
            · rcases Nat.lt_or_ge v 46 with h | h
              · rcases Nat.lt_or_ge v 45 with h | h
                · obtain rfl : v = 44 := by omega
                  exact tx_44
                · obtain rfl : v = 45 := by omega
                  exact tx_45
              · rcases Nat.lt_or_ge v 47 with h | h
                · obtain rfl : v = 46 := by omega
                  exact tx_46
                · obtain rfl : v = 47 := by omega
                  exact tx_47
        · rcases Nat.lt_or_ge v 56 with h | h
          · rcases Nat.lt_or_ge v 52 with h | h
            · rcases Nat.lt_or_ge v 50 with h | h
              · rcases Nat.lt_or_ge v 49 with h | h
                · obtain rfl : v = 48 := by omega
                  exact tx_48
                · obtain rfl : v = 49 := by omega
                  exact tx_49
              · rcases Nat.lt_or_ge v 51 with h | h
                · obtain rfl : v = 50 := by omega
                  exact tx_50
                · obtain rfl : v = 51 := by omega
                  exact tx_51
            · rcases Nat.lt_or_ge v 54 with h | h
              · rcases Nat.lt_or_ge v 53 with h | h
                · obtain rfl : v = 52 := by omega
                  exact tx_52
                · obtain rfl : v = 53 := by omega
                  exact tx_53
              · rcases Nat.lt_or_ge v 55 with h | h
                · obtain rfl : v = 54 := by omega
                  exact tx_54
                · obtain rfl : v = 55 := by omega
                  exact tx_55
          · rcases Nat.lt_or_ge v 60 with h | h
            · rcases Nat.lt_or_ge v 58 with h | h
              · rcases Nat.lt_or_ge v 57 with h | h
                · obtain rfl : v = 56 := by omega
                  exact tx_56
                · obtain rfl : v = 57 := by omega
                  exact tx_57
              · rcases Nat.lt_or_ge v 59 with h | h
                · obtain rfl : v = 58 := by omega
                  exact tx_58
                · obtain rfl : v = 59 := by omega
                  exact tx_59
            · rcases Nat.lt_or_ge v 62 with h | h
              · rcases Nat.lt_or_ge v 61 with h | h
                · obtain rfl : v = 60 := by omega
                  exact tx_60
                · obtain rfl : v = 61 := by omega
                  exact tx_61
              · rcases Nat.lt_or_ge v 63 with h | h
                · obtain rfl : v = 62 := by omega
                  exact tx_62
                · obtain rfl : v = 63 := by omega
                  exact tx_63
    · rcases Nat.lt_or_ge v 96 with h | h
      · rcases Nat.lt_or_ge v 80 with h | h
        · rcases Nat.lt_or_ge v 72 with h | h
          · rcases Nat.lt_or_ge v 68 with h | h
            · rcases Nat.lt_or_ge v 66 with h | h
              · rcases Nat.lt_or_ge v 65 with h | h
                · obtain rfl : v = 64 := by omega
                  exact tx_64
                · obtain rfl : v = 65 := by omega
                  exact tx_65
              · rcases Nat.lt_or_ge v 67 with h | h
                · obtain rfl : v = 66 := by omega
                  exact tx_66
                · obtain rfl : v = 67 := by omega
                  exact tx_67
            · rcases Nat.lt_or_ge v 70 with h | h
              · rcases Nat.lt_or_ge v 69 with h | h
                · obtain rfl : v = 68 := by omega
                  exact tx_68
                · obtain rfl : v = 69 := by omega
                  exact tx_69
              · rcases Nat.lt_or_ge v 71 with h | h
                · obtain rfl : v = 70 := by omega
                  exact tx_70
                · obtain rfl : v = 71 := by omega
                  exact tx_71
          · rcases Nat.lt_or_ge v 76 with h | h
            · rcases Nat.lt_or_ge v 74 with h | h
              · rcases Nat.lt_or_ge v 73 with h | h
                · obtain rfl : v = 72 := by omega
                  exact tx_72
                · obtain rfl : v = 73 := by omega
                  exact tx_73
              · rcases Nat.lt_or_ge v 75 with h | h
                · obtain rfl : v = 74 := by omega
                  exact tx_74
                · obtain rfl : v = 75 := by omega
                  exact tx_75
            · rcases Nat.lt_or_ge v 78 with h | h
              · rcases Nat.lt_or_ge v 77 with h | h
                · obtain rfl : v = 76 := by omega
                  exact tx_76
                · obtain rfl : v = 77 := by omega
                  exact tx_77
              · rcases Nat.lt_or_ge v 79 with h | h
                · obtain rfl : v = 78 := by omega
                  exact tx_78
                · obtain rfl : v = 79 := by omega
                  exact tx_79
        · rcases Nat.lt_or_ge v 88 with h | h
          · rcases Nat.lt_or_ge v 84 with h | h
            · rcases Nat.lt_or_ge v 82 with h | h
              · rcases Nat.lt_or_ge v 81 with h | h
                · obtain rfl : v = 80 := by omega
                  exact tx_80
                · obtain rfl : v = 81 := by omega
                  exact tx_81
              · rcases Nat.lt_or_ge v 83 with h | h
                · obtain rfl : v = 82 := by omega
                  exact tx_82
                · obtain rfl : v = 83 := by omega
                  exact tx_83
            · rcases Nat.lt_or_ge v 86 with h | h
              · rcases Nat.lt_or_ge v 85 with h | h
                · obtain rfl : v = 84 := by omega
                  exact tx_84
                · obtain rfl : v = 85 := by omega
                  exact tx_85
              · rcases Nat.lt_or_ge v 87 with h | h
                · obtain rfl : v = 86 := by omega
                  exact tx_86
                · obtain rfl : v = 87 := by omega
                  exact tx_87
          · rcases Nat.lt_or_ge v 92 with h | h
            · rcases Nat.lt_or_ge v 90 with h | h
              · rcases Nat.lt_or_ge v 89 with h | h
                · obtain rfl : v = 88 := by omega
                  exact tx_88
                · obtain rfl : v = 89 := by omega
                  exact tx_89
              · rcases Nat.lt_or_ge v 91 with h | h
                · obtain rfl : v = 90 := by omega
                  exact tx_90
                · obtain rfl : v = 91 := by omega
                  exact tx_91
            · rcases Nat.lt_or_ge v 94 with h | h
              · rcases Nat.lt_or_ge v 93 with h | h
                · obtain rfl : v = 92 := by omega
                  exact tx_92
                · obtain rfl : v = 93 := by omega
                  exact tx_93
              · rcases Nat.lt_or_ge v 95 with h | h
                · obtain rfl : v = 94 := by omega
                  exact tx_94
                · obtain rfl : v = 95 := by omega
                  exact tx_95
      · rcases Nat.lt_or_ge v 112 with h | h
        · rcases Nat.lt_or_ge v 104 with h | h
          · rcases Nat.lt_or_ge v 100 with h | h
            · rcases Nat.lt_or_ge v 98 with h | h
              · rcases Nat.lt_or_ge v 97 with h | h
                · obtain rfl : v = 96 := by omega
                  exact tx_96
                · obtain rfl : v = 97 := by omega
                  exact tx_97
              · rcases Nat.lt_or_ge v 99 with h | h
                · obtain rfl : v = 98 := by omega
                  exact tx_98
                · obtain rfl : v = 99 := by omega
                  exact tx_99
            · rcases Nat.lt_or_ge v 102 with h | h
              · rcases Nat.lt_or_ge v 101 with h | h
                · obtain rfl : v = 100 := by omega
                  exact tx_100
                · obtain rfl : v = 101 := by omega
                  exact tx_101
              · rcases Nat.lt_or_ge v 103 with h | h
                · obtain rfl : v = 102 := by omega
                  exact tx_102
                · obtain rfl : v = 103 := by omega
                  exact tx_103
          · rcases Nat.lt_or_ge v 108 with h | h
            · rcases Nat.lt_or_ge v 106 with h | h
              · rcases Nat.lt_or_ge v 105 with h | h
                · obtain rfl : v = 104 := by omega
                  exact tx_104
                · obtain rfl : v = 105 := by omega
                  exact tx_105
              · rcases Nat.lt_or_ge v 107 with h | h
                · obtain rfl : v = 106 := by omega
                  exact tx_106
                · obtain rfl : v = 107 := by omega
                  exact tx_107
            · rcases Nat.lt_or_ge v 110 with h | h
              · rcases Nat.lt_or_ge v 109 with h | h
                · obtain rfl : v = 108 := by omega
                  exact tx_108
                · obtain rfl : v = 109 := by omega
                  exact tx_109
              · rcases Nat.lt_or_ge v 111 with h | h
                · obtain rfl : v = 110 := by omega
                  exact tx_110
                · obtain rfl : v = 111 := by omega
                  exact tx_111
        · rcases Nat.lt_or_ge v 120 with h | h
          · rcases Nat.lt_or_ge v 116 with h | h
            · rcases Nat.lt_or_ge v 114 with h | h
              · rcases Nat.lt_or_ge v 113 with h | h
                · obtain rfl : v = 112 := by omega
                  exact tx_112
                · obtain rfl : v = 113 := by omega
                  exact tx_113
              · rcases Nat.lt_or_ge v 115 with h | h
                · obtain rfl : v = 114 := by omega
                  exact tx_114
                · obtain rfl : v = 115 := by omega
                  exact tx_115
            · rcases Nat.lt_or_ge v 118 with h | h
              · rcases Nat.lt_or_ge v 117 with h | h
                · obtain rfl : v = 116 := by omega
                  exact tx_116
                · obtain rfl : v = 117 := by omega
                  exact tx_117
              · rcases Nat.lt_or_ge v 119 with h | h
                · obtain rfl : v = 118 := by omega
                  exact tx_118
                · obtain rfl : v = 119 := by omega
                  exact tx_119
          · rcases Nat.lt_or_ge v 124 with h | h
            · rcases Nat.lt_or_ge v 122 with h | h
              · rcases Nat.lt_or_ge v 121 with h | h
                · obtain rfl : v = 120 := by omega
                  exact tx_120
                · obtain rfl : v = 121 := by omega
                  exact tx_121
              · rcases Nat.lt_or_ge v 123 with h | h
                · obtain rfl : v = 122 := by omega
                  exact tx_122
                · obtain rfl : v = 123 := by omega
                  exact tx_123
            · rcases Nat.lt_or_ge v 126 with h | h
              · rcases Nat.lt_or_ge v 125 with h | h
                · obtain rfl : v = 124 := by omega
                  exact tx_124
                · obtain rfl : v = 125 := by omega
                  exact tx_125
              · rcases Nat.lt_or_ge v 127 with h | h
                · obtain rfl : v = 126 := by omega
                  exact tx_126
                · obtain rfl : v = 127 := by omega
                  exact tx_127
  · rcases Nat.lt_or_ge v 192 with h | h
    · rcases Nat.lt_or_ge v 160 with h | h
      · rcases Nat.lt_or_ge v 144 with h | h
        · rcases Nat.lt_or_ge v 136 with h | h
          · rcases Nat.lt_or_ge v 132 with h | h
            · rcases Nat.lt_or_ge v 130 with h | h
              · rcases Nat.lt_or_ge v 129 with h | h
                · obtain rfl : v = 128 := by omega
                  exact tx_128
                · obtain rfl : v = 129 := by omega
                  exact tx_129
              · rcases Nat.lt_or_ge v 131 with h | h
                · obtain rfl : v = 130 := by omega
                  exact tx_130
                · obtain rfl : v = 131 := by omega
                  exact tx_131
            · rcases Nat.lt_or_ge v 134 with h | h
              · rcases Nat.lt_or_ge v 133 with h | h
                · obtain rfl : v = 132 := by omega
                  exact tx_132
                · obtain rfl : v = 133 := by omega
                  exact tx_133
              · rcases Nat.lt_or_ge v 135 with h | h
                · obtain rfl : v = 134 := by omega
                  exact tx_134
                · obtain rfl : v = 135 := by omega
                  exact tx_135
          · rcases Nat.lt_or_ge v 140 with h | h
            · rcases Nat.lt_or_ge v 138 with h | h
              · rcases Nat.lt_or_ge v 137 with h | h
                · obtain rfl : v = 136 := by omega
                  exact tx_136
                · obtain rfl : v = 137 := by omega
                  exact tx_137
              · rcases Nat.lt_or_ge v 139 with h | h
                · obtain rfl : v = 138 := by omega
                  exact tx_138
                · obtain rfl : v = 139 := by omega
                  exact tx_139
            · rcases Nat.lt_or_ge v 142 with h | h
              · rcases Nat.lt_or_ge v 141 with h | h
                · obtain rfl : v = 140 := by omega
                  exact tx_140
                · obtain rfl : v = 141 := by omega
                  exact tx_141
              · rcases Nat.lt_or_ge v 143 with h | h
                · obtain rfl : v = 142 := by omega
                  exact tx_142
                · obtain rfl : v = 143 := by omega
                  exact tx_143
        · rcases Nat.lt_or_ge v 152 with h | h
          · rcases Nat.lt_or_ge v 148 with h | h
            · rcases Nat.lt_or_ge v 146 with h | h
              · rcases Nat.lt_or_ge v 145 with h | h
                · obtain rfl : v = 144 := by omega
                  exact tx_144
                · obtain rfl : v = 145 := by omega
                  exact tx_145
              · rcases Nat.lt_or_ge v 147 with h | h
                · obtain rfl : v = 146 := by omega
                  exact tx_146
                · obtain rfl : v = 147 := by omega
                  exact tx_147
            · rcases Nat.lt_or_ge v 150 with h | h
              · rcases Nat.lt_or_ge v 149 with h | h
                · obtain rfl : v = 148 := by omega
                  exact tx_148
                · obtain rfl : v = 149 := by omega
                  exact tx_149
              · rcases Nat.lt_or_ge v 151 with h | h
                · obtain rfl : v = 150 := by omega
                  exact tx_150
                · obtain rfl : v = 151 := by omega
                  exact tx_151
          · rcases Nat.lt_or_ge v 156 with h | h
            · rcases Nat.lt_or_ge v 154 with h | h
              · rcases Nat.lt_or_ge v 153 with h | h
                · obtain rfl : v = 152 := by omega
                  exact tx_152
                · obtain rfl : v = 153 := by omega
                  exact tx_153
              · rcases Nat.lt_or_ge v 155 with h | h
                · obtain rfl : v = 154 := by omega
                  exact tx_154
                · obtain rfl : v = 155 := by omega
                  exact tx_155
            · rcases Nat.lt_or_ge v 158 with h | h
              · rcases Nat.lt_or_ge v 157 with h | h
                · obtain rfl : v = 156 := by omega
                  exact tx_156
                · obtain rfl : v = 157 := by omega
                  exact tx_157
              · rcases Nat.lt_or_ge v 159 with h | h
                · obtain rfl : v = 158 := by omega
                  exact tx_158
                · obtain rfl : v = 159 := by omega
                  exact tx_159
      · rcases Nat.lt_or_ge v 176 with h | h
        · rcases Nat.lt_or_ge v 168 with h | h
          · rcases Nat.lt_or_ge v 164 with h | h
            · rcases Nat.lt_or_ge v 162 with h | h
              · rcases Nat.lt_or_ge v 161 with h | h
                · obtain rfl : v = 160 := by omega
                  exact tx_160
                · obtain rfl : v = 161 := by omega
                  exact tx_161
              · rcases Nat.lt_or_ge v 163 with h | h
                · obtain rfl : v = 162 := by omega
                  exact tx_162
                · obtain rfl : v = 163 := by omega
                  exact tx_163
            · rcases Nat.lt_or_ge v 166 with h | h
              · rcases Nat.lt_or_ge v 165 with h | h
                · obtain rfl : v = 164 := by omega
                  exact tx_164
                · obtain rfl : v = 165 := by omega
                  exact tx_165
              · rcases Nat.lt_or_ge v 167 with h | h
                · obtain rfl : v = 166 := by omega
                  exact tx_166
                · obtain rfl : v = 167 := by omega
                  exact tx_167
          · rcases Nat.lt_or_ge v 172 with h | h
            · rcases Nat.lt_or_ge v 170 with h | h
              · rcases Nat.lt_or_ge v 169 with h | h
                · obtain rfl : v = 168 := by omega
                  exact tx_168
                · obtain rfl : v = 169 := by omega
                  exact tx_169
              · rcases Nat.lt_or_ge v 171 with h | h
                · obtain rfl : v = 170 := by omega
                  exact tx_170
                · obtain rfl : v = 171 := by omega
                  exact tx_171
            · rcases Nat.lt_or_ge v 174 with h | h
              · rcases Nat.lt_or_ge v 173 with h | h
                · obtain rfl : v = 172 := by omega
                  exact tx_172
                · obtain rfl : v = 173 := by omega
                  exact tx_173
              · rcases Nat.lt_or_ge v 175 with h | h
                · obtain rfl : v = 174 := by omega
                  exact tx_174
                · obtain rfl : v = 175 := by omega
                  exact tx_175
        · rcases Nat.lt_or_ge v 184 with h | h
          · rcases Nat.lt_or_ge v 180 with h | h
            · rcases Nat.lt_or_ge v 178 with h | h
              · rcases Nat.lt_or_ge v 177 with h | h
                · obtain rfl : v = 176 := by omega
                  exact tx_176
                · obtain rfl : v = 177 := by omega
                  exact tx_177
              · rcases Nat.lt_or_ge v 179 with h | h
                · obtain rfl : v = 178 := by omega
                  exact tx_178
                · obtain rfl : v = 179 := by omega
                  exact tx_179
            · rcases Nat.lt_or_ge v 182 with h | h
              · rcases Nat.lt_or_ge v 181 with h | h
                · obtain rfl : v = 180 := by omega
                  exact tx_180
                · obtain rfl : v = 181 := by omega
                  exact tx_181
              · rcases Nat.lt_or_ge v 183 with h | h
                · obtain rfl : v = 182 := by omega
                  exact tx_182
                · obtain rfl : v = 183 := by omega
                  exact tx_183
          · rcases Nat.lt_or_ge v 188 with h | h
            · rcases Nat.lt_or_ge v 186 with h | h
              · rcases Nat.lt_or_ge v 185 with h | h
                · obtain rfl : v = 184 := by omega
                  exact tx_184
                · obtain rfl : v = 185 := by omega
                  exact tx_185
              · rcases Nat.lt_or_ge v 187 with h | h
                · obtain rfl : v = 186 := by omega
                  exact tx_186
                · obtain rfl : v = 187 := by omega
                  exact tx_187
            · rcases Nat.lt_or_ge v 190 with h | h
              · rcases Nat.lt_or_ge v 189 with h | h
                · obtain rfl : v = 188 := by omega
                  exact tx_188
                · obtain rfl : v = 189 := by omega
                  exact tx_189
              · rcases Nat.lt_or_ge v 191 with h | h
                · obtain rfl : v = 190 := by omega
                  exact tx_190
                · obtain rfl : v = 191 := by omega
                  exact tx_191
    · rcases Nat.lt_or_ge v 224 with h | h
      · rcases Nat.lt_or_ge v 208 with h | h
        · rcases Nat.lt_or_ge v 200 with h | h
          · rcases Nat.lt_or_ge v 196 with h | h
            · rcases Nat.lt_or_ge v 194 with h | h
              · rcases Nat.lt_or_ge v 193 with h | h
                · obtain rfl : v = 192 := by omega
                  exact tx_192
                · obtain rfl : v = 193 := by omega
                  exact tx_193
              · rcases Nat.lt_or_ge v 195 with h | h
                · obtain rfl : v = 194 := by omega
                  exact tx_194
                · obtain rfl : v = 195 := by omega
                  exact tx_195
            · rcases Nat.lt_or_ge v 198 with h | h
              · rcases Nat.lt_or_ge v 197 with h | h
                · obtain rfl : v = 196 := by omega
                  exact tx_196
                · obtain rfl : v = 197 := by omega
                  exact tx_197
              · rcases Nat.lt_or_ge v 199 with h | h
                · obtain rfl : v = 198 := by omega
                  exact tx_198
                · obtain rfl : v = 199 := by omega
                  exact tx_199
          · rcases Nat.lt_or_ge v 204 with h | h
            · rcases Nat.lt_or_ge v 202 with h | h
              · rcases Nat.lt_or_ge v 201 with h | h
                · obtain rfl : v = 200 := by omega
                  exact tx_200
                · obtain rfl : v = 201 := by omega
                  exact tx_201
              · rcases Nat.lt_or_ge v 203 with h | h
                · obtain rfl : v = 202 := by omega
                  exact tx_202
                · obtain rfl : v = 203 := by omega
                  exact tx_203
            · rcases Nat.lt_or_ge v 206 with h | h
              · rcases Nat.lt_or_ge v 205 with h | h
                · obtain rfl : v = 204 := by omega
                  exact tx_204
                · obtain rfl : v = 205 := by omega
                  exact tx_205
              · rcases Nat.lt_or_ge v 207 with h | h
                · obtain rfl : v = 206 := by omega
                  exact tx_206
                · obtain rfl : v = 207 := by omega
                  exact tx_207
        · rcases Nat.lt_or_ge v 216 with h | h
          · rcases Nat.lt_or_ge v 212 with h | h
            · rcases Nat.lt_or_ge v 210 with h | h
              · rcases Nat.lt_or_ge v 209 with h | h
                · obtain rfl : v = 208 := by omega
                  exact tx_208
                · obtain rfl : v = 209 := by omega
                  exact tx_209
              · rcases Nat.lt_or_ge v 211 with h | h
                · obtain rfl : v = 210 := by omega
                  exact tx_210
                · obtain rfl : v = 211 := by omega
                  exact tx_211
            · rcases Nat.lt_or_ge v 214 with h | h
              · rcases Nat.lt_or_ge v 213 with h | h
                · obtain rfl : v = 212 := by omega
                  exact tx_212
                · obtain rfl : v = 213 := by omega
                  exact tx_213
              · rcases Nat.lt_or_ge v 215 with h | h
                · obtain rfl : v = 214 := by omega
                  exact tx_214
                · obtain rfl : v = 215 := by omega
                  exact tx_215
          · rcases Nat.lt_or_ge v 220 with h | h
            · rcases Nat.lt_or_ge v 218 with h | h
              · rcases Nat.lt_or_ge v 217 with h | h
                · obtain rfl : v = 216 := by omega
                  exact tx_216
                · obtain rfl : v = 217 := by omega
                  exact tx_217
              · rcases Nat.lt_or_ge v 219 with h | h
                · obtain rfl : v = 218 := by omega
                  exact tx_218
                · obtain rfl : v = 219 := by omega
                  exact tx_219
            · rcases Nat.lt_or_ge v 222 with h | h
              · rcases Nat.lt_or_ge v 221 with h | h
                · obtain rfl : v = 220 := by omega
                  exact tx_220
                · obtain rfl : v = 221 := by omega
                  exact tx_221
              · rcases Nat.lt_or_ge v 223 with h | h
                · obtain rfl : v = 222 := by omega
                  exact tx_222
                · obtain rfl : v = 223 := by omega
                  exact tx_223
      · rcases Nat.lt_or_ge v 240 with h | h
        · rcases Nat.lt_or_ge v 232 with h | h
          · rcases Nat.lt_or_ge v 228 with h | h
            · rcases Nat.lt_or_ge v 226 with h | h
              · rcases Nat.lt_or_ge v 225 with h | h
                · obtain rfl : v = 224 := by omega
                  exact tx_224
                · obtain rfl : v = 225 := by omega
                  exact tx_225
              · rcases Nat.lt_or_ge v 227 with h | h
                · obtain rfl : v = 226 := by omega
                  exact tx_226
                · obtain rfl : v = 227 := by omega
                  exact tx_227
            · rcases Nat.lt_or_ge v 230 with h | h
              · rcases Nat.lt_or_ge v 229 with h | h
                · obtain rfl : v = 228 := by omega
                  exact tx_228
                · obtain rfl : v = 229 := by omega
                  exact tx_229
              · rcases Nat.lt_or_ge v 231 with h | h
                · obtain rfl : v = 230 := by omega
                  exact tx_230
                · obtain rfl : v = 231 := by omega
                  exact tx_231
          · rcases Nat.lt_or_ge v 236 with h | h
            · rcases Nat.lt_or_ge v 234 with h | h
              · rcases Nat.lt_or_ge v 233 with h | h
                · obtain rfl : v = 232 := by omega
                  exact tx_232
                · obtain rfl : v = 233 := by omega
                  exact tx_233
              · rcases Nat.lt_or_ge v 235 with h | h
                · obtain rfl : v = 234 := by omega
                  exact tx_234
                · obtain rfl : v = 235 := by omega
                  exact tx_235
            · rcases Nat.lt_or_ge v 238 with h | h
              · rcases Nat.lt_or_ge v 237 with h | h
                · obtain rfl : v = 236 := by omega
                  exact tx_236
                · obtain rfl : v = 237 := by omega
                  exact tx_237
              · rcases Nat.lt_or_ge v 239 with h | h
                · obtain rfl : v = 238 := by omega
                  exact tx_238
                · obtain rfl : v = 239 := by omega
                  exact tx_239
        · rcases Nat.lt_or_ge v 248 with h | h
          · rcases Nat.lt_or_ge v 244 with h | h
            · rcases Nat.lt_or_ge v 242 with h | h
              · rcases Nat.lt_or_ge v 241 with h | h
                · obtain rfl : v = 240 := by omega
                  exact tx_240
                · obtain rfl : v = 241 := by omega
                  exact tx_241
              · rcases Nat.lt_or_ge v 243 with h | h
                · obtain rfl : v = 242 := by omega
                  exact tx_242
                · obtain rfl : v = 243 := by omega
                  exact tx_243
            · rcases Nat.lt_or_ge v 246 with h | h
              · rcases Nat.lt_or_ge v 245 with h | h
                · obtain rfl : v = 244 := by omega
                  exact tx_244
                · obtain rfl : v = 245 := by omega
                  exact tx_245
              · rcases Nat.lt_or_ge v 247 with h | h
                · obtain rfl : v = 246 := by omega
                  exact tx_246
                · obtain rfl : v = 247 := by omega
                  exact tx_247
          · rcases Nat.lt_or_ge v 252 with h | h
            · rcases Nat.lt_or_ge v 250 with h | h
              · rcases Nat.lt_or_ge v 249 with h | h
                · obtain rfl : v = 248 := by omega
                  exact tx_248
                · obtain rfl : v = 249 := by omega
                  exact tx_249
              · rcases Nat.lt_or_ge v 251 with h | h
                · obtain rfl : v = 250 := by omega
                  exact tx_250
                · obtain rfl : v = 251 := by omega
                  exact tx_251
            · rcases Nat.lt_or_ge v 254 with h | h
              · rcases Nat.lt_or_ge v 253 with h | h
                · obtain rfl : v = 252 := by omega
                  exact tx_252
                · obtain rfl : v = 253 := by omega
                  exact tx_253
              · rcases Nat.lt_or_ge v 255 with h | h
                · obtain rfl : v = 254 := by omega
                  exact tx_254
                · obtain rfl : v = 255 := by omega
                  exact tx_255
theorem tl8_yes {p : List Nat} {x y : Int} (hx : h1 x = true) (hy : h1 y = true) : tl8 p x y = true := by
  unfold tl8
  rw [hx, hy]
  split <;> rfl
theorem memI_get {l : List Int} : ∀ {ds : List (List Int)}, memI l ds = true → ∃ v, v < ds.length ∧ ds[v]? = some l
  | [], h => by cases h
  | d :: ds, h => by
    unfold memI at h
    split at h
    · rename_i h1
      exact ⟨0, by simp, by rw [sameI_eq h1]; rfl⟩
    · obtain ⟨v, h1, h2⟩ := memI_get h
      exact ⟨v + 1, by simpa using h1, by simpa using h2⟩
theorem len85 : dec85.length = 256 := by kernel_rfl
theorem len80 : dec80.length = 256 := by kernel_rfl
theorem lent85 : tab85.length = 256 := by kernel_rfl
theorem lent80 : tab80.length = 256 := by kernel_rfl
theorem ins_get (k : Bool) {v : Nat} (hv : v < 256) : (dec85 ++ dec80)[(bif k then v else 256 + v)]? = some (ins k v) ∧ (tab85 ++ tab80)[(bif k then v else 256 + v)]? = some (tabK k v) := by
  cases k
  · simp only [cond_false]
    rw [List.getElem?_append_right (by rw [len85]; omega), List.getElem?_append_right (by rw [lent85]; omega), len85, lent85, show 256 + v - 256 = v by omega]
    refine ⟨?_, ?_⟩
    · show dec80[v]? = some (dec80.getD v [])
      rw [List.getD_eq_getElem?_getD, List.getElem?_eq_getElem (by rw [len80]; exact hv)]
      rfl
    · show tab80[v]? = some (tab80.getD v (0, []))
      rw [List.getD_eq_getElem?_getD, List.getElem?_eq_getElem (by rw [lent80]; exact hv)]
      rfl
  · simp only [cond_true]
    rw [List.getElem?_append_left (by rw [len85]; omega), List.getElem?_append_left (by rw [lent85]; omega)]
    refine ⟨?_, ?_⟩
    · show dec85[v]? = some (dec85.getD v [])
      rw [List.getD_eq_getElem?_getD, List.getElem?_eq_getElem (by rw [len85]; exact hv)]
      rfl
    · show tab85[v]? = some (tab85.getD v (0, []))
      rw [List.getD_eq_getElem?_getD, List.getElem?_eq_getElem (by rw [lent85]; exact hv)]
      rfl
theorem ins_true (k : Bool) {v : Nat} (hv : v < 256) : ∃ v', v' < 256 ∧ ins k v = ins true v' := by
  have h := List.all_eq_true.1 mem_all _ (List.mem_of_getElem? (ins_get k hv).1)
  obtain ⟨v', h1, h2⟩ := memI_get h
  rw [len85] at h1
  refine ⟨v', h1, ?_⟩
  show _ = dec85.getD v' []
  rw [List.getD_eq_getElem?_getD, h2]
  rfl
theorem tabI_ins (k : Bool) {v : Nat} (hv : v < 256) : tabI (ins k v) = tabK k v := by
  obtain ⟨h1, h2⟩ := ins_get k hv
  have hz : ((dec85 ++ dec80).zip (tab85 ++ tab80))[(bif k then v else 256 + v)]? = some (ins k v, tabK k v) := by
    rw [List.getElem?_zip_eq_some]
    exact ⟨h1, h2⟩
  have h := List.all_eq_true.1 tabI_all _ (List.mem_of_getElem? hz)
  unfold sameT at h
  rw [Bool.and_eq_true, Nat.beq_eq, decide_eq_true_eq] at h
  exact Prod.ext h.1 h.2
noncomputable def Ftx : List TV → Option (SB × TV)
  | [.agg [.int .i64 a0, .int .i64 a1, .int .i64 a2, .int .i64 a3, .int .i64 a4, .int .i64 a5, .int .i64 a6, .int .i64 a7], .one (.int .u8 x), .one (.int .u8 y)] =>
    some (.sym (yes (∃ v, v < 256 ∧ [a0.val, a1.val, a2.val, a3.val, a4.val, a5.val, a6.val, a7.val] = ins true v) && (h1 x.val && h1 y.val)),
      .one (.str (txt (tabI [a0.val, a1.val, a2.val, a3.val, a4.val, a5.val, a6.val, a7.val]).1 (tabI [a0.val, a1.val, a2.val, a3.val, a4.val, a5.val, a6.val, a7.val]).2 x.val y.val)))
  | _ => none
theorem spec20 (W : World) : SpecOk W Tryd.prog 20 (specV Ftx) := by
  refine spec_of ⟨Tryd.f20, Tryd.func20, by kernel_rfl, by kernel_rfl⟩ ?_
  intro args c u f w hF hc hW
  unfold Ftx at hF
  split at hF <;> try contradiction
  rename_i a0 a1 a2 a3 a4 a5 a6 a7 x y
  simp only [Option.some.injEq, Prod.mk.injEq] at hF
  obtain ⟨rfl, rfl⟩ := hF
  rw [SB.val_sym, Bool.and_eq_true, Bool.and_eq_true] at hc
  obtain ⟨h0, hx, hy⟩ := hc
  obtain ⟨v, hv, hl⟩ := of_yes h0
  refine ⟨by simp, ?_⟩
  have ht := tx_all v hv w x.val y.val
  rw [tl8_yes hx hy] at ht
  obtain ⟨vc, s, m, hg, hvc⟩ := gY_get ht
  have hk := tabI_ins true hv
  rw [hl, hk]
  have hn := nb_get (gok_cons (h9_ok w) (gok_nil w)) hg hvc (fun _ => 0) w (Old.refl w)
  rw [← hl] at hn
  refine hn.mono ?_
  rintro en w' ⟨f', rfl, _, hb⟩
  exact ⟨rfl, hb⟩
end Go.Proofs.YtdglgiaegjkinaaDoor
