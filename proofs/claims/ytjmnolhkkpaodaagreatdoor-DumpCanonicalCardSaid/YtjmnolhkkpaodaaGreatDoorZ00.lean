/- A part of the proof: the reference is safe, both packages write and read alike. Several texts in one; printed by slim28.py out of the texts of wip. -/
import Derived.Laws.Entries
import Derived.Orders
set_option linter.all false
namespace Go.Sx
inductive SI where
 | lit (n : Int)
 | sym (n : Int)
inductive SB where
 | lit (b : Bool)
 | sym (b : Bool)
def SI.val : SI → Int
 | .lit n => n
 | .sym n => n
def SB.val : SB → Bool
 | .lit b => b
 | .sym b => b
inductive SV where
 | int (k : IntKind) (n : SI)
 | bool (b : SB)
 | ptr (b o : Nat)
 | clo (g : FuncId) (caps : List (Nat × Nat))
 | str (s : ByteArray)
 | sl (a : Option Addr) (n c : Nat)
 | row (b o n c : Nat)
 | pa (a : Addr)
 | nilP
 | nilF
 | nilI
 | nilM
abbrev Part := Bool × List SV
inductive TV where
 | un
 | ud
 | one (v : SV)
 | agg (l : List SV)
 | tup (l : List Part)
def caddr (f : Nat → Nat) (c : Nat × Nat) : Value := .pointer (some ⟨f c.1, c.2, none⟩)
def SV.den (f : Nat → Nat) : SV → Value
 | .int k n => .int k n.val
 | .bool b => .bool b.val
 | .ptr b o => .pointer (some ⟨f b, o, none⟩)
 | .clo g cs => .func (.func g) #[] (cs.map (caddr f)).toArray
 | .str s => .string s
 | .sl a n c => .slice a n c
 | .row b o n c => .slice (some ⟨f b, o, none⟩) n c
 | .pa a => .pointer (some a)
 | .nilP => .pointer none
 | .nilF => .nilFunc
 | .nilI => .nilIface
 | .nilM => .map none
def dens (f : Nat → Nat) (l : List SV) : Array Value := (l.map (SV.den f)).toArray
def partDen (f : Nat → Nat) : Part → Value
 | (true, l) => .agg (dens f l)
 | (false, [v]) => v.den f
 | (false, _) => undef
def TV.den (f : Nat → Nat) : TV → Value
 | .un => undef
 | .ud => undef
 | .one v => v.den f
 | .agg l => .agg (dens f l)
 | .tup ps => .tuple (ps.map (partDen f)).toArray
def look {α : Type} : List (Nat × α) → Nat → Option α
 | [], _ => none
 | (k, v) :: r, n => match Nat.beq k n with
  | true => some v
  | false => look r n
def findC : List (Nat × Nat × SV) → Nat → Nat → Option SV
 | [], _, _ => none
 | (b, o, v) :: r, c, p => match Nat.beq b c with
  | true => match Nat.beq o p with
   | true => some v
   | false => findC r c p
  | false => findC r c p
abbrev SL := List (Nat × TV)
structure BI where
 elem : TypeId
 init : List SV
 rw : Bool
structure Mem where
 cells : List (Nat × Nat × SV)
 blks : List (Nat × BI)
 next : Nat
def Mem.get (M : Mem) (b o : Nat) : Option SV :=
 match findC M.cells b o with
 | some v => some v
 | none => match look M.blks b with
  | some i => i.init[o]?
  | none => none
def Mem.on (m b : Mem) : Mem := ⟨m.cells ++ b.cells, m.blks ++ b.blks, m.next⟩
def Mem.fresh (b : Mem) : Mem := ⟨[], [], b.next⟩
def Mem.rangeOld (M : Mem) (b : Nat) : Nat → Nat → Option (List SV)
 | _, 0 => some []
 | o, n + 1 => match M.get b o with
  | some v => match M.rangeOld b (o + 1) n with
   | some r => some (v :: r)
   | none => none
  | none => none
def ofCell : Value → Option SV
 | .int k n => some (.int k (.lit n))
 | .bool b => some (.bool (.lit b))
 | .string s => some (.str s)
 | .pointer none => some .nilP
 | .slice none l c => some (.sl none l c)
 | .map none => some .nilM
 | .nilFunc => some .nilF
 | .nilIface => some .nilI
 | _ => none
def ofCells : List Value → Option (List SV)
 | [] => some []
 | v :: r => match ofCell v with
  | some s => match ofCells r with
   | some l => some (s :: l)
   | none => none
  | none => none
def ofValue : Value → Option TV
 | .agg cs => match ofCells cs.toList with
  | some l => some (.agg l)
  | none => none
 | v => match ofCell v with
  | some s => some (.one s)
  | none => none
def aggT (P : Program) (t : TypeId) : Option Bool :=
 match P.underlying t with
 | some (.struct _) => some true
 | some (.array _ _) => some true
 | some _ => some false
 | none => none
def sizeT (P : Program) (t : TypeId) : Option Nat :=
 match P.info? t with
 | some i => some i.size
 | none => none
def zeroT (P : Program) (t : TypeId) : Option (List SV) :=
 match P.info? t with
 | some i => match i.zero with
  | some z => ofCells z.cells.toList
  | none => none
 | none => none
def TV.cells : TV → Option (List SV)
 | .one v => some [v]
 | .agg l => some l
 | _ => none
def TV.ofPart : Part → Option TV
 | (true, l) => some (.agg l)
 | (false, [v]) => some (.one v)
 | (false, _) => none
def TV.toPart : TV → Option Part
 | .one v => some (false, [v])
 | .agg l => some (true, l)
 | _ => none
def partS (P : Program) (t : TypeId) (l : List SV) (off : Nat) : Option TV :=
 match aggT P t with
 | some true => match sizeT P t with
  | some n => match Nat.ble (off + n) l.length with
   | true => some (.agg ((l.drop off).take n))
   | false => none
  | none => none
 | some false => match l[off]? with
  | some v => some (.one v)
  | none => none
 | none => none
def SB.not : SB → SB
 | .lit b => .lit (!b)
 | .sym b => .sym (!b)
def SB.and : SB → SB → SB
 | .lit true, y => y
 | .lit false, _ => .lit false
 | .sym b, .lit true => .sym b
 | .sym _, .lit false => .lit false
 | .sym a, .sym b => .sym (a && b)
def SB.eq : SB → SB → SB
 | .lit a, .lit b => .lit (a == b)
 | .lit a, .sym b => .sym (a == b)
 | .sym a, .lit b => .sym (a == b)
 | .sym a, .sym b => .sym (a == b)
def SB.ite (b : Bool) : SB → SB → SB
 | .lit true, .lit true => .lit true
 | .lit false, .lit false => .lit false
 | .lit true, .lit false => .sym b
 | .lit false, .lit true => .sym (!b)
 | .lit x, .sym y => .sym (bif b then x else y)
 | .sym x, .lit y => .sym (bif b then x else y)
 | .sym x, .sym y => .sym (bif b then x else y)
def SI.ite (b : Bool) : SI → SI → SI
 | .lit x, .lit y => match decide (x = y) with
  | true => .lit x
  | false => .sym (bif b then x else y)
 | .lit x, .sym y => .sym (bif b then x else y)
 | .sym x, .lit y => .sym (bif b then x else y)
 | .sym x, .sym y => .sym (bif b then x else y)
def SI.map2 (f : Int → Int → Int) : SI → SI → SI
 | .lit a, .lit b => .lit (f a b)
 | .lit a, .sym b => .sym (f a b)
 | .sym a, .lit b => .sym (f a b)
 | .sym a, .sym b => .sym (f a b)
def SI.map1 (f : Int → Int) : SI → SI
 | .lit a => .lit (f a)
 | .sym a => .sym (f a)
def SI.cmp (f : Int → Int → Bool) : SI → SI → SB
 | .lit a, .lit b => .lit (f a b)
 | .lit a, .sym b => .sym (f a b)
 | .sym a, .lit b => .sym (f a b)
 | .sym a, .sym b => .sym (f a b)
def gadd (k : IntKind) (a b : Int) : Int := k.wrap (a + b)
def gsub (k : IntKind) (a b : Int) : Int := k.wrap (a - b)
def gmul (k : IntKind) (a b : Int) : Int := k.wrap (a * b)
def gquo (k : IntKind) (a b : Int) : Int := k.wrap (a.tdiv b)
def gshl (k : IntKind) (a b : Int) : Int := k.wrap (a * 2 ^ (min b.toNat k.bits))
def gshr (k : IntKind) (a b : Int) : Int := a.fdiv (2 ^ (min b.toNat k.bits))
def gmin (a b : Int) : Int := if b < a then b else a
def gmax (a b : Int) : Int := if b > a then b else a
def intBin (op : BinOp) (k : IntKind) (a b : SI) : Option (SB × SV) :=
 match op with
 | .add => some (.lit true, .int k (SI.map2 (gadd k) a b))
 | .sub => some (.lit true, .int k (SI.map2 (gsub k) a b))
 | .mul => some (.lit true, .int k (SI.map2 (gmul k) a b))
 | .quo => some (SI.cmp (fun x y => !decide (y = x)) (.lit 0) b, .int k (SI.map2 (gquo k) a b))
 | .rem => some (SI.cmp (fun x y => !decide (y = x)) (.lit 0) b, .int k (SI.map2 Int.tmod a b))
 | .and => some (.lit true, .int k (SI.map2 (bits .and k) a b))
 | .or => some (.lit true, .int k (SI.map2 (bits .or k) a b))
 | .xor => some (.lit true, .int k (SI.map2 (bits .xor k) a b))
 | .andNot => some (.lit true, .int k (SI.map2 (bits .andNot k) a b))
 | .eql => some (.lit true, .bool (SI.cmp (fun x y => x == y) a b))
 | .neq => some (.lit true, .bool (SI.cmp (fun x y => x != y) a b))
 | .lss => some (.lit true, .bool (SI.cmp (fun x y => decide (x < y)) a b))
 | .leq => some (.lit true, .bool (SI.cmp (fun x y => decide (x ≤ y)) a b))
 | .gtr => some (.lit true, .bool (SI.cmp (fun x y => decide (x > y)) a b))
 | .geq => some (.lit true, .bool (SI.cmp (fun x y => decide (x ≥ y)) a b))
 | _ => none
def kindEq : IntKind → IntKind → Bool
 | .i8, .i8 => true
 | .i16, .i16 => true
 | .i32, .i32 => true
 | .i64, .i64 => true
 | .u8, .u8 => true
 | .u16, .u16 => true
 | .u32, .u32 => true
 | .u64, .u64 => true
 | _, _ => false
def isBoolT (P : Program) (t : TypeId) : Bool :=
 match P.underlying t with
 | some .bool => true
 | _ => false
def catB (a b : ByteArray) : ByteArray := ⟨(a.data.toList ++ b.data.toList).toArray⟩
def byteAt (s : ByteArray) (n : Int) : Int := match s.data.toList[n.toNat]? with
 | some b => (b.toNat : Int)
 | none => 0
def inStr (s : ByteArray) (n : Int) : Bool := decide (0 ≤ n) && decide (n < (s.size : Int))
def bytesOf : List SV → Option (List Int)
 | [] => some []
 | .int .u8 n :: r => match bytesOf r with
  | some l => some (n.val :: l)
  | none => none
 | _ => none
def strB (l : List Int) : ByteArray := ⟨(l.map fun n => UInt8.ofNat n.toNat).toArray⟩
def sBin (P : Program) (op : BinOp) (xt : TypeId) : SV → SV → Option (SB × SV)
 | .int k a, .int k' b =>
  match op with
  | .shl => some (SI.cmp (fun x y => decide (x ≤ y)) (.lit 0) b, .int k (SI.map2 (gshl k) a b))
  | .shr => some (SI.cmp (fun x y => decide (x ≤ y)) (.lit 0) b, .int k (SI.map2 (gshr k) a b))
  | _ => match kindEq k k' with
   | true => intBin op k a b
   | false => none
 | .bool a, .bool b => match isBoolT P xt with
  | true => match op with
   | .eql => some (.lit true, .bool (SB.eq a b))
   | .neq => some (.lit true, .bool (SB.eq a b).not)
   | _ => none
  | false => none
 | .str a, .str b =>
  match op with
  | .eql => some (.lit true, .bool (.sym (a.toList == b.toList)))
  | .neq => some (.lit true, .bool (.sym !(a.toList == b.toList)))
  | .add => some (.sym (decide (((a.size + b.size : Nat) : Int) ≤ 9223372036854775807)), .str (catB a b))
  | _ => none
 | _, _ => none
def eqCell (P : Program) (t : TypeId) : SV → SV → Option SB
 | .int k a, .int k' b => match kindEq k k' with
  | true => match P.underlying t with
   | some (.int _) => some (SI.cmp (fun x y => x == y) a b)
   | _ => none
  | false => none
 | .bool a, .bool b => match P.underlying t with
  | some .bool => some (SB.eq a b)
  | _ => none
 | .str a, .str b => match P.underlying t with
  | some .string => some (.sym (a == b))
  | _ => none
 | _, _ => none
def eqFields (P : Program) (E : TypeId → TV → TV → Option SB) (xs ys : List SV) : List Field → Option SB
 | [] => some (.lit true)
 | f :: r => match f.name == "_" with
  | true => none
  | false => match partS P f.type xs f.offset with
   | some a => match partS P f.type ys f.offset with
    | some b => match E f.type a b with
     | some c => match eqFields P E xs ys r with
      | some d => some (c.and d)
      | none => none
     | none => none
    | none => none
   | none => none
def eqTV (P : Program) : Nat → TypeId → TV → TV → Option SB
 | 0, _, _, _ => none
 | n + 1, t, x, y =>
  match x, y with
  | .one a, .one b => eqCell P t a b
  | .agg xs, .agg ys =>
   match P.underlying t with
   | some (.struct fs) => match P.stoodInHeld t with
    | true => none
    | false => eqFields P (eqTV P n) xs ys fs.toList
   | _ => none
  | _, _ => none
structure Eff where
 vc : SB
 val : TV
 ws : List (Nat × Nat × SV)
 nb : Option (TypeId × List SV)
inductive PR where
 | fail
 | ok (e : Eff)
 | br (b : Bool) (x y : PR)
def Eff.pure (v : TV) : Eff := ⟨.lit true, v, [], none⟩
def Eff.ret (v : TV) : PR := .ok (.pure v)
def evalO (S : Nat → Option TV) : Operand → Option TV
 | .tmp t => match S t with
  | some .un => none
  | some .ud => none
  | r => r
 | .const v => ofValue v
 | .func g => some (.one (.clo g []))
 | .global _ => none
def SV.merge (b : Bool) : SV → SV → Option SV
 | .int k x, .int k' y => match kindEq k k' with
  | true => some (.int k (SI.ite b x y))
  | false => none
 | .bool x, .bool y => some (.bool (SB.ite b x y))
 | .ptr c o, .ptr c' o' => match Nat.beq c c' && Nat.beq o o' with
  | true => some (.ptr c o)
  | false => none
 | .str x, .str y => some (.str (bif b then x else y))
 | .sl a n c, .sl a' n' c' => some (.sl (bif b then a else a') (bif b then n else n') (bif b then c else c'))
 | .row p o n c, .row p' o' n' c' => match Nat.beq p p' && Nat.beq o o' && Nat.beq n n' && Nat.beq c c' with
  | true => some (.row p o n c)
  | false => none
 | .nilP, .nilP => some .nilP
 | .nilF, .nilF => some .nilF
 | .nilI, .nilI => some .nilI
 | .nilM, .nilM => some .nilM
 | .clo g cs, .clo g' cs' => match Nat.beq g g' && decide (cs = cs') with
  | true => some (.clo g cs)
  | false => none
 | _, _ => none
def mergeL (b : Bool) : List SV → List SV → Option (List SV)
 | [], [] => some []
 | x :: xs, y :: ys => match SV.merge b x y with
  | some v => match mergeL b xs ys with
   | some l => some (v :: l)
   | none => none
  | none => none
 | _, _ => none
def mergeP (b : Bool) : List Part → List Part → Option (List Part)
 | [], [] => some []
 | (k, x) :: xs, (k', y) :: ys => match k == k' with
  | true => match mergeL b x y with
   | some v => match mergeP b xs ys with
    | some l => some ((k, v) :: l)
    | none => none
   | none => none
  | false => none
 | _, _ => none
def TV.merge (b : Bool) : TV → TV → TV
 | .one x, .one y => match SV.merge b x y with
  | some v => .one v
  | none => .un
 | .agg x, .agg y => match mergeL b x y with
  | some l => .agg l
  | none => .un
 | .tup x, .tup y => match mergeP b x y with
  | some l => .tup l
  | none => .un
 | .ud, .ud => .ud
 | _, _ => .un
def fillS (place : Nat → Option (Nat × Nat)) (cells : List SV) : List (Nat × TV) → Option (List SV)
 | [] => some cells
 | (i, v) :: rest => match place i with
  | none => none
  | some (off, size) => match v.cells with
   | none => none
   | some l => match Nat.beq l.length size && Nat.ble (off + size) cells.length with
    | true => fillS place (cells.take off ++ l ++ cells.drop (off + size)) rest
    | false => none
def places (P : Program) : List Field → Option (List (Nat × Nat))
 | [] => some []
 | f :: r => match sizeT P f.type with
  | some n => match places P r with
   | some l => some ((f.offset, n) :: l)
   | none => none
  | none => none
def evalParts (S : Nat → Option TV) : List (Nat × Operand) → Option (List (Nat × TV))
 | [] => some []
 | (i, x) :: r => match evalO S x with
  | some v => match evalParts S r with
   | some l => some ((i, v) :: l)
   | none => none
  | none => none
def evalList (S : Nat → Option TV) : List Operand → Option (List TV)
 | [] => some []
 | x :: r => match evalO S x with
  | some v => match evalList S r with
   | some l => some (v :: l)
   | none => none
  | none => none
def capsOf : List TV → Option (List (Nat × Nat))
 | [] => some []
 | .one (.ptr b o) :: r => match capsOf r with
  | some l => some ((b, o) :: l)
  | none => none
 | _ => none
def rangeC (C : Nat → Nat → Option SV) (b : Nat) : Nat → Nat → Option (List SV)
 | _, 0 => some []
 | o, n + 1 => match C b o with
  | some v => match rangeC C b (o + 1) n with
   | some r => some (v :: r)
   | none => none
  | none => none
def wsOf (b : Nat) : Nat → List SV → List (Nat × Nat × SV) → List (Nat × Nat × SV)
 | _, [], acc => acc
 | o, v :: r, acc => wsOf b (o + 1) r ((b, o, v) :: acc)
def onIndex (x : Int) (F : Nat → PR) : Nat → Nat → PR
 | 0, _ => .fail
 | 1, i => match F i with
  | .ok e => .ok { e with vc := (SB.sym (decide (x = (i : Int)))).and e.vc }
  | _ => .fail
 | n + 2, i => .br (decide (x = (i : Int))) (F i) (onIndex x F (n + 1) (i + 1))
def withIndex (n : Nat) (ix : SI) (F : Nat → PR) : PR :=
 match ix with
 | .lit x => match x with
  | .ofNat i => match Nat.blt i n with
   | true => F i
   | false => .fail
  | .negSucc _ => .fail
 | .sym x => onIndex x F n 0
def isInt (W : World) (k : IntKind) (a : Addr) : Bool :=
 match W.cell? a with
 | some (.int k' _) => decide (k' = k)
 | _ => false
def rdInt (W : World) (a : Addr) : Int :=
 match W.cell? a with
 | some (.int _ n) => n
 | _ => 0
def isBool (W : World) (a : Addr) : Bool :=
 match W.cell? a with
 | some (.bool _) => true
 | _ => false
def rdBool (W : World) (a : Addr) : Bool :=
 match W.cell? a with
 | some (.bool b) => b
 | _ => false
def isStr (W : World) (a : Addr) : Bool :=
 match W.cell? a with
 | some (.string _) => true
 | _ => false
def rdStr (W : World) (a : Addr) : ByteArray :=
 match W.cell? a with
 | some (.string s) => s
 | _ => ⟨#[]⟩
def inRow (a : Option Addr) (n : Nat) (x : Int) : Bool := a.isSome && decide (0 ≤ x) && decide (x < (n : Int))
def atRow (a : Option Addr) (x : Int) (s : Nat) : Addr := (a.getD default).add (x.toNat * s)
def oldCell (P : Program) (W : World) (t : TypeId) (a : Addr) : Option (Bool × SV) :=
 match P.underlying t with
 | some (.int k) => some (isInt W k a, .int k (.sym (rdInt W a)))
 | some .bool => some (isBool W a, .bool (.sym (rdBool W a)))
 | some .string => some (isStr W a, .str (rdStr W a))
 | _ => none
def oldCells (P : Program) (W : World) (a : Addr) : Nat → List TypeId → Option (List (Bool × SV))
 | _, [] => some []
 | i, t :: r => match oldCell P W t (a.add i) with
  | some v => match oldCells P W a (i + 1) r with
   | some l => some (v :: l)
   | none => none
  | none => none
def cutA (q : Option Addr) (cp l s : Nat) : Option Addr := if cp = l then q else q.map fun a => a.add (l * s)
def prim (P : Program) (W : World) (o : Oper) (nid : Nat) (S : Nat → Option TV) (C : Nat → Nat → Option SV) (K : Nat → Option BI) : PR :=
 match o.op with
 | .move x => match evalO S x with
  | some v => Eff.ret v
  | none => .fail
 | .assign x => match evalO S x with
  | some v => Eff.ret v
  | none => .fail
 | .pick c a b => match evalO S c with
  | some (.one (.bool (.lit true))) => match evalO S a with
   | some v => Eff.ret v
   | none => .fail
  | some (.one (.bool (.lit false))) => match evalO S b with
   | some v => Eff.ret v
   | none => .fail
  | some (.one (.bool (.sym q))) => .br q (match evalO S a with
   | some v => Eff.ret v
   | none => .fail) (match evalO S b with
   | some v => Eff.ret v
   | none => .fail)
  | _ => .fail
 | .alloc t => match zeroT P t with
  | some z => .ok ⟨.lit true, .one (.ptr nid 0), [], some (t, z)⟩
  | none => .fail
 | .box t x => match evalO S x with
  | some v => match v.cells with
   | some l => .ok ⟨.lit true, .one (.ptr nid 0), [], some (t, l)⟩
   | none => .fail
  | none => .fail
 | .build t ps => match evalParts S ps.toList with
  | none => .fail
  | some l => match zeroT P t with
   | none => .fail
   | some z => match P.underlying t with
    | some (.struct fs) => match places P fs.toList with
     | some pl => match fillS (fun i => pl[i]?) z l with
      | some c => Eff.ret (.agg c)
      | none => .fail
     | none => .fail
    | some (.array _ e) => match sizeT P e with
     | some n => match fillS (fun i => some (i * n, n)) z l with
      | some c => Eff.ret (.agg c)
      | none => .fail
     | none => .fail
    | _ => .fail
 | .buildSlice t len ps => match P.underlying t with
  | some (.slice e) => match sizeT P e with
   | some n => match Nat.ble (len * n) 16777216 && Nat.blt 0 (len * n) with
    | true => match zeroT P e with
     | some z => match Nat.beq z.length n with
      | true => match evalParts S ps.toList with
       | some l => match fillS (fun i => some (i * n, n)) ((List.range (len * n)).map fun i => (z[i % n]?).getD .nilP) l with
        | some c => .ok ⟨.lit true, .one (.row nid 0 len len), [], some (e, c)⟩
        | none => .fail
       | none => .fail
      | false => .fail
     | none => .fail
    | false => .fail
   | none => .fail
  | _ => .fail
 | .load t a => match evalO S a with
  | some (.one (.ptr b off)) => match aggT P t with
   | some true => match sizeT P t with
    | some n => match rangeC C b off n with
     | some l => Eff.ret (.agg l)
     | none => .fail
    | none => .fail
   | some false => match C b off with
    | some v => Eff.ret (.one v)
    | none => .fail
   | none => .fail
  | some (.one (.pa q)) => match aggT P t with
   | some true => match sizeT P t, P.cellTypes P.depth t with
    | some n, some ts => match Nat.beq ts.length n with
     | true => match oldCells P W q 0 ts with
      | some l => .ok ⟨.sym (l.all (·.1)), .agg (l.map (·.2)), [], none⟩
      | none => .fail
     | false => .fail
    | _, _ => .fail
   | some false => match oldCell P W t q with
    | some (c, v) => .ok ⟨.sym c, .one v, [], none⟩
    | none => .fail
   | none => .fail
  | _ => .fail
 | .store t a x => match evalO S a with
  | some (.one (.ptr b off)) => match evalO S x with
   | some v => match v.cells with
    | some l => match sizeT P t with
     | some n => match K b with
      | some i => match Nat.beq l.length n && i.rw && Nat.ble (off + n) i.init.length with
       | true => .ok ⟨.lit true, .un, wsOf b off l [], none⟩
       | false => .fail
      | none => .fail
     | none => .fail
    | none => .fail
   | none => .fail
  | _ => .fail
 | .nilCheck x => match evalO S x with
  | some (.one (.ptr b off)) => Eff.ret (.one (.ptr b off))
  | some (.one (.pa q)) => Eff.ret (.one (.pa q))
  | _ => .fail
 | .binOp op xt x y _ => match evalO S x with
  | some (.one a) => match evalO S y with
   | some (.one b) => match sBin P op xt a b with
    | some (c, v) => .ok ⟨c, .one v, [], none⟩
    | none => .fail
   | _ => .fail
  | some (.agg a) => match evalO S y with
   | some (.agg b) => match P.eqGuardType P.depth xt with
    | true => .fail
    | false => match eqTV P 20 xt (.agg a) (.agg b) with
     | some c => match op with
      | .eql => Eff.ret (.one (.bool c))
      | .neq => Eff.ret (.one (.bool c.not))
      | _ => .fail
     | none => .fail
   | _ => .fail
  | _ => .fail
 | .unOp op _ x => match evalO S x with
  | some (.one (.bool b)) => match op with
   | .not => Eff.ret (.one (.bool b.not))
   | _ => .fail
  | some (.one (.int k n)) => match op with
   | .neg => Eff.ret (.one (.int k (SI.map1 (fun x => gsub k 0 x) n)))
   | .xor => Eff.ret (.one (.int k (SI.map1 (fun x => bits .xor k (if k.signed then -1 else k.max) x) n)))
   | _ => .fail
  | _ => .fail
 | .convert src dst x => match evalO S x with
  | some (.one (.int _ n)) => match P.underlying src with
   | some _ => match P.underlying dst with
    | some (.int k) => Eff.ret (.one (.int k (SI.map1 k.wrap n)))
    | _ => .fail
   | none => .fail
  | some (.one (.row b off len _)) => match P.underlying src, P.underlying dst with
   | some (.slice e), some .string => match P.underlying e with
    | some (.int .u8) => match rangeC C b off len with
     | some l => match bytesOf l with
      | some xs => Eff.ret (.one (.str (strB xs)))
      | none => .fail
     | none => .fail
    | _ => .fail
   | _, _ => .fail
  | _ => .fail
 | .makeFunc fn first captured => match fn with
  | .func g => match first.toList with
   | [] => match evalList S captured.toList with
    | some l => match capsOf l with
     | some cs => Eff.ret (.one (.clo g cs))
     | none => .fail
    | none => .fail
   | _ => .fail
  | _ => .fail
 | .fieldAddr s x f => match evalO S x with
  | some (.one (.ptr b off)) => match P.underlying s with
   | some (.struct fs) => match fs.toList[f]? with
    | some fd => match sizeT P fd.type with
     | some 0 => .fail
     | some _ => Eff.ret (.one (.ptr b (off + fd.offset)))
     | none => .fail
    | none => .fail
   | _ => .fail
  | some (.one (.pa q)) => match P.underlying s with
   | some (.struct fs) => match fs.toList[f]? with
    | some fd => match sizeT P fd.type with
     | some 0 => .fail
     | some _ => Eff.ret (.one (.pa (q.add fd.offset)))
     | none => .fail
    | none => .fail
   | _ => .fail
  | _ => .fail
 | .field xt x f => match evalO S x with
  | some (.agg l) => match P.underlying xt with
   | some (.struct fs) => match fs.toList[f]? with
    | some fd => match partS P fd.type l fd.offset with
     | some v => Eff.ret v
     | none => .fail
    | none => .fail
   | _ => .fail
  | _ => .fail
 | .indexAddr t x ix => match evalO S x with
  | some (.one (.ptr b off)) => match evalO S ix with
   | some (.one (.int _ n)) => match P.underlying t with
    | some (.array len e) => match sizeT P e with
     | some s => withIndex len n fun i => Eff.ret (.one (.ptr b (off + i * s)))
     | none => .fail
    | _ => .fail
   | _ => .fail
  | some (.one (.row b off len _)) => match evalO S ix with
   | some (.one (.int _ n)) => match P.underlying t with
    | some (.slice e) => match sizeT P e with
     | some s => withIndex len n fun i => Eff.ret (.one (.ptr b (off + i * s)))
     | none => .fail
    | _ => .fail
   | _ => .fail
  | some (.one (.sl q len _)) => match evalO S ix with
   | some (.one (.int _ n)) => match P.underlying t with
    | some (.slice e) => match sizeT P e with
     | some s => .ok ⟨.sym (inRow q len n.val), .one (.pa (atRow q n.val s)), [], none⟩
     | none => .fail
    | _ => .fail
   | _ => .fail
  | _ => .fail
 | .index t x ix => match evalO S x with
  | some (.agg l) => match evalO S ix with
   | some (.one (.int _ n)) => match P.underlying t with
    | some (.array len e) => match sizeT P e with
     | some s => withIndex len n fun i => match partS P e l (i * s) with
      | some v => Eff.ret v
      | none => .fail
     | none => .fail
    | _ => .fail
   | _ => .fail
  | some (.one (.str s)) => match evalO S ix with
   | some (.one (.int _ n)) => match P.underlying t with
    | some .string => .ok ⟨SI.cmp (fun n _ => inStr s n) n (.lit 0), .one (.int .u8 (SI.map1 (byteAt s) n)), [], none⟩
    | _ => .fail
   | _ => .fail
  | _ => .fail
 | .slice t x lo hi none => match evalO S x with
  | some (.one (.str s)) => match P.underlying t with
   | some .string => match lo, hi with
    | some l, none => match evalO S l with
     | some (.one (.int _ l)) => .ok ⟨SI.cmp (fun l _ => decide (0 ≤ l) && decide (l ≤ (s.size : Int))) l (.lit 0), .one (.str (s.extract l.val.toNat s.size)), [], none⟩
     | _ => .fail
    | none, some h => match evalO S h with
     | some (.one (.int _ h)) => .ok ⟨SI.cmp (fun h _ => decide (0 ≤ h) && decide (h ≤ (s.size : Int))) h (.lit 0), .one (.str (s.extract 0 h.val.toNat)), [], none⟩
     | _ => .fail
    | some l, some h => match evalO S l, evalO S h with
     | some (.one (.int _ l)), some (.one (.int _ h)) => .ok ⟨SI.cmp (fun l h => decide (0 ≤ l) && (decide (l ≤ h) && decide (h ≤ (s.size : Int)))) l h, .one (.str (s.extract l.val.toNat h.val.toNat)), [], none⟩
     | _, _ => .fail
    | _, _ => .fail
   | _ => .fail
  | some (.one (.sl q len cp)) => match P.underlying t with
   | some (.slice e) => match sizeT P e with
    | some s => match lo, hi with
     | some l, none => match evalO S l with
      | some (.one (.int _ l)) => .ok ⟨.sym (decide (0 ≤ l.val) && decide (l.val ≤ (len : Int))), .one (.sl (cutA q cp l.val.toNat s) (len - l.val.toNat) (cp - l.val.toNat)), [], none⟩
      | _ => .fail
     | none, some h => match evalO S h with
      | some (.one (.int _ h)) => .ok ⟨.sym (decide (0 ≤ h.val) && decide (h.val ≤ (cp : Int))), .one (.sl (cutA q cp 0 s) h.val.toNat cp), [], none⟩
      | _ => .fail
     | _, _ => .fail
    | none => .fail
   | _ => .fail
  | some (.one (.row b off len cp)) => match P.underlying t with
   | some (.slice e) => match sizeT P e with
    | some s => match lo, hi with
     | some l, none => match evalO S l with
      | some (.one (.int _ l)) => .ok ⟨.sym (decide (0 ≤ l.val) && (decide (l.val ≤ (len : Int)) && decide (l.val < (cp : Int)))), .one (.row b (off + l.val.toNat * s) (len - l.val.toNat) (cp - l.val.toNat)), [], none⟩
      | _ => .fail
     | none, some h => match evalO S h with
      | some (.one (.int _ h)) => .ok ⟨.sym (decide (0 ≤ h.val) && decide (h.val ≤ (cp : Int))), .one (.row b off h.val.toNat cp), [], none⟩
      | _ => .fail
     | _, _ => .fail
    | none => .fail
   | _ => .fail
  | _ => .fail
 | .sliceToArrayPointer arr x => match evalO S x with
  | some (.one (.sl q len _)) => match P.underlying arr with
   | some (.array k _) => .ok ⟨.sym (q.isSome && decide (k ≤ len)), .one (.pa (q.getD default)), [], none⟩
   | _ => .fail
  | _ => .fail
 | .extract x i => match evalO S x with
  | some (.tup ps) => match ps[i]? with
   | some p => match TV.ofPart p with
    | some v => Eff.ret v
    | none => .fail
   | none => .fail
  | _ => .fail
 | .call c => match c.callee with
  | .builtin .len => match c.args.toList with
   | [x] => match evalO S x with
    | some (.one (.sl _ n _)) => match c.argTypes[0]? with
     | some t => match P.underlying t with
      | some (.slice _) => Eff.ret (.one (.int .i64 (.sym (n : Int))))
      | _ => .fail
     | none => .fail
    | some (.one (.row _ _ n _)) => match c.argTypes[0]? with
     | some t => match P.underlying t with
      | some (.slice _) => Eff.ret (.one (.int .i64 (.lit (n : Int))))
      | _ => .fail
     | none => .fail
    | some (.one (.str s)) => match c.argTypes[0]? with
     | some t => match P.underlying t with
      | some .string => Eff.ret (.one (.int .i64 (.sym (s.size : Int))))
      | _ => .fail
     | none => .fail
    | _ => .fail
   | _ => .fail
  | .builtin .min => match evalList S c.args.toList with
   | some [.one (.int k a), .one (.int k' b)] => match kindEq k k' with
    | true => Eff.ret (.one (.int k (SI.map2 gmin a b)))
    | false => .fail
   | _ => .fail
  | .builtin .max => match evalList S c.args.toList with
   | some [.one (.int k a), .one (.int k' b)] => match kindEq k k' with
    | true => Eff.ret (.one (.int k (SI.map2 gmax a b)))
    | false => .fail
   | _ => .fail
  | _ => .fail
 | _ => .fail
inductive Ex where
 | nrm
 | ret
 | exit (id : Nat)
 | res (v : TV)
inductive R where
 | fail
 | leaf (e : Ex) (vc : SB) (s : SL) (m : Mem)
 | br (b : Bool) (x y : R)
def R.addVc (c : SB) : R → R
 | .fail => .fail
 | .leaf e vc s m => .leaf e (c.and vc) s m
 | .br b x y => .br b (x.addVc c) (y.addVc c)
def R.bind (g : SL → Mem → R) : R → R
 | .fail => .fail
 | .leaf .nrm vc s m => (g s m).addVc vc
 | .leaf e vc s m => .leaf e vc s m
 | .br b x y => .br b (x.bind g) (y.bind g)
def R.over (s : SL) (m : Mem) : R → R
 | .fail => .fail
 | .leaf e vc s' m' => .leaf e vc (s' ++ s) (m'.on m)
 | .br b x y => .br b (x.over s m) (y.over s m)
def R.unblock (id : Nat) : R → R
 | .fail => .fail
 | .leaf (.exit i) vc s m => .leaf (match Nat.beq i id with | true => .nrm | false => .exit i) vc s m
 | .leaf e vc s m => .leaf e vc s m
 | .br b x y => .br b (x.unblock id) (y.unblock id)
def memN (n : Nat) : List Nat → Bool
 | [] => false
 | k :: r => match Nat.beq k n with
  | true => true
  | false => memN n r
def memC (b o : Nat) : List (Nat × Nat) → Bool
 | [] => false
 | (c, p) :: r => match Nat.beq c b && Nat.beq p o with
  | true => true
  | false => memC b o r
def keysN : SL → List Nat → List Nat
 | [], acc => acc
 | (k, _) :: r, acc => match memN k acc with
  | true => keysN r acc
  | false => keysN r (k :: acc)
def keysC : List (Nat × Nat × SV) → List (Nat × Nat) → List (Nat × Nat)
 | [], acc => acc
 | (b, o, _) :: r, acc => match memC b o acc with
  | true => keysC r acc
  | false => keysC r ((b, o) :: acc)
def look2 (s bs : SL) (k : Nat) : TV :=
 match look s k with
 | some v => v
 | none => match look bs k with
  | some v => v
  | none => .un
def mergeS (b : Bool) (s1 s2 bs : SL) : List Nat → SL
 | [] => []
 | k :: r => (k, TV.merge b (look2 s1 bs k) (look2 s2 bs k)) :: mergeS b s1 s2 bs r
def mergeC (b : Bool) (m1 m2 bm : Mem) : List (Nat × Nat) → Option (List (Nat × Nat × SV))
 | [] => some []
 | (c, o) :: r => match look bm.blks c with
  | none => mergeC b m1 m2 bm r
  | some _ => match (m1.on bm).get c o, (m2.on bm).get c o with
   | some x, some y => match SV.merge b x y with
    | some v => match mergeC b m1 m2 bm r with
     | some l => some ((c, o, v) :: l)
     | none => none
    | none => none
   | _, _ => none
def freshB (bm : Mem) : List (Nat × BI) → Bool
 | [] => true
 | (b, _) :: r => match look bm.blks b with
  | some _ => false
  | none => freshB bm r
def mergeM (b : Bool) (m1 m2 bm : Mem) : Option Mem :=
 match freshB bm m1.blks && freshB bm m2.blks with
 | true => match mergeC b m1 m2 bm (keysC m1.cells (keysC m2.cells [])) with
  | some l => some ⟨l, [], max m1.next m2.next⟩
  | none => none
 | false => none
def exMerge (b : Bool) : Ex → Ex → Option Ex
 | .nrm, .nrm => some .nrm
 | .ret, .ret => some .ret
 | .exit i, .exit j => match Nat.beq i j with
  | true => some (.exit i)
  | false => none
 | .res x, .res y => match TV.merge b x y with
  | .un => none
  | v => some (.res v)
 | _, _ => none
def R.join (bs : SL) (bm : Mem) (b : Bool) : R → R → R
 | .leaf e1 v1 s1 m1, .leaf e2 v2 s2 m2 => match exMerge b e1 e2 with
  | some e => match mergeM b m1 m2 bm with
   | some m => .leaf e (SB.ite b v1 v2) (mergeS b s1 s2 bs (keysN s1 (keysN s2 []))) m
   | none => .br b (.leaf e1 v1 s1 m1) (.leaf e2 v2 s2 m2)
  | none => .br b (.leaf e1 v1 s1 m1) (.leaf e2 v2 s2 m2)
 | x, y => .br b x y
def R.collapse (bs : SL) (bm : Mem) : R → R
 | .fail => .fail
 | .leaf e vc s m => .leaf e vc s m
 | .br b x y => R.join bs bm b (x.collapse bs bm) (y.collapse bs bm)
structure Spec where
 rd : List TV → List (Nat × Nat × Nat)
 kn : List TV → List Nat
 fx : List TV → (Nat → Nat → Option SV) → (Nat → Option BI) → Option Eff
structure Entry where
 ix : Nat
 o : Oper
 ins : SL
 rd : List (Nat × Nat × SV)
 kn : List (Nat × BI)
 eff : Option Eff
 nid : Nat
inductive Job where
 | code (c : Code)
 | ops (all : Array Oper) (rest : List Oper)
 | dops (all : Array Oper) (rest : List Oper) (i : Nat) (tr : List Entry) (dec : List (Nat × Bool))
 | fn (g : FuncId) (args : List TV)
structure Cf where
 nt : Nat
 bs : SL
 bm : Mem
def Cf.S (B : Cf) (s : SL) : Nat → Option TV := fun k => look (s ++ B.bs) k
def Cf.M (B : Cf) (m : Mem) : Mem := m.on B.bm
def putS (d : Option Nat) (v : TV) (s : SL) : SL :=
 match d with
 | some k => (k, v) :: s
 | none => s
def dstOk (nt : Nat) : Option Nat → Bool
 | some k => Nat.blt k nt
 | none => true
def putM (e : Eff) (m : Mem) : Mem :=
 match e.nb with
 | some (t, l) => ⟨e.ws ++ m.cells, (m.next, ⟨t, l, true⟩) :: m.blks, m.next + 1⟩
 | none => ⟨e.ws ++ m.cells, m.blks, m.next⟩
def allB {α : Type} (p : α → Bool) : List α → Bool
 | [] => true
 | x :: r => match p x with
  | true => allB p r
  | false => false
def SV.lt (n : Nat) : SV → Bool
 | .ptr b _ => Nat.blt b n
 | .row b _ _ _ => Nat.blt b n
 | .clo _ cs => allB (fun c => Nat.blt c.1 n) cs
 | _ => true
def TV.lt (n : Nat) : TV → Bool
 | .un => true
 | .ud => true
 | .one v => v.lt n
 | .agg l => allB (SV.lt n) l
 | .tup ps => allB (fun p => allB (SV.lt n) p.2) ps
def ltS (n : Nat) (s : SL) : Bool := allB (fun p => p.2.lt n) s
def ltM (n : Nat) (m : Mem) : Bool :=
 allB (fun p => SV.lt n p.2.2) m.cells && allB (fun p => Nat.blt p.1 n && allB (SV.lt n) p.2.init) m.blks
def newOk (s : SL) (m : Mem) (e : Eff) : Bool :=
 match e.nb with
 | none => true
 | some (_, l) => match e.ws with
  | [] => ltS m.next s && ltM m.next m && allB (SV.lt m.next) l
  | _ => false
def resultsS (P : Program) (S : Nat → Option TV) (M : Mem) : List ResultVar → Option (List Part)
 | [] => some []
 | .tmp t :: r => match S t with
  | some v => match v.toPart with
   | some p => match resultsS P S M r with
    | some l => some (p :: l)
    | none => none
   | none => none
  | none => none
 | .cell a t :: r => match S a with
  | some (.one (.ptr b off)) => match aggT P t with
   | some true => match sizeT P t with
    | some n => match rangeC M.get b off n with
     | some l => match resultsS P S M r with
      | some q => some ((true, l) :: q)
      | none => none
     | none => none
    | none => none
   | some false => match M.get b off with
    | some v => match resultsS P S M r with
     | some q => some ((false, [v]) :: q)
     | none => none
    | none => none
   | none => none
  | _ => none
def resultV : List Part → Option TV
 | [p] => TV.ofPart p
 | ps => some (.tup ps)
def resultLeaf (P : Program) (rs : List ResultVar) (bs : SL) (bm : Mem) (vc : SB) (s : SL) (m : Mem) : R :=
 match resultsS P (look (s ++ bs)) (m.on bm) rs with
 | some ps => match resultV ps with
  | some v => .leaf (.res v) vc [] m
  | none => .fail
 | none => .fail
def R.results (P : Program) (rs : List ResultVar) (bs : SL) (bm : Mem) : R → R
 | .fail => .fail
 | .br b x y => .br b (x.results P rs bs bm) (y.results P rs bs bm)
 | .leaf .nrm vc s m => resultLeaf P rs bs bm vc s m
 | .leaf .ret vc s m => resultLeaf P rs bs bm vc s m
 | .leaf _ _ _ _ => .fail
def argSlots : Nat → List TV → SL
 | _, [] => []
 | i, v :: r => (i, v) :: argSlots (i + 1) r
def capTV (c : Nat × Nat) : TV := .one (.ptr c.1 c.2)
inductive Gd where
 | yes
 | no
 | ask (slot : Nat) (b : Bool) (want : Bool)
 | bad
def guardS (ops : Array Oper) (S : Nat → Option TV) (o : Oper) : Gd :=
 match o.guard with
 | none => .yes
 | some (j, want) => match ops[j]? with
  | some q => match q.dst with
   | some d => match S d with
    | some (.one (.bool (.lit b))) => match b == want with
     | true => .yes
     | false => .no
    | some (.one (.bool (.sym b))) => .ask d b want
    | some .ud => .no
    | _ => .bad
   | none => .bad
  | none => .bad
def PR.toR (bs : SL) (bm : Mem) (dst : Option Nat) (s : SL) (m : Mem) : PR → R
 | .fail => .fail
 | .ok e => match newOk (s ++ bs) (m.on bm) e with
  | true => .leaf .nrm e.vc (putS dst e.val s) (putM e m)
  | false => .fail
 | .br b x y => .br b (x.toR bs bm dst s m) (y.toR bs bm dst s m)
def PR.onEff (k : Eff → R) : PR → R
 | .fail => .fail
 | .ok e => (k e).addVc e.vc
 | .br b x y => .br b (x.onEff k) (y.onEff k)
def R.land (dst : Option Nat) (s : SL) (m : Mem) : R → R
 | .fail => .fail
 | .leaf (.res v) vc _ m' => .leaf .nrm vc (putS dst v s) (m'.on m)
 | .leaf _ _ _ _ => .fail
 | .br b x y => .br b (x.land dst s m) (y.land dst s m)
def callOf (o : Oper) : Option (Operand × List Operand) :=
 match o.op with
 | .call c => match c.callee with
  | .value f => some (f, c.args.toList)
  | _ => none
 | _ => none
def collectS (S : Nat → Option TV) : List Nat → SL
 | [] => []
 | t :: r => match S t with
  | some v => (t, v) :: collectS S r
  | none => collectS S r
def collectR (C : Nat → Nat → Option SV) (b : Nat) : Nat → Nat → List (Nat × Nat × SV)
 | _, 0 => []
 | o, n + 1 => match C b o with
  | some v => (b, o, v) :: collectR C b (o + 1) n
  | none => collectR C b (o + 1) n
def collectC (C : Nat → Nat → Option SV) : List (Nat × Nat × Nat) → List (Nat × Nat × SV)
 | [] => []
 | (b, o, n) :: r => collectR C b o n ++ collectC C r
def collectK (K : Nat → Option BI) : List Nat → List (Nat × BI)
 | [] => []
 | b :: r => match K b with
  | some i => (b, i) :: collectK K r
  | none => collectK K r
def readsOf (P : Program) (o : Oper) (S : Nat → Option TV) : List (Nat × Nat × Nat) :=
 match o.op with
 | .load t a => match evalO S a with
  | some (.one (.ptr b off)) => match aggT P t with
   | some true => match sizeT P t with
    | some n => [(b, off, n)]
    | none => []
   | some false => [(b, off, 1)]
   | none => []
  | _ => []
 | .convert _ _ a => match evalO S a with
  | some (.one (.row b off len _)) => [(b, off, len)]
  | _ => []
 | _ => []
def needsOf (o : Oper) (S : Nat → Option TV) : List Nat :=
 match o.op with
 | .store _ a _ => match evalO S a with
  | some (.one (.ptr b _)) => [b]
  | _ => []
 | _ => []
inductive Loc where
 | slot (t : Nat)
 | cell (b o : Nat)
 | blk (b : Nat)
def Loc.eq : Loc → Loc → Bool
 | .slot t, .slot u => Nat.beq t u
 | .cell b o, .cell c p => match Nat.beq b c with
  | true => Nat.beq o p
  | false => false
 | .blk b, .blk c => Nat.beq b c
 | _, _ => false
def anyB {α : Type} (p : α → Bool) : List α → Bool
 | [] => false
 | x :: r => match p x with
  | true => true
  | false => anyB p r
def Loc.mem (l : Loc) (ls : List Loc) : Bool := anyB l.eq ls
def Entry.wl (e : Entry) : List Loc :=
 (match e.o.dst with | some d => [.slot d] | none => []) ++
 match e.eff with
 | some f => f.ws.map (fun x => .cell x.1 x.2.1) ++ (match f.nb with | some _ => [.blk e.nid] | none => [])
 | none => []
def Entry.rl (all : Array Oper) (e : Entry) : List Loc :=
 (e.o.looksAt all).map .slot ++ e.rd.map (fun x => .cell x.1 x.2.1) ++ e.rd.map (fun x => .blk x.1) ++ e.kn.map (fun x => .blk x.1) ++
 match e.eff with
 | some f => f.ws.map (fun x => .blk x.1)
 | none => []
def clash (all : Array Oper) (x y : Entry) : Bool :=
 match anyB (fun l => l.mem (y.rl all) || l.mem y.wl) x.wl with
 | true => true
 | false => anyB (fun l => l.mem (x.rl all)) y.wl
def insN (n : Nat) (l : List Nat) : List Nat :=
 match memN n l with
 | true => l
 | false => n :: l
def unionN : List Nat → List Nat → List Nat
 | [], r => r
 | x :: l, r => unionN l (insN x r)
def nthL : List (List Nat) → Nat → List Nat
 | [], _ => []
 | l :: _, 0 => l
 | _ :: r, n + 1 => nthL r n
def ancStep (acc : List (List Nat)) : List Edge → List Nat
 | [] => []
 | e :: r => match Region.binds .any e with
  | true => insN e.on (unionN (nthL acc e.on) (ancStep acc r))
  | false => ancStep acc r
def ancs : List Oper → List (List Nat) → List (List Nat)
 | [], acc => acc
 | o :: r, acc => ancs r (acc ++ [ancStep acc o.after.toList])
def SV.free (n : Nat) : SV → Bool
 | .ptr b _ => !Nat.beq b n
 | .row b _ _ _ => !Nat.beq b n
 | .clo _ cs => allB (fun c => !Nat.beq c.1 n) cs
 | _ => true
def TV.free (n : Nat) : TV → Bool
 | .un => true
 | .ud => true
 | .one v => v.free n
 | .agg l => allB (SV.free n) l
 | .tup ps => allB (fun p => allB (SV.free n) p.2) ps
def Entry.free (n : Nat) (y : Entry) : Bool :=
 match y.eff with
 | none => true
 | some e => e.val.free n && allB (fun p => SV.free n p.2.2) e.ws && (match e.nb with | some (_, l) => allB (SV.free n) l | none => true)
def Entry.lays (x : Entry) : Bool :=
 match x.eff with
 | some e => match e.nb with
  | some _ => true
  | none => false
 | none => false
def pairOk (all : Array Oper) (an : List Nat) (x y : Entry) : Bool :=
 match x.lays && (!y.free x.nid || (y.lays && Nat.beq x.nid y.nid)) with
 | true => false
 | false => match memN y.ix an with
  | true => true
  | false => !clash all x y && !(y.lays && !x.free y.nid)
def indepWith (all : Array Oper) (an : List Nat) (x : Entry) : List Entry → Bool
 | [] => true
 | y :: r => match pairOk all an x y with
  | true => indepWith all an x r
  | false => false
def indep (all : Array Oper) (az : List (List Nat)) : List Entry → Bool
 | [] => true
 | x :: r => match indepWith all (nthL az x.ix) x r with
  | true => indep all az r
  | false => false
def edgesOk : List Oper → Nat → Bool
 | [], _ => true
 | o :: r, i => match allB (fun e => !Region.binds .any e || Nat.blt e.on i) o.after.toList with
  | true => edgesOk r (i + 1)
  | false => false
def noSel : List Oper → Bool
 | [] => true
 | o :: r => match o.op with
  | .select _ _ => false
  | _ => noSel r
def dropDec (d : Option Nat) (dec : List (Nat × Bool)) : List (Nat × Bool) :=
 match d with
 | none => dec
 | some k => go k dec
where go (k : Nat) : List (Nat × Bool) → List (Nat × Bool)
 | [] => []
 | (d, v) :: r => match Nat.beq d k with
  | true => go k r
  | false => (d, v) :: go k r
def R.toPR : R → PR
 | .fail => .fail
 | .leaf (.res v) vc _ _ => match v.lt 0 with
  | true => .ok ⟨vc, v, [], none⟩
  | false => .fail
 | .leaf _ _ _ _ => .fail
 | .br b x y => .br b x.toPR y.toPR
def dstep (P : Program) (W : World) (G : List (Nat × Spec)) (F : FuncId → List TV → PR) (all : Array Oper) (o : Oper) (S : Nat → Option TV) (M : Mem) :
  SL × List (Nat × Nat × SV) × List (Nat × BI) × PR :=
 let ins := collectS S (o.looksAt all)
 match callOf o with
 | some (f, az) =>
  match evalO (look ins) f, evalList (look ins) az with
  | some (.one (.clo g cs)), some l => match look G g with
   | some sp =>
    let args := l ++ cs.map capTV
    let rd := collectC M.get (sp.rd args)
    let kn := collectK (look M.blks) (sp.kn args)
    (ins, rd, kn, match sp.fx args (findC rd) (look kn) with
     | some e => match e.nb with
      | none => .ok e
      | some (t, l) => match sp.kn [] with
       | [77777] => .ok ⟨e.vc, .one (.row M.next 0 l.length l.length), [], some (t, l)⟩
       | _ => .fail
     | none => .fail)
   | none => (ins, [], [], match allB (TV.lt 0) (l ++ cs.map capTV) with
    | true => F g (l ++ cs.map capTV)
    | false => .fail)
  | _, _ => (ins, [], [], .fail)
 | none =>
  let rd := collectC M.get (readsOf P o (look ins))
  let kn := collectK (look M.blks) (needsOf o (look ins))
  (ins, rd, kn, prim P W o M.next (look ins) (findC rd) (look kn))
def prune (dec : List (Nat × Bool)) (o : Oper) (pr : PR) : PR :=
 match o.op with
 | .pick (.tmp d) _ _ => match look dec d with
  | some v => match pr with
   | .br _ x y => match v with
    | true => x
    | false => y
   | p => p
  | none => pr
 | _ => pr
def run (P : Program) (W : World) (G : List (Nat × Spec)) : Nat → Job → Cf → SL → Mem → R
 | 0, _, _, _, _ => .fail
 | n + 1, .code c, B, s, m =>
  match c with
  | .skip => .leaf .nrm (.lit true) s m
  | .label _ => .leaf .nrm (.lit true) s m
  | .exit id => .leaf (.exit id) (.lit true) s m
  | .ret => .leaf .ret (.lit true) s m
  | .seq a b => (run P W G n (.code a) B s m).bind fun s' m' => run P W G n (.code b) B s' m'
  | .block id body => (((run P W G n (.code body) ⟨B.nt, s ++ B.bs, m.on B.bm⟩ [] (m.on B.bm).fresh).unblock id).collapse (s ++ B.bs) (m.on B.bm)).over s m
  | .loop body => (run P W G n (.code body) B s m).bind fun s' m' => run P W G n (.code (.loop body)) B s' m'
  | .region _ ops false =>
   ((run P W G n (.ops ops ops.toList) ⟨B.nt, s ++ B.bs, m.on B.bm⟩ [] (m.on B.bm).fresh).collapse (s ++ B.bs) (m.on B.bm)).over s m
  | .region _ ops true =>
   match P.follows .mixedOrders && edgesOk ops.toList 0 && noSel ops.toList with
   | true => ((run P W G n (.dops ops ops.toList 0 [] []) ⟨B.nt, s ++ B.bs, m.on B.bm⟩ [] (m.on B.bm).fresh).collapse (s ++ B.bs) (m.on B.bm)).over s m
   | false => .fail
  | .cond c x y => match evalO (B.S s) c with
   | some (.one (.bool (.lit true))) => run P W G n (.code x) B s m
   | some (.one (.bool (.lit false))) => run P W G n (.code y) B s m
   | some (.one (.bool (.sym b))) =>
    ((R.br b (run P W G n (.code x) ⟨B.nt, s ++ B.bs, m.on B.bm⟩ [] (m.on B.bm).fresh)
     (run P W G n (.code y) ⟨B.nt, s ++ B.bs, m.on B.bm⟩ [] (m.on B.bm).fresh)).collapse (s ++ B.bs) (m.on B.bm)).over s m
   | _ => .fail
  | _ => .fail
 | n + 1, .ops all rest, B, s, m =>
  match rest with
  | [] => .leaf .nrm (.lit true) s m
  | o :: r => match dstOk B.nt o.dst with
   | false => .fail
   | true => match guardS all (B.S s) o with
    | .bad => .fail
    | .no => run P W G n (.ops all r) B (putS o.dst .ud s) m
    | .ask d b _ => match Nat.blt d B.nt with
     | true => .br b (run P W G n (.ops all (o :: r)) B (putS (some d) (.one (.bool (.lit true))) s) m)
       (run P W G n (.ops all (o :: r)) B (putS (some d) (.one (.bool (.lit false))) s) m)
     | false => .fail
    | .yes => match callOf o with
     | some (f, az) => match evalO (B.S s) f, evalList (B.S s) az with
      | some (.one (.clo g cs)), some l => match ltS m.next (s ++ B.bs) with
       | true => (((run P W G n (.fn g (l ++ cs.map capTV)) ⟨0, [], m.on B.bm⟩ [] (m.on B.bm).fresh).collapse [] (m.on B.bm)).land o.dst s m).bind
         fun s' m' => run P W G n (.ops all r) B s' m'
       | false => .fail
      | _, _ => .fail
     | none => ((prim P W o m.next (B.S s) (B.M m).get (look (B.M m).blks)).toR B.bs B.bm o.dst s m).bind fun s' m' => run P W G n (.ops all r) B s' m'
 | n + 1, .dops all rest i tr dec, B, s, m =>
  match rest with
  | [] => match indep all (ancs all.toList []) tr with
   | true => .leaf .nrm (.lit true) s m
   | false => .fail
  | o :: r => match dstOk B.nt o.dst with
   | false => .fail
   | true =>
    let pass : R := run P W G n (.dops all r (i + 1) (⟨i, o, collectS (B.S s) (o.looksAt all), [], [], none, m.next⟩ :: tr) (dropDec o.dst dec)) B (putS o.dst .ud s) m
    let go : R := match dstep P W G (fun g args => ((run P W G n (.fn g args) ⟨0, [], ⟨[], [], 0⟩⟩ [] ⟨[], [], 0⟩).collapse [] ⟨[], [], 0⟩).toPR) all o (B.S s) (B.M m) with
     | (ins, rd, kn, pr) => (prune dec o pr).onEff fun e => match newOk (s ++ B.bs) (m.on B.bm) e with
      | true => run P W G n (.dops all r (i + 1) (⟨i, o, ins, rd, kn, some e, m.next⟩ :: tr) (dropDec o.dst dec)) B (putS o.dst e.val s) (putM e m)
      | false => .fail
    match guardS all (B.S s) o with
    | .bad => .fail
    | .no => pass
    | .yes => go
    | .ask d b want => match look dec d with
     | some v => match v == want with
      | true => go
      | false => pass
     | none => .br b (run P W G n (.dops all (o :: r) i tr ((d, true) :: dec)) B s m) (run P W G n (.dops all (o :: r) i tr ((d, false) :: dec)) B s m)
 | n + 1, .fn g args, B, _, m =>
  match look G g with
  | some sp => match sp.fx args (B.M m).get (look (B.M m).blks) with
   | some e => match e.nb with
    | none => .leaf (.res e.val) e.vc [] (putM e m)
    | some _ => .fail
   | none => .fail
  | none => match P.funcs[g]? with
   | some fn => match fn.body with
    | some c => match fn.name == "runtime.NumGoroutine" || !Nat.ble args.length fn.ntmps with
     | true => .fail
     | false => (run P W G n (.code c) ⟨fn.ntmps, argSlots 0 args, B.bm⟩ [] m).results P fn.results.toList (argSlots 0 args) B.bm
    | none => .fail
   | none => .fail
def R.get : R → Option (Ex × SB × SL × Mem)
 | .fail => none
 | .leaf e vc s m => some (e, vc, s, m)
 | .br b x y => bif b then x.get else y.get
def R.val : R → Option TV
 | .fail => none
 | .leaf (.res v) vc _ _ => match vc with
  | .lit true => some v
  | .lit false => none
  | .sym c => bif c then some v else none
 | .leaf _ _ _ _ => none
 | .br b x y => bif b then x.val else y.val
def eval (P : Program) (W : World) (G : List (Nat × Spec)) (g : FuncId) (args : List TV) : Option TV :=
 ((run P W G 100000 (.fn g args) ⟨0, [], ⟨[], [], 0⟩⟩ [] ⟨[], [], 0⟩).collapse [] ⟨[], [], 0⟩).val
end Go.Sx
