/- A part of the proof: the reference is safe, both packages write and read alike. Several texts in one; printed by slim28.py out of the texts of wip. -/
import Derived.Test.YtjmnolhkkpaodaaGreatDoorZ07
import Derived.Laws.AppendOwn
import Derived.Laws.CopyRow
set_option linter.all false
namespace Go.Ty
open Go Go.Sx
inductive Cmp where
 | lt | le | eq | ne
inductive AB where
 | lit (b : Bool)
 | cmp (c : Cmp) (i : Nat) (d : Int) (j : Nat) (e : Int)
inductive AC where
 | int (k : IntKind) (i : Nat) (d : Int)
 | bool (b : AB)
 | slc (t : TypeId) (i : Nat) (d : Int)
 | nils
 | ptr (t : TypeId) (p o : Nat)
 | eptr (t : TypeId) (o : Nat)
 | fix
 | anyI (k : IntKind)
 | anyB
inductive AV where
 | ud
 | one (c : AC)
 | agg (l : List AC)
 | tup (l : List (Bool × List AC))
structure Bd where
 lo : Int
 a : Nat
 hi : Int
inductive CT where
 | int (k : IntKind) (lo hi : Int)
 | bool
 | slc (t : TypeId)
 | cnt
 | fix
structure Env where
 P : Program
 T : Bool → TypeId → Option (List CT)
 mx : Nat
 eff : List (Bool × TypeId)
 nt : Nat
structure St where
 sl : List (Nat × AV)
 ids : List (Nat × Bd)
 lts : List (Nat × Nat)
 mem : List (Nat × TypeId × List AC)
 own : List Nat
 ps : List Nat
 nid : Nat
 A : Nat
 K : Nat
structure Ef where
 av : AV
 new : List Bd
 lts : List (Nat × Nat)
 wr : List (Nat × TypeId)
 pm : List (Nat × TypeId × List AC)
 nb : Option (TypeId × List AC)
 kill : List (Bool × TypeId)
 up : Nat
structure In where
 S : Nat → Option AV
 M : Nat → Option (TypeId × List AC)
 B : Nat → Option Bd
 L : Nat → Nat → Bool
 n : Nat
 A : Nat
 K : Nat
 U : Nat
def Ef.pure (v : AV) : Ef := ⟨v, [], [], [], [], none, [], 0⟩
def Ef.fresh (v : AV) (bs : List Bd) : Ef := ⟨v, bs, [], [], [], none, [], 0⟩
def klo : IntKind → Int
 | .i8 => -128
 | .i16 => -32768
 | .i32 => -2147483648
 | .i64 => -9223372036854775808
 | _ => 0
def khi : IntKind → Int
 | .i8 => 127
 | .i16 => 32767
 | .i32 => 2147483647
 | .i64 => 9223372036854775807
 | .u8 => 255
 | .u16 => 65535
 | .u32 => 4294967295
 | .u64 => 18446744073709551615
def leI (a b : Int) : Bool := decide (a ≤ b)
def ltI (a b : Int) : Bool := decide (a < b)
def eqI (a b : Int) : Bool := decide (a = b)
def minI (a b : Int) : Int := bif leI a b then a else b
def maxI (a b : Int) : Int := bif leI a b then b else a
section
variable (B : Nat → Option Bd) (mx : Nat)
def lob (i : Nat) (d : Int) : Option Int := match Nat.beq i 0 with
 | true => some d
 | false => match B i with
  | some b => some (b.lo + d)
  | none => none
def upb (i : Nat) (d : Int) : Option Int := match Nat.beq i 0 with
 | true => some d
 | false => match B i with
  | some b => some (b.a * mx + b.hi + d)
  | none => none
def upm (i : Nat) (d : Int) : Option (Nat × Int) := match Nat.beq i 0 with
 | true => some (0, d)
 | false => match B i with
  | some b => some (b.a, b.hi + d)
  | none => none
def rng (i : Nat) (d : Int) : Option (Int × Int) := match lob B i d with
 | some l => match upb B mx i d with
  | some u => some (l, u)
  | none => none
 | none => none
def fits (k : IntKind) (l u : Int) : Bool := leI (klo k) l && leI u (khi k)
def freshK (k : IntKind) (l u : Int) (n : Nat) : Ef := match fits k l u with
 | true => .fresh (.one (.int k n 0)) [⟨l, 0, u⟩]
 | false => .fresh (.one (.int k n 0)) [⟨klo k, 0, khi k⟩]
def shiftK (k : IntKind) (i : Nat) (d l u : Int) (n : Nat) : Ef := match fits k l u with
 | true => .pure (.one (.int k i d))
 | false => .fresh (.one (.int k n 0)) [⟨klo k, 0, khi k⟩]
def cmpOf : BinOp → Option (Cmp × Bool)
 | .lss => some (.lt, false)
 | .leq => some (.le, false)
 | .gtr => some (.lt, true)
 | .geq => some (.le, true)
 | .eql => some (.eq, false)
 | .neq => some (.ne, false)
 | _ => none
def aInt (op : BinOp) (k : IntKind) (i : Nat) (d l u : Int) (j : Nat) (e l' u' : Int) (n : Nat) : Option Ef :=
 match cmpOf op with
 | some (c, false) => some (.pure (.one (.bool (.cmp c i d j e))))
 | some (c, true) => some (.pure (.one (.bool (.cmp c j e i d))))
 | none =>
  match op with
  | .add => match Nat.beq j 0 with
   | true => some (shiftK k i (d + e) (l + e) (u + e) n)
   | false => match Nat.beq i 0 with
    | true => some (shiftK k j (e + d) (l' + d) (u' + d) n)
    | false => some (freshK k (l + l') (u + u') n)
  | .sub => match Nat.beq j 0 with
   | true => some (shiftK k i (d - e) (l - e) (u - e) n)
   | false => some (freshK k (l - u') (u - l') n)
  | .mul => match leI 0 l && leI 0 l' with
   | true => some (freshK k (l * l') (u * u') n)
   | false => some (.fresh (.one (.int k n 0)) [⟨klo k, 0, khi k⟩])
  | .and => match Nat.beq j 0 && (eqI e 7 || eqI e 3 || eqI e 1 || eqI e 15) with
   | true => some (.fresh (.one (.int k n 0)) [⟨0, 0, e⟩])
   | false => some (.fresh (.one (.int k n 0)) [⟨klo k, 0, khi k⟩])
  | .or => some (.fresh (.one (.int k n 0)) [⟨klo k, 0, khi k⟩])
  | .xor => some (.fresh (.one (.int k n 0)) [⟨klo k, 0, khi k⟩])
  | .andNot => some (.fresh (.one (.int k n 0)) [⟨klo k, 0, khi k⟩])
  | .quo => match ltI 0 l' && leI 0 l with
   | true => some (freshK k 0 u n)
   | false => none
  | .rem => match ltI 0 l' && leI 0 l with
   | true => some (.fresh (.one (.int k n 0)) [⟨0, 0, u' - 1⟩])
   | false => none
  | _ => none
def aShift (op : BinOp) (k : IntKind) (l u : Int) (j : Nat) (e l' : Int) (n : Nat) : Option Ef :=
 match leI 0 l' with
 | false => none
 | true => match op with
  | .shl => some (.fresh (.one (.int k n 0)) [⟨klo k, 0, khi k⟩])
  | .shr => match Nat.beq j 0 && leI 0 l && fits k l u with
   | true => some (.fresh (.one (.int k n 0)) [⟨0, 0, u.toNat / 2 ^ (min e.toNat k.bits)⟩])
   | false => match fits k l u with
    | true => some (.fresh (.one (.int k n 0)) [⟨minI l 0, 0, maxI u 0⟩])
    | false => none
  | _ => none
def evalB : AB → Option Bool
 | .lit b => some b
 | .cmp c i d j e => match Nat.beq i j with
  | true => some (match c with
   | .lt => ltI d e
   | .le => leI d e
   | .eq => eqI d e
   | .ne => !eqI d e)
  | false => match rng B mx i d with
   | none => none
   | some (l, u) => match rng B mx j e with
    | none => none
    | some (l', u') => match c with
     | .lt => match ltI u l' with
      | true => some true
      | false => match leI u' l with
       | true => some false
       | false => none
     | .le => match leI u l' with
      | true => some true
      | false => match ltI u' l with
       | true => some false
       | false => none
     | .eq => match ltI u l' || ltI u' l with
      | true => some false
      | false => match eqI l u && eqI l' u' && eqI l l' with
       | true => some true
       | false => none
     | .ne => match ltI u l' || ltI u' l with
      | true => some true
      | false => match eqI l u && eqI l' u' && eqI l l' with
       | true => some false
       | false => none
end
section
variable (B : Nat → Option Bd) (mx A K : Nat)
def fitC : AC → CT → Option Nat
 | .int .i64 i d, .cnt => match lob B i d with
  | some l => match upm B i d with
   | some (a, h) => match leI 0 l && Nat.ble a A with
    | true => some (h - K).toNat
    | false => none
   | none => none
  | none => none
 | .int k i d, .int k' lo hi => match kindEq k k' with
  | true => match rng B mx i d with
   | some (l, u) => match leI lo l && leI u hi with
    | true => some 0
    | false => none
   | none => none
  | false => none
 | .bool _, .bool => some 0
 | .slc t i d, .slc t' => match Nat.beq t t' with
  | true => match upm B i d with
   | some (a, h) => match Nat.ble a A with
    | true => some (h - K).toNat
    | false => none
   | none => none
  | false => none
 | .nils, .slc _ => some 0
 | .fix, .fix => some 0
 | .anyI k, .int k' lo hi => match kindEq k k' && leI lo (klo k) && leI (khi k) hi with
  | true => some 0
  | false => none
 | .anyB, .bool => some 0
 | _, _ => none
def fitL : List AC → List CT → Option Nat
 | [], [] => some 0
 | c :: cs, t :: ts => match fitC B mx A K c t with
  | some u => match fitL cs ts with
   | some u' => some (max u u')
   | none => none
  | none => none
 | _, _ => none
def fitR (ts : List CT) : Nat → List AC → Option Nat
 | 0, l => match l with
  | [] => some 0
  | _ => none
 | n + 1, l => match fitL B mx A K (l.take ts.length) ts with
  | some u => match fitR ts n (l.drop ts.length) with
   | some u' => some (max u u')
   | none => none
  | none => none
end
def ofVal1 : Value → Option AC
 | .int k n => some (.int k 0 n)
 | .bool b => some (.bool (.lit b))
 | .slice none 0 0 => some .nils
 | _ => none
def ofVals : List Value → Option (List AC)
 | [] => some []
 | v :: r => match ofVal1 v with
  | some s => match ofVals r with
   | some l => some (s :: l)
   | none => none
  | none => none
def ofVal : Value → Option AV
 | .agg cs => match ofVals cs.toList with
  | some l => some (.agg l)
  | none => none
 | v => match ofVal1 v with
  | some s => some (.one s)
  | none => none
def evO (S : Nat → Option AV) : Operand → Option AV
 | .tmp t => match S t with
  | some .ud => none
  | r => r
 | .const (.pointer none) => some .ud
 | .const v => ofVal v
 | _ => none
def evL (S : Nat → Option AV) : List Operand → Option (List AV)
 | [] => some []
 | x :: r => match evO S x with
  | some v => match evL S r with
   | some l => some (v :: l)
   | none => none
  | none => none
def evP (S : Nat → Option AV) : List (Nat × Operand) → Option (List (Nat × AV))
 | [] => some []
 | (i, x) :: r => match evO S x with
  | some v => match evP S r with
   | some l => some ((i, v) :: l)
   | none => none
  | none => none
def AV.cells : AV → Option (List AC)
 | .one v => some [v]
 | .agg l => some l
 | _ => none
def AV.toPart : AV → Option (Bool × List AC)
 | .one v => some (false, [v])
 | .agg l => some (true, l)
 | _ => none
def AV.ofPart : Bool × List AC → Option AV
 | (true, l) => some (.agg l)
 | (false, [v]) => some (.one v)
 | _ => none
def zeroA (P : Program) (t : TypeId) : Option (List AC) :=
 match P.info? t with
 | some i => match i.zero with
  | some z => ofVals z.cells.toList
  | none => none
 | none => none
def partA (P : Program) (t : TypeId) (l : List AC) (off : Nat) : Option AV :=
 match aggT P t with
 | some true => match sizeT P t with
  | some n => match Nat.ble (off + n) l.length with
   | true => some (.agg ((l.drop off).take n))
   | false => none
  | none => none
 | some false => match l[off]? with
  | some v => some (.one v)
  | none => none
 | none => none
def setsA (l : List AC) (o : Nat) (r : List AC) : List AC := l.take o ++ r ++ l.drop (o + r.length)
def fillA (place : Nat → Option (Nat × Nat)) (cells : List AC) : List (Nat × AV) → Option (List AC)
 | [] => some cells
 | (i, v) :: rest => match place i with
  | none => none
  | some (off, size) => match v.cells with
   | none => none
   | some l => match Nat.beq l.length size && Nat.ble (off + size) cells.length with
    | true => fillA place (setsA cells off l) rest
    | false => none
def frCells (A K : Nat) : List CT → Nat → List AC × List Bd
 | [], _ => ([], [])
 | .int k lo hi :: r, n => match eqI lo (klo k) && eqI hi (khi k) with
  | true => let x := frCells A K r n; (.anyI k :: x.1, x.2)
  | false => let x := frCells A K r (n + 1); (.int k n 0 :: x.1, ⟨lo, 0, hi⟩ :: x.2)
 | .bool :: r, n => let x := frCells A K r n; (.anyB :: x.1, x.2)
 | .slc t :: r, n => let x := frCells A K r (n + 1); (.slc t n 0 :: x.1, ⟨0, A, K⟩ :: x.2)
 | .cnt :: r, n => let x := frCells A K r (n + 1); (.int .i64 n 0 :: x.1, ⟨0, A, K⟩ :: x.2)
 | .fix :: r, n => let x := frCells A K r n; (.fix :: x.1, x.2)
def asT (P : Program) (t : TypeId) (l : List AC) : Option AV :=
 match aggT P t with
 | some true => match sizeT P t with
  | some n => match Nat.beq n l.length with
   | true => some (.agg l)
   | false => none
  | none => none
 | some false => match l with
  | [v] => some (.one v)
  | _ => none
 | none => none
def sizeOrOne (P : Program) (t : TypeId) : Option Nat :=
 match aggT P t with
 | some true => sizeT P t
 | some false => some 1
 | none => none
def hullA (B : Nat → Option Bd) (mx : Nat) : List AC → Option (IntKind × Int × Int)
 | [] => none
 | [.int k i d] => match rng B mx i d with
  | some (l, u) => some (k, l, u)
  | none => none
 | [.anyI k] => some (k, klo k, khi k)
 | .anyI k :: r => match hullA B mx r with
  | some (k', l', u') => match kindEq k k' with
   | true => some (k, minI (klo k) l', maxI (khi k) u')
   | false => none
  | none => none
 | .int k i d :: r => match rng B mx i d with
  | some (l, u) => match hullA B mx r with
   | some (k', l', u') => match kindEq k k' with
    | true => some (k, minI l l', maxI u u')
    | false => none
   | none => none
  | none => none
 | _ => none
def inA (I : In) (mx : Nat) (j : Nat) (e : Int) (i : Nat) (d : Int) : Bool :=
 match lob I.B j e with
 | some l => match leI 0 l with
  | false => false
  | true => (match upb I.B mx j e with
   | some u => (match lob I.B i d with
    | some n => ltI u n
    | none => false)
   | none => false) || (Nat.beq i j && ltI e d) || (I.L j i && leI e d)
 | none => false
def aAppend (E : Env) (I : In) (t : TypeId) (x y : AC) : Option Ef :=
 match E.P.underlying t with
 | some (.slice el) =>
  match (match x with | .nils => some (0, (0 : Int)) | .slc t' i d => (match Nat.beq t' el with | true => some (i, d) | false => none) | _ => none) with
  | some (i, d) =>
   match (match y with | .nils => some (0, (0 : Int)) | .slc t' i d => (match Nat.beq t' el with | true => some (i, d) | false => none) | _ => none) with
   | some (j, e) =>
    match lob I.B i d, lob I.B j e, upm I.B i d, upm I.B j e, E.P.info? el, E.T true el with
    | some l, some l', some (a, h), some (a', h'), some inf, some ts =>
     match inf.zero with
     | some z => match Nat.beq z.cells.size inf.size && Nat.beq ts.length inf.size && Nat.ble 1 inf.size && leI (((a + a') * E.mx + (h + h')) * inf.bytes) 140737488355328 && leI ((a + a') * E.mx + (h + h')) maxLen with
      | true => some ⟨.one (.slc el I.n 0), [⟨l + l', a + a', h + h'⟩], [], [], [], none, [(true, el)], 0⟩
      | false => none
     | none => none
    | _, _, _, _, _, _ => none
   | none => none
  | none => none
 | _ => none
def aBuiltin (E : Env) (I : In) (b : Builtin) (args : List AV) (ts : List TypeId) : Option Ef :=
 match b, args, ts with
 | .len, [.one (.slc _ i d)], [t] => match E.P.underlying t with
  | some (.slice _) => some (.pure (.one (.int .i64 i d)))
  | _ => none
 | .len, [.one .nils], [t] => match E.P.underlying t with
  | some (.slice _) => some (.pure (.one (.int .i64 0 0)))
  | _ => none
 | .min, [.one (.int k i d), .one (.int k' j e)], _ => match kindEq k k' with
  | true => match rng I.B E.mx i d, rng I.B E.mx j e with
   | some (l, u), some (l', u') => some (.fresh (.one (.int k I.n 0)) [⟨minI l l', 0, minI u u'⟩])
   | _, _ => none
  | false => none
 | .max, [.one (.int k i d), .one (.int k' j e)], _ => match kindEq k k' with
  | true => match rng I.B E.mx i d, rng I.B E.mx j e with
   | some (l, u), some (l', u') => some (.fresh (.one (.int k I.n 0)) [⟨maxI l l', 0, maxI u u'⟩])
   | _, _ => none
  | false => none
 | .append, [.one x, .one y], [t, t'] => match Nat.beq t t' with
  | true => aAppend E I t x y
  | false => none
 | _, _, _ => none
abbrev Con := In → List AV → Option Ef
def matE (e : Ef) (q t : Nat) (l : List AC) (o n : Nat) : Ef := match e.av with
 | .one (.anyI k) => ⟨.one (.int k n 0), e.new ++ [⟨klo k, 0, khi k⟩], [], [], [(q, t, setsA l o [.int k n 0])], none, [], 0⟩
 | .one .anyB => ⟨.one (.bool (.cmp .eq n 0 0 1)), e.new ++ [⟨0, 0, 1⟩], [], [], [(q, t, setsA l o [.bool (.cmp .eq n 0 0 1)])], none, [], 0⟩
 | _ => e
def norm (n : Nat) (e : Ef) : Ef := match e.av, e.lts, e.pm, e.nb with
 | .one (.anyI k), [], [], none => ⟨.one (.int k (n + e.new.length) 0), e.new ++ [⟨klo k, 0, khi k⟩], [], e.wr, [], none, e.kill, e.up⟩
 | .one .anyB, [], [], none => ⟨.one (.bool (.cmp .eq (n + e.new.length) 0 0 1)), e.new ++ [⟨0, 0, 1⟩], [], e.wr, [], none, e.kill, e.up⟩
 | _, _, _, _ => e
def aop0 (E : Env) (G : Nat → Option Con) (I : In) (o : Oper) : Option Ef :=
 match o.op with
 | .move x => match evO I.S x with
  | some v => some (.pure v)
  | none => none
 | .assign x => match evO I.S x with
  | some v => some (.pure v)
  | none => none
 | .pick c x y => match evO I.S c with
  | some (.one (.bool b)) => match evalB I.B E.mx b with
   | some true => match evO I.S x with
    | some v => some (.pure v)
    | none => none
   | some false => match evO I.S y with
    | some v => some (.pure v)
    | none => none
   | none => none
  | _ => none
 | .alloc t => match zeroA E.P t with
  | some l => match E.T false t with
   | some ts => match fitL I.B E.mx I.A I.K l ts with
    | some u => some ⟨.one (.ptr t I.n 0), [⟨0, 0, 0⟩], [], [], [], some (t, l), [], u⟩
    | none => none
   | none => none
  | none => none
 | .box t x => match evO I.S x with
  | some v => match v.cells with
   | some l => match E.T false t with
    | some ts => match fitL I.B E.mx I.A I.K l ts with
     | some u => some ⟨.one (.ptr t I.n 0), [⟨0, 0, 0⟩], [], [], [], some (t, l), [], u⟩
     | none => none
    | none => none
   | none => none
  | none => none
 | .build t ps => match evP I.S ps.toList with
  | none => none
  | some l => match zeroA E.P t with
   | none => none
   | some z => match E.P.underlying t with
    | some (.struct fs) => match places E.P fs.toList with
     | some pl => match fillA (fun i => pl[i]?) z l with
      | some c => some (.pure (.agg c))
      | none => none
     | none => none
    | some (.array _ el) => match sizeT E.P el with
     | some n => match fillA (fun i => some (i * n, n)) z l with
      | some c => some (.pure (.agg c))
      | none => none
     | none => none
    | _ => none
 | .buildSlice t len ps => match E.P.underlying t with
  | some (.slice el) => match sizeT E.P el with
   | some n => match Nat.ble (len * n) 16777216 && Nat.blt 0 (len * n) with
    | true => match zeroA E.P el with
     | some z => match Nat.beq z.length n with
      | true => match evP I.S ps.toList with
       | some l => match fillA (fun i => some (i * n, n)) ((List.range (len * n)).map fun i => (z[i % n]?).getD .nils) l with
        | some c => match E.T true el with
         | some ts => match Nat.beq ts.length n with
          | true => match fitR I.B E.mx I.A I.K ts len c with
           | some u => some ⟨.one (.slc el 0 len), [], [], [], [], none, [], u⟩
           | none => none
          | false => none
         | none => none
        | none => none
       | none => none
      | false => none
     | none => none
    | false => none
   | none => none
  | _ => none
 | .load t x => match sizeOrOne E.P t with
  | none => none
  | some n => match evO I.S x with
   | some (.one (.ptr pt p o)) => match I.M p with
    | some (t', l) => match Nat.ble (o + n) l.length with
     | true => match asT E.P t ((l.drop o).take n) with
      | some v => some (matE (.pure v) p t' l o I.n)
      | none => none
     | false => none
    | none => match E.T false pt with
     | some ts => match Nat.ble (o + n) ts.length with
      | true => match asT E.P t (((frCells I.A I.U ts I.n).1.drop o).take n) with
       | some v => some (matE ⟨v, (frCells I.A I.U ts I.n).2, [], [], [(p, pt, (frCells I.A I.U ts I.n).1)], none, [], 0⟩ p pt (frCells I.A I.U ts I.n).1 o (I.n + (frCells I.A I.U ts I.n).2.length))
       | none => none
      | false => none
     | none => none
   | some (.one (.eptr et o)) => match E.T true et with
    | some ts => match Nat.ble (o + n) ts.length with
     | true => match asT E.P t (frCells I.A I.U ((ts.drop o).take n) I.n).1 with
      | some v => some (.fresh v (frCells I.A I.U ((ts.drop o).take n) I.n).2)
      | none => none
     | false => none
    | none => none
   | _ => none
 | .store t x y => match evO I.S y with
  | none => none
  | some v => match v.cells with
   | none => none
   | some l => match sizeT E.P t with
    | none => none
    | some n => match Nat.beq l.length n with
     | false => none
     | true => match evO I.S x with
      | some (.one (.ptr pt p o)) => match E.T false pt with
       | some ts => match Nat.ble (o + n) ts.length with
        | true => match fitL I.B E.mx I.A I.K l ((ts.drop o).take n) with
         | some u => some ⟨.ud, [], [], [(p, pt)], (match I.M p with
           | some (t', c) => (match Nat.beq c.length ts.length with | true => [(p, t', setsA c o l)] | false => [])
           | none => (match Nat.beq o 0 && Nat.beq n ts.length with | true => [(p, pt, l)] | false => [])), none, [], u⟩
         | none => none
        | false => none
       | none => none
      | some (.one (.eptr et o)) => match E.T true et with
       | some ts => match Nat.ble (o + n) ts.length with
        | true => match fitL I.B E.mx I.A I.K l ((ts.drop o).take n) with
         | some u => some ⟨.ud, [], [], [], [], none, [(true, et)], u⟩
         | none => none
        | false => none
       | none => none
      | _ => none
 | .nilCheck x => match evO I.S x with
  | some (.one (.ptr t p o)) => some (.pure (.one (.ptr t p o)))
  | some (.one (.eptr t o)) => some (.pure (.one (.eptr t o)))
  | _ => none
 | .fieldAddr s x f => match E.P.underlying s with
  | some (.struct fs) => match fs.toList[f]? with
   | some fd => match sizeT E.P fd.type with
    | some 0 => none
    | none => none
    | some (_ + 1) => match evO I.S x with
     | some (.one (.ptr t p o)) => some (.pure (.one (.ptr t p (o + fd.offset))))
     | some (.one (.eptr t o)) => some (.pure (.one (.eptr t (o + fd.offset))))
     | _ => none
   | none => none
  | _ => none
 | .field s x f => match evO I.S x with
  | some (.agg l) => match E.P.underlying s with
   | some (.struct fs) => match fs.toList[f]? with
    | some fd => match partA E.P fd.type l fd.offset with
     | some v => some (.pure v)
     | none => none
    | none => none
   | _ => none
  | _ => none
 | .indexAddr t x y => match evO I.S x with
  | some (.one (.slc el i d)) => match evO I.S y with
   | some (.one (.int _ j e)) => match E.P.underlying t with
    | some (.slice el') => match Nat.beq el el' && inA I E.mx j e i d with
     | true => match sizeT E.P el, E.T true el with
      | some n, some ts => match Nat.beq ts.length n with
       | true => some (.pure (.one (.eptr el 0)))
       | false => none
      | _, _ => none
     | false => none
    | _ => none
   | _ => none
  | _ => none
 | .index t x y => match evO I.S x with
  | some (.agg l) => match evO I.S y with
   | some (.one (.int _ j e)) => match E.P.underlying t with
    | some (.array len el) => match aggT E.P el with
     | some false => match sizeT E.P el with
      | some 1 => match rng I.B E.mx j e with
       | some (lo, hi) => match leI 0 lo && ltI hi len && Nat.beq l.length len with
        | true => match hullA I.B E.mx ((l.drop lo.toNat).take (hi - lo + 1).toNat) with
         | some (k, a, b) => some (.fresh (.one (.int k I.n 0)) [⟨a, 0, b⟩])
         | none => none
        | false => none
       | none => none
      | _ => none
     | _ => none
    | _ => none
   | _ => none
  | _ => none
 | .extract x i => match evO I.S x with
  | some (.tup ps) => match ps[i]? with
   | some p => match AV.ofPart p with
    | some v => some (.pure v)
    | none => none
   | none => none
  | _ => none
 | .convert s d x => match evO I.S x with
  | some (.one (.int _ i e)) => match E.P.underlying s, E.P.underlying d with
   | some (.int _), some (.int k) => match rng I.B E.mx i e with
    | some (l, u) => some (shiftK k i e l u I.n)
    | none => none
   | _, _ => none
  | _ => none
 | .binOp op t x y _ => match evO I.S x, evO I.S y with
  | some (.one (.int k i d)), some (.one (.int k' j e)) => match rng I.B E.mx i d, rng I.B E.mx j e with
   | some (l, u), some (l', u') => match op with
    | .shl => aShift .shl k l u j e l' I.n
    | .shr => aShift .shr k l u j e l' I.n
    | _ => match kindEq k k' with
     | true => aInt op k i d l u j e l' u' I.n
     | false => none
   | _, _ => none
  | some (.one (.bool _)), some (.one (.bool _)) => match isBoolT E.P t with
   | true => match op with
    | .eql => some (.fresh (.one (.bool (.cmp .eq I.n 0 0 1))) [⟨0, 0, 1⟩])
    | .neq => some (.fresh (.one (.bool (.cmp .eq I.n 0 0 1))) [⟨0, 0, 1⟩])
    | _ => none
   | false => none
  | _, _ => none
 | .unOp op _ x => match evO I.S x with
  | some (.one (.bool b)) => match op with
   | .not => match b with
    | .lit b => some (.pure (.one (.bool (.lit !b))))
    | .cmp .lt i d j e => some (.pure (.one (.bool (.cmp .le j e i d))))
    | .cmp .le i d j e => some (.pure (.one (.bool (.cmp .lt j e i d))))
    | .cmp .eq i d j e => some (.pure (.one (.bool (.cmp .ne i d j e))))
    | .cmp .ne i d j e => some (.pure (.one (.bool (.cmp .eq i d j e))))
   | _ => none
  | some (.one (.int k _ _)) => match op with
   | .neg => some (.fresh (.one (.int k I.n 0)) [⟨klo k, 0, khi k⟩])
   | .xor => some (.fresh (.one (.int k I.n 0)) [⟨klo k, 0, khi k⟩])
   | _ => none
  | _ => none
 | .call c => match c.callee with
  | .builtin b => match evL I.S c.args.toList with
   | some l => aBuiltin E I b l c.argTypes.toList
   | none => none
  | .value (.func g) => match G g with
   | some con => match evL I.S c.args.toList with
    | some l => con I l
    | none => none
   | none => none
  | _ => none
 | _ => none
def aop (E : Env) (G : Nat → Option Con) (I : In) (o : Oper) : Option Ef := match aop0 E G I o with
 | some e => some (norm I.n e)
 | none => none
end Go.Ty
namespace Go.Ty
open Go Go.Sx
structure BK where
 row : Bool
 t : TypeId
 k : Nat
 cap : Nat
structure Ctx where
 ρ : Nat → Int
 π : Nat → Nat
 S : Nat → Option BK
abbrev SB' := Nat → Option BK
def Sl (S : SB') (t : TypeId) (v : Value) (n : Int) : Prop :=
 ∃ a len c, v = .slice a len c ∧ (len : Int) = n ∧ ((a = none ∧ len = 0 ∧ c = 0) ∨ ∃ b k, a = some ⟨b, 0, none⟩ ∧ S b = some ⟨true, t, k, c⟩ ∧ len ≤ k)
def CT.has (S : SB') (v0 : Value) (L : Int) : CT → Value → Prop
 | .int k lo hi, v => ∃ n, v = .int k n ∧ lo ≤ n ∧ n ≤ hi
 | .bool, v => ∃ b, v = .bool b
 | .slc t, v => ∃ n, n ≤ L ∧ Sl S t v n
 | .cnt, v => ∃ n, v = .int .i64 n ∧ 0 ≤ n ∧ n ≤ L
 | .fix, v => v = v0
def Cmp.on : Cmp → Int → Int → Bool
 | .lt, a, b => decide (a < b)
 | .le, a, b => decide (a ≤ b)
 | .eq, a, b => decide (a = b)
 | .ne, a, b => !decide (a = b)
def AB.val (ρ : Nat → Int) : AB → Bool
 | .lit b => b
 | .cmp c i d j e => c.on (ρ i + d) (ρ j + e)
def AC.has (T : Bool → TypeId → Option (List CT)) (v0 : Value) (κ : Ctx) : AC → Value → Prop
 | .int k i d, v => v = .int k (κ.ρ i + d)
 | .bool b, v => v = .bool (b.val κ.ρ)
 | .slc t i d, v => Sl κ.S t v (κ.ρ i + d)
 | .nils, v => v = .slice none 0 0
 | .ptr t p o, v => v = .pointer (some ⟨κ.π p, o, none⟩) ∧ κ.S (κ.π p) = some ⟨false, t, 1, 1⟩
 | .eptr t o, v => ∃ b j x ts, v = .pointer (some ⟨b, j * ts.length + o, none⟩) ∧ T true t = some ts ∧ κ.S b = some x ∧ x.row = true ∧ x.t = t ∧ j < x.k
 | .fix, v => v = v0
 | .anyI k, v => ∃ n, v = .int k n ∧ klo k ≤ n ∧ n ≤ khi k
 | .anyB, v => ∃ b, v = .bool b
def hasL (T : Bool → TypeId → Option (List CT)) (v0 : Value) (κ : Ctx) : List AC → List Value → Prop
 | [], [] => True
 | c :: cs, v :: vs => c.has T v0 κ v ∧ hasL T v0 κ cs vs
 | _, _ => False
def hasP (T : Bool → TypeId → Option (List CT)) (v0 : Value) (κ : Ctx) : Bool × List AC → Value → Prop
 | (true, l), v => ∃ vs : Array Value, v = .agg vs ∧ hasL T v0 κ l vs.toList
 | (false, [c]), v => c.has T v0 κ v
 | (false, _), _ => False
def hasPs (T : Bool → TypeId → Option (List CT)) (v0 : Value) (κ : Ctx) : List (Bool × List AC) → List Value → Prop
 | [], [] => True
 | c :: cs, v :: vs => hasP T v0 κ c v ∧ hasPs T v0 κ cs vs
 | _, _ => False
def AV.has (T : Bool → TypeId → Option (List CT)) (v0 : Value) (κ : Ctx) : AV → Value → Prop
 | .ud, _ => True
 | .one c, v => c.has T v0 κ v
 | .agg l, v => ∃ vs : Array Value, v = .agg vs ∧ hasL T v0 κ l vs.toList
 | .tup ps, v => ∃ vs : Array Value, v = .tuple vs ∧ hasPs T v0 κ ps vs.toList
def SExt (S S' : SB') : Prop := ∀ b x, S b = some x → ∃ k, S' b = some ⟨x.row, x.t, k, x.cap⟩ ∧ x.k ≤ k ∧ (x.row = false → k = x.k)
theorem SExt.refl (S : SB') : SExt S S := fun _ x h => ⟨x.k, h, Nat.le_refl _, fun _ => rfl⟩
theorem SExt.trans {S S' S'' : SB'} (h : SExt S S') (h' : SExt S' S'') : SExt S S'' := by
 intro b x hx
 obtain ⟨k, h1, h2, h3⟩ := h b x hx
 obtain ⟨k', h4, h5, h6⟩ := h' b _ h1
 exact ⟨k', h4, Nat.le_trans h2 h5, fun hr => (h6 hr).trans (h3 hr)⟩
structure Agree (κ κ' : Ctx) (n m : Nat) : Prop where
 ρ : ∀ i, ¬ (n ≤ i ∧ i < n + m) → κ'.ρ i = κ.ρ i
 π : ∀ i, ¬ (n ≤ i ∧ i < n + m) → κ'.π i = κ.π i
 S : SExt κ.S κ'.S
theorem Agree.refl (κ : Ctx) (n : Nat) : Agree κ κ n 0 := ⟨fun _ _ => rfl, fun _ _ => rfl, .refl _⟩
def AB.off (n m : Nat) : AB → Prop
 | .lit _ => True
 | .cmp _ i _ j _ => ¬ (n ≤ i ∧ i < n + m) ∧ ¬ (n ≤ j ∧ j < n + m)
def AC.off (n m : Nat) : AC → Prop
 | .int _ i _ => ¬ (n ≤ i ∧ i < n + m)
 | .bool b => b.off n m
 | .slc _ i _ => ¬ (n ≤ i ∧ i < n + m)
 | .ptr _ p _ => ¬ (n ≤ p ∧ p < n + m)
 | _ => True
def offL (n m : Nat) (l : List AC) : Prop := ∀ c ∈ l, c.off n m
def AV.off (n m : Nat) : AV → Prop
 | .ud => True
 | .one c => c.off n m
 | .agg l => offL n m l
 | .tup ps => ∀ p ∈ ps, offL n m p.2
section
variable {T : Bool → TypeId → Option (List CT)} {v0 : Value} {κ κ' : Ctx} {n m : Nat}
theorem Sl.mono {S S' : SB'} (h : SExt S S') {t : TypeId} {v : Value} {x : Int} (hs : Sl S t v x) : Sl S' t v x := by
 obtain ⟨a, len, c, rfl, h1, h2⟩ := hs
 refine ⟨a, len, c, rfl, h1, ?_⟩
 rcases h2 with h2 | ⟨b, k, rfl, h3, h4⟩
 · exact .inl h2
 · obtain ⟨k', h5, h6, _⟩ := h b _ h3
   exact .inr ⟨b, k', rfl, h5, Nat.le_trans h4 h6⟩
theorem CT.has_mono {S S' : SB'} (h : SExt S S') {L L' : Int} (hL : L ≤ L') {c : CT} {v : Value} (hc : c.has S v0 L v) : c.has S' v0 L' v := by
 cases c with
 | int k lo hi => exact hc
 | bool => exact hc
 | slc t =>
  obtain ⟨n, h1, h2⟩ := hc
  exact ⟨n, by omega, h2.mono h⟩
 | cnt =>
  obtain ⟨n, h1, h2, h3⟩ := hc
  exact ⟨n, h1, h2, by omega⟩
 | fix => exact hc
theorem AB.val_agree (h : Agree κ κ' n m) {b : AB} (ho : b.off n m) : b.val κ'.ρ = b.val κ.ρ := by
 cases b with
 | lit b => rfl
 | cmp c i d j e => simp only [AB.val, h.ρ i ho.1, h.ρ j ho.2]
theorem AC.has_agree (h : Agree κ κ' n m) {c : AC} {v : Value} (hc : c.has T v0 κ v) (ho : c.off n m) : c.has T v0 κ' v := by
 cases c with
 | int k i d => simp only [AC.has] at hc ⊢; rw [h.ρ i ho]; exact hc
 | bool b => simp only [AC.has] at hc ⊢; rw [AB.val_agree h ho]; exact hc
 | slc t i d => simp only [AC.has] at hc ⊢; rw [h.ρ i ho]; exact hc.mono h.S
 | nils => exact hc
 | ptr t p o =>
  simp only [AC.has] at hc ⊢
  rw [h.π p ho]
  obtain ⟨k, h1, h2, h3⟩ := h.S _ _ hc.2
  obtain rfl : k = 1 := h3 rfl
  exact ⟨hc.1, h1⟩
 | eptr t o =>
  obtain ⟨b, j, x, ts, h1, h2, h3, h4, h5, h6⟩ := hc
  obtain ⟨k, h7, h8, _⟩ := h.S b x h3
  exact ⟨b, j, ⟨x.row, x.t, k, x.cap⟩, ts, h1, h2, h7, h4, h5, Nat.lt_of_lt_of_le h6 h8⟩
 | fix => exact hc
 | anyI k => exact hc
 | anyB => exact hc
theorem hasL_agree (h : Agree κ κ' n m) : ∀ {l : List AC} {vs : List Value}, hasL T v0 κ l vs → offL n m l → hasL T v0 κ' l vs
 | [], [], _, _ => trivial
 | c :: cs, v :: vs, hh, ho => ⟨AC.has_agree h hh.1 (ho c (by simp)), hasL_agree h hh.2 fun x hx => ho x (by simp [hx])⟩
 | [], _ :: _, hh, _ => hh.elim
 | _ :: _, [], hh, _ => hh.elim
theorem hasP_agree (h : Agree κ κ' n m) {p : Bool × List AC} {v : Value} (hh : hasP T v0 κ p v) (ho : offL n m p.2) : hasP T v0 κ' p v := by
 match p, hh with
 | (true, l), ⟨vs, h1, h2⟩ => exact ⟨vs, h1, hasL_agree h h2 ho⟩
 | (false, [c]), hh => exact AC.has_agree h hh (ho c (by simp))
theorem hasPs_agree (h : Agree κ κ' n m) : ∀ {l : List (Bool × List AC)} {vs : List Value}, hasPs T v0 κ l vs → (∀ p ∈ l, offL n m p.2) → hasPs T v0 κ' l vs
 | [], [], _, _ => trivial
 | c :: cs, v :: vs, hh, ho => ⟨hasP_agree h hh.1 (ho c (by simp)), hasPs_agree h hh.2 fun x hx => ho x (by simp [hx])⟩
 | [], _ :: _, hh, _ => hh.elim
 | _ :: _, [], hh, _ => hh.elim
theorem AV.has_agree (h : Agree κ κ' n m) {a : AV} {v : Value} (hh : a.has T v0 κ v) (ho : a.off n m) : a.has T v0 κ' v := by
 cases a with
 | ud => trivial
 | one c => exact AC.has_agree h hh ho
 | agg l => obtain ⟨vs, h1, h2⟩ := hh; exact ⟨vs, h1, hasL_agree h h2 ho⟩
 | tup ps => obtain ⟨vs, h1, h2⟩ := hh; exact ⟨vs, h1, hasPs_agree h h2 ho⟩
theorem hasL_length : ∀ {l : List AC} {vs : List Value}, hasL T v0 κ l vs → l.length = vs.length
 | [], [], _ => rfl
 | _ :: _, _ :: _, h => by simp [hasL_length h.2]
 | [], _ :: _, h => h.elim
 | _ :: _, [], h => h.elim
theorem hasL_get : ∀ {l : List AC} {vs : List Value}, hasL T v0 κ l vs → ∀ {i : Nat} {c : AC}, l[i]? = some c → ∃ v, vs[i]? = some v ∧ c.has T v0 κ v
 | [], [], _, i, c, h => by simp at h
 | a :: l, v :: vs, hh, 0, c, h => by simp at h; subst h; exact ⟨v, by simp, hh.1⟩
 | a :: l, v :: vs, hh, i + 1, c, h => by
  simp at h
  obtain ⟨u, h1, h2⟩ := hasL_get hh.2 h
  exact ⟨u, by simpa using h1, h2⟩
 | [], _ :: _, h, _, _, _ => h.elim
 | _ :: _, [], h, _, _, _ => h.elim
theorem hasL_of : ∀ {l : List AC} {vs : List Value}, l.length = vs.length → (∀ (i : Nat) (c : AC) (v : Value), l[i]? = some c → vs[i]? = some v → c.has T v0 κ v) → hasL T v0 κ l vs
 | [], [], _, _ => trivial
 | c :: l, v :: vs, h, hh => ⟨hh 0 c v rfl rfl, hasL_of (by simpa using h) fun i c v h1 h2 => hh (i + 1) c v (by simpa using h1) (by simpa using h2)⟩
 | [], _ :: _, h, _ => by simp at h
 | _ :: _, [], h, _ => by simp at h
theorem hasL_append : ∀ {l l' : List AC} {vs vs' : List Value}, hasL T v0 κ l vs → hasL T v0 κ l' vs' → hasL T v0 κ (l ++ l') (vs ++ vs')
 | [], _, [], _, _, h => h
 | _ :: _, _, _ :: _, _, h, h' => ⟨h.1, hasL_append h.2 h'⟩
 | [], _, _ :: _, _, h, _ => h.elim
 | _ :: _, _, [], _, h, _ => h.elim
theorem hasL_take : ∀ {l : List AC} {vs : List Value} (i : Nat), hasL T v0 κ l vs → hasL T v0 κ (l.take i) (vs.take i)
 | _, _, 0, _ => by simp [hasL]
 | [], [], _ + 1, _ => trivial
 | _ :: _, _ :: _, i + 1, h => ⟨h.1, hasL_take i h.2⟩
 | [], _ :: _, _ + 1, h => h.elim
 | _ :: _, [], _ + 1, h => h.elim
theorem hasL_drop : ∀ {l : List AC} {vs : List Value} (i : Nat), hasL T v0 κ l vs → hasL T v0 κ (l.drop i) (vs.drop i)
 | _, _, 0, h => h
 | [], [], _ + 1, _ => trivial
 | _ :: _, _ :: _, i + 1, h => hasL_drop i h.2
 | [], _ :: _, _ + 1, h => h.elim
 | _ :: _, [], _ + 1, h => h.elim
end
structure Par where
 T : Bool → TypeId → Option (List CT)
 v0 : Value
 W : World
 M : Nat
 pin : List (Nat × Nat)
 num : List (Nat × Int)
structure BlkOk (p : Par) (S : SB') (L : Int) (w : World) (b : Nat) (x : BK) : Prop where
 new : p.W.heap.size ≤ b
 kc : x.k ≤ x.cap
 cap : x.cap ≤ maxLen
 at_ : ∃ ts arr, p.T x.row x.t = some ts ∧ 0 < ts.length ∧ w.heap[b]? = some (.cells arr x.t (0, 0)) ∧ arr.size = x.cap * ts.length ∧
  ∀ j o ct, j < x.k → ts[o]? = some ct → ∃ v, arr[j * ts.length + o]? = some v ∧ ct.has S p.v0 L v
structure WT (p : Par) (S : SB') (L : Int) (w : World) : Prop where
 old : Old p.W w
 size : p.W.heap.size ≤ w.heap.size
 blk : ∀ b x, S b = some x → BlkOk p S L w b x
theorem WT.mono {p : Par} {S : SB'} {L L' : Int} (hL : L ≤ L') {w : World} (h : WT p S L w) : WT p S L' w := by
 refine ⟨h.old, h.size, fun b x hx => ?_⟩
 obtain ⟨h1, h2, h3, ts, arr, h4, h5, h6, h7, h8⟩ := h.blk b x hx
 exact ⟨h1, h2, h3, ts, arr, h4, h5, h6, h7, fun j o ct hj ho => by
  obtain ⟨v, h9, h10⟩ := h8 j o ct hj ho
  exact ⟨v, h9, CT.has_mono (.refl _) hL h10⟩⟩
def cellsAt (p : Par) (κ : Ctx) (w : World) (b : Nat) (l : List AC) : Prop := ∃ arr t, w.heap[b]? = some (.cells arr t (0, 0)) ∧ hasL p.T p.v0 κ l arr.toList
def Bd.ok (M : Nat) (b : Bd) (x : Int) : Prop := b.lo ≤ x ∧ x ≤ (b.a : Int) * M + b.hi
structure InOk (p : Par) (κ : Ctx) (I : In) (a : Act) (w : World) : Prop where
 zero : κ.ρ 0 = 0
 slots : ∀ t v, I.S t = some v → v.has p.T p.v0 κ (a.tmps.getD t undef)
 mem : ∀ q t l, I.M q = some (t, l) → κ.S (κ.π q) = some ⟨false, t, 1, 1⟩ ∧ cellsAt p κ w (κ.π q) l
 bd : ∀ i (b : Bd), I.B i = some b → b.ok p.M (κ.ρ i)
 lts : ∀ i j, I.L i j = true → κ.ρ i < κ.ρ j
 pos : 0 < I.n
 offS : ∀ t v, I.S t = some v → ∀ m, v.off I.n m
 offM : ∀ q t l, I.M q = some (t, l) → q < I.n ∧ ∀ m, offL I.n m l
 offB : ∀ i (b : Bd), I.B i = some b → i < I.n
structure OpOut (p : Par) (κ κ' : Ctx) (n : Nat) (e : Ef) (L : Int) (w w' : World) (u : Value) : Prop where
 agree : Agree κ κ' n e.new.length
 val : e.av.has p.T p.v0 κ' u
 new : ∀ j (b : Bd), e.new[j]? = some b → b.ok p.M (κ'.ρ (n + j))
 lts : ∀ q ∈ e.lts, κ'.ρ q.1 < κ'.ρ q.2
 wt : WT p κ'.S (L + e.up) w'
 os : w'.os = w.os
 tape : w'.tape = w.tape
 output : w'.output = w.output
 size : w.heap.size ≤ w'.heap.size
 newS : ∀ b x, κ'.S b = some x → (∃ y, κ.S b = some y) ∨ w.heap.size ≤ b
 same : ∀ b, b < w.heap.size → (∀ x, κ.S b = some x → (x.row, x.t) ∉ e.kill) → (∀ q ∈ e.wr, κ.π q.1 ≠ b) → w'.heap[b]? = w.heap[b]?
 wr : ∀ q ∈ e.wr, κ.S (κ.π q.1) = some ⟨false, q.2, 1, 1⟩
 pm : ∀ q ∈ e.pm, κ'.S (κ'.π q.1) = some ⟨false, q.2.1, 1, 1⟩ ∧ cellsAt p κ' w' (κ'.π q.1) q.2.2
 nb : ∀ q, e.nb = some q → κ'.S (κ'.π n) = some ⟨false, q.1, 1, 1⟩ ∧ cellsAt p κ' w' (κ'.π n) q.2 ∧ w.heap.size ≤ κ'.π n ∧ e.new.length = 1
end Go.Ty
