/- The abstract evaluator: what an operation, a piece of code, a call comes to over abstract values and an abstract heap. -/
import Derived.Test.YtgdcimpndddepaaGreatAbs1
namespace Go.Abs
noncomputable section

inductive Ent where
  | row (ro : Bool) (sz : Nat) (es : List AV)
  | map (ro : Bool) (es : List (AV × AV))
  | gone
  deriving Inhabited
abbrev Heap := List Ent

/-! ### Types -/
structure Fld where
  off : Nat
  type : TypeId
  size : Nat
  blank : Bool
inductive TK where
  | bool | str
  | int (k : IntKind)
  | ptr (e : TypeId)
  | slice (e : TypeId)
  | array (n : Nat) (e : TypeId)
  | struct (fs : List Fld)
  | map (k e : TypeId)
  | func
  | iface
structure TI where
  k : TK
  size : Nat
  bytes : Nat
  zero : AV
  plainEq : Bool
def TK.isAgg : TK → Bool
  | .struct _ => true
  | .array .. => true
  | _ => false

/-- How a call is carried out: 'pure': over a heap of its own, a result without memory; 'frz': so too, a result with memory, what it is given is frozen; 'full': over the caller's heap. -/
inductive CM where | pure | frz | full

structure Env where
  ti : TypeId → Option TI
  fn : FuncId → Option Func
  cm : FuncId → CM
  nop : FuncId → Bool
  nat : FuncId → Option (List AV → Heap → Option (AV × Heap))

def kd (E : Env) (t : TypeId) : Option TK := (E.ti t).map (·.k)

/-! ### Frames -/
def getSX : List (Nat × AV) → AV → Nat → AV
  | [], d, _ => d
  | (s, v) :: r, d, t => bif Nat.beq s t then v else getSX r d t
def getS (l : List (Nat × AV)) (d : AV) (t : Nat) : AV := List.rec (motive := fun _ => AV) d (fun p _ ih => Bool.rec (motive := fun _ => AV) ih p.2 (Nat.beq p.1 t)) l
def putSX : List (Nat × AV) → Nat → AV → List (Nat × AV)
  | [], t, v => [(t, v)]
  | (s, u) :: r, t, v => bif Nat.blt t s then (t, v) :: (s, u) :: r else bif Nat.beq t s then (t, v) :: r else (s, u) :: putSX r t v
def putS (l : List (Nat × AV)) (t : Nat) (v : AV) : List (Nat × AV) :=
  List.rec (motive := fun _ => List (Nat × AV)) [(t, v)] (fun p r ih => Bool.rec (motive := fun _ => List (Nat × AV)) (Bool.rec (motive := fun _ => List (Nat × AV)) (p :: ih) ((t, v) :: r) (Nat.beq t p.1)) ((t, v) :: p :: r) (Nat.ble (Nat.succ t) p.1)) l
theorem getS_cons' (s : Nat) (v : AV) (r : List (Nat × AV)) (d : AV) (t : Nat) : getS ((s, v) :: r) d t = bif Nat.beq s t then v else getS r d t := by
  simp only [getS]
  cases Nat.beq s t <;> rfl
theorem getS_nil' (d : AV) (t : Nat) : getS [] d t = d := rfl
theorem putS_cons' (s : Nat) (u : AV) (r : List (Nat × AV)) (t : Nat) (v : AV) : putS ((s, u) :: r) t v = bif Nat.blt t s then (t, v) :: (s, u) :: r else bif Nat.beq t s then (t, v) :: r else (s, u) :: putS r t v := by
  simp only [putS, Nat.blt]
  cases Nat.ble (t + 1) s <;> cases Nat.beq t s <;> rfl
theorem putS_nil' (t : Nat) (v : AV) : putS [] t v = [(t, v)] := rfl

structure Frm where
  n : Nat
  dflt : AV
  slots : List (Nat × AV)
  defers : List Nat
def Frm.get (F : Frm) (t : Nat) : AV := getS F.slots F.dflt t
def Frm.put (F : Frm) (dst : Option Tmp) (v : AV) : Option Frm :=
  match dst with
  | none => some F
  | some d => match F with
    | ⟨n, dflt, slots, defers⟩ => bif Nat.blt d n then some ⟨n, dflt, putS slots d v, defers⟩ else none
theorem Frm.put_none' (F : Frm) (v : AV) : F.put none v = some F := rfl
theorem Frm.put_some' (F : Frm) (d : Tmp) (v : AV) : F.put (some d) v = bif Nat.blt d F.n then some { F with slots := putS F.slots d v } else none := rfl

def ofConst1 : Value → AV
  | .bool b => .bool b
  | .int k n => .int k n
  | .string s => .str s
  | .pointer none => .nilptr
  | .slice none 0 0 => .nil
  | .map none => .nilmap
  | .nilFunc => .nilfunc
  | .nilIface => .niliface
  | _ => .unk
def ofConst : Value → AV
  | .agg cs => .agg (cs.toList.map ofConst1)
  | .tuple cs => .tup (cs.toList.map ofConst1)
  | v => ofConst1 v
def Frm.eval (F : Frm) : Operand → AV
  | .tmp t => F.get t
  | .const v => ofConst v
  | .global _ => .unk
  | .func f => .func f []

/-! ### Memory -/
def AV.one : AV → Bool
  | .unk | .agg _ | .tup _ => false
  | _ => true
/-- One value, known. -/
def AV.solid : AV → Bool
  | .unk | .tup _ => false
  | _ => true
def splice (l : List AV) (o : Nat) (vs : List AV) : List AV := l.take o ++ vs ++ l.drop (o + vs.length)
def loadE (isA : Bool) (size : Nat) (e : AV) (o : Nat) : Option AV :=
  bif isA then match e with
    | .agg cs => if o = 0 ∧ cs.length = size then some (.agg cs) else if o + size ≤ cs.length then some (.agg ((cs.drop o).take size)) else none
    | _ => none
  else e.cells[o]?
def setE1 (o : Nat) (vs : List AV) : Option AV :=
  match o, vs with
  | 0, [.agg _] => none
  | 0, [v] => some v
  | _, _ => none
def setE (e : AV) (o : Nat) (vs : List AV) : Option AV :=
  match e with
  | .agg cs => if o + vs.length ≤ cs.length then some (.agg (splice cs o vs)) else none
  | .tup _ => none
  | _ => setE1 o vs
def loadP (h : Heap) (isA : Bool) (size : Nat) : AV → Option AV
  | .ptr b g i o => match h[b]? with
    | some (.row _ _ es) => if es.length = g then es[i]?.bind fun e => loadE isA size e o else none
    | _ => none
  | .iptr e o => loadE isA size e o
  | _ => none
def storeP (h : Heap) (size : Nat) (p : AV) (v : AV) : Option Heap :=
  match p with
  | .ptr b g i o => match h[b]? with
    | some (.row false sz es) =>
      if es.length = g ∧ v.cells.length = size ∧ v.cells.all AV.one = true then
        (es[i]?.bind fun e => setE e o v.cells).map fun e => h.set b (Ent.row false sz (es.set i e))
      else none
    | _ => none
  | _ => none
/-- The elements of a slice (each of 'sz' cells). -/
def items (h : Heap) (sz : Nat) : AV → Option (List AV)
  | .nil => some []
  | .emp => some []
  | .lst es => if es.all (fun e => e.cells.length == sz) = true then some es else none
  | .ref b g s n => match h[b]? with
    | some (.row _ z es) => if z = sz ∧ es.length = g then some ((es.drop s).take n) else none
    | _ => none
  | _ => none
/-- How a value is taken out of the heap: 'any'; 'frz': out of frozen rows alone; 'own': out of rows of the heap alone. -/
inductive SM where | any | frz | own
  deriving DecidableEq
def SM.row : SM → Bool → Bool
  | .frz, ro => ro
  | _, _ => true
/-- A value without references into the heap. -/
def snap (fr : SM) : Nat → Heap → AV → Option AV
  | 0, _, _ => none
  | d + 1, h, v => match v with
    | .ref b g s n => match n with
      | 0 => some (.lst [])
      | n + 1 => match h[b]? with
        | some (.row ro _ es) => if es.length = g ∧ fr.row ro = true then (((es.drop s).take (n + 1)).mapM (snap fr d h)).map .lst else none
        | _ => none
    | .agg cs => (cs.mapM (snap fr d h)).map .agg
    | .tup cs => (cs.mapM (snap fr d h)).map .tup
    | .nil => some .nil
    | .emp => some .emp
    | .iface t v => (snap fr d h v).map (.iface t)
    | .ptr .. => none
    | .map _ => none
    | .func f cap => match cap with
      | [] => some (.func f [])
      | _ => none
    | .unk => none
    | .lst es => match fr, es with
      | .own, _ :: _ => none
      | _, es => some (.lst es)
    | .iptr e o => match fr with
      | .own => none
      | _ => some (.iptr e o)
    | v => some v
/-- Rows that a value reaches are frozen. -/
def freeze : Nat → AV → Heap → Option Heap
  | 0, _, _ => none
  | d + 1, v, h => match v with
    | .ref b g s n => match n with
      | 0 => some h
      | n + 1 => match h[b]? with
        | some (.row _ sz es) => if es.length = g ∧ 0 < g then ((es.drop s).take (n + 1)).foldlM (fun h v => freeze d v h) (h.set b (.row true sz es)) else none
        | _ => none
    | .agg cs => cs.foldlM (fun h v => freeze d v h) h
    | .tup cs => cs.foldlM (fun h v => freeze d v h) h
    | .iface _ v => freeze d v h
    | _ => some h
/-- A value without references into the heap. -/
def closed? : Nat → AV → Bool
  | 0, _ => false
  | d + 1, v => match v with
    | .bool _ | .int .. | .str _ | .nilptr | .nil | .emp | .nilfunc | .nilmap | .niliface | .lst _ | .iptr .. => true
    | .agg cs => cs.all (closed? d)
    | .tup cs => cs.all (closed? d)
    | .iface _ v => closed? d v
    | .func _ cap => cap.isEmpty
    | _ => false

/-! ### Operators -/
def intA (op : BinOp) (k : IntKind) (x y : Int) : Option AV :=
  match op with
  | .add => some (.int k (k.wrap (x + y)))
  | .sub => some (.int k (k.wrap (x - y)))
  | .mul => some (.int k (k.wrap (x * y)))
  | .quo => if y = 0 then none else some (.int k (k.wrap (x.tdiv y)))
  | .rem => if y = 0 then none else some (.int k (x.tmod y))
  | .and => some (.int k (k.wrap ((BitVec.ofInt k.bits x &&& BitVec.ofInt k.bits y).toNat : Nat)))
  | .or => some (.int k (k.wrap ((BitVec.ofInt k.bits x ||| BitVec.ofInt k.bits y).toNat : Nat)))
  | .xor => some (.int k (k.wrap ((BitVec.ofInt k.bits x ^^^ BitVec.ofInt k.bits y).toNat : Nat)))
  | .andNot => some (.int k (k.wrap ((BitVec.ofInt k.bits x &&& ~~~BitVec.ofInt k.bits y).toNat : Nat)))
  | .eql => some (.bool (x == y))
  | .neq => some (.bool (x != y))
  | .lss => some (.bool (decide (x < y)))
  | .leq => some (.bool (decide (x ≤ y)))
  | .gtr => some (.bool (decide (x > y)))
  | .geq => some (.bool (decide (x ≥ y)))
  | _ => none
def strA (op : BinOp) (x y : ByteArray) : Option AV :=
  let eq := x.toList == y.toList
  let lt := Op.bytesLess x.toList y.toList
  match op with
  | .add => if ((x.size + y.size : Nat) : Int) ≤ 9223372036854775807 then some (.str (x ++ y)) else none
  | .eql => some (.bool eq)
  | .neq => some (.bool !eq)
  | .lss => some (.bool lt)
  | .leq => some (.bool (lt || eq))
  | .gtr => some (.bool !(lt || eq))
  | .geq => some (.bool !lt)
  | _ => none
def partA (isA : Bool) (cs : List AV) (off size : Nat) : Option AV :=
  bif isA then (if off + size ≤ cs.length then some (.agg ((cs.drop off).take size)) else none) else cs[off]?
def isAggT (E : Env) (t : TypeId) : Option Bool := (E.ti t).map (·.k.isAgg)
def nilP : AV → Option Bool
  | .nilptr => some true
  | .ptr .. | .iptr .. => some false
  | _ => none
def nilS : AV → Option Bool
  | .nil => some true
  | .lst (_ :: _) => some false
  | .ref _ _ _ (_ + 1) => some false
  | _ => none
def nilM : AV → Option Bool
  | .nilmap => some true
  | .map _ => some false
  | _ => none
def nilF : AV → Option Bool
  | .nilfunc => some true
  | .func .. => some false
  | _ => none
def eqFs (eq : TypeId → AV → AV → Option Bool) (E : Env) (xs ys : List AV) : List Fld → Option Bool
  | [] => some true
  | f :: r =>
    bif f.blank then eqFs eq E xs ys r else
    match isAggT E f.type with
    | none => none
    | some a => match partA a xs f.off f.size, partA a ys f.off f.size with
      | some x, some y => (eq f.type x y).bind fun b => bif b then eqFs eq E xs ys r else some false
      | _, _ => none
def eqA (E : Env) : Nat → TypeId → AV → AV → Option Bool
  | 0, _, _, _ => none
  | d + 1, t, x, y =>
    match kd E t, x, y with
    | some .bool, .bool a, .bool b => some (a == b)
    | some (.int _), .int k a, .int k' b => if k = k' then some (a == b) else none
    | some .str, .str a, .str b => some (a == b)
    | some (.struct fs), .agg xs, .agg ys => if (E.ti t).any (·.plainEq) then eqFs (eqA E d) E xs ys fs else none
    | some (.ptr _), .nilptr, y => nilP y
    | some (.ptr _), x, .nilptr => nilP x
    | some (.slice _), .nil, y => nilS y
    | some (.slice _), x, .nil => nilS x
    | some (.map ..), .nilmap, y => nilM y
    | some (.map ..), x, .nilmap => nilM x
    | some .func, .nilfunc, y => nilF y
    | some .func, x, .nilfunc => nilF x
    | _, _, _ => none
def binA (E : Env) (op : BinOp) (t : TypeId) (x y : AV) : Option AV :=
  match op, x, y with
  | .shl, .int k a, .int _ b => if b < 0 then none else some (.int k (k.wrap (a * 2 ^ (min b.toNat k.bits))))
  | .shr, .int k a, .int _ b => if b < 0 then none else some (.int k (a.fdiv (2 ^ (min b.toNat k.bits))))
  | op, .int k a, .int k' b => if k = k' then intA op k a b else none
  | op, .str a, .str b => strA op a b
  | .eql, x, y => (eqA E 20 t x y).map .bool
  | .neq, x, y => (eqA E 20 t x y).map fun b => .bool !b
  | _, _, _ => none
def unA (op : UnOp) (x : AV) : Option AV :=
  match op, x with
  | .neg, .int k n => intA .sub k 0 n
  | .xor, .int k n => intA .xor k (if k.signed then -1 else k.max) n
  | .not, .bool b => some (.bool !b)
  | _, _ => none
def bytesA (s : ByteArray) : List AV := s.data.toList.map fun b => .int .u8 b.toNat
def byteOf : AV → Option UInt8
  | .int .u8 n => some (UInt8.ofNat n.toNat)
  | _ => none
def convA (E : Env) (src dst : TypeId) (h : Heap) (x : AV) : Option (AV × Heap) :=
  match kd E src, kd E dst, x with
  | some _, some (.int k), .int _ n => some (.int k (k.wrap n), h)
  | some _, some .str, .str s => some (.str s, h)
  | some _, some (.slice e), .str s =>
    match E.ti e with
    | some { k := .int .u8, size := 1, .. } => if s.size ≤ 140737488355328 then some (.lst (bytesA s), h) else none
    | _ => none
  | some (.slice e), some .str, x =>
    match E.ti e with
    | some { k := .int .u8, size := 1, .. } => (items h 1 x).bind fun es => (es.mapM byteOf).map fun bs => (.str ⟨bs.toArray⟩, h)
    | _ => none
  | _, _, _ => none

def fillA (place : Nat → Option (Nat × Nat)) (cs : List AV) : List (Nat × AV) → Option (List AV)
  | [] => some cs
  | (i, v) :: r => match place i with
    | none => none
    | some (off, size) => if v.cells.length = size ∧ off + size ≤ cs.length ∧ v.solid = true then fillA place (splice cs off v.cells) r else none
def fillS (sz : Nat) (es : List AV) : List (Nat × AV) → Option (List AV)
  | [] => some es
  | (i, v) :: r => if v.cells.length = sz ∧ i < es.length ∧ v.solid = true then fillS sz (es.set i v) r else none

def sub (F : Frm) (ps : Array (Nat × Operand)) : List (Nat × AV) := ps.toList.map fun (i, x) => (i, F.eval x)
def inBound (lo hi : Int) (x : AV) : Option Nat :=
  match x with
  | .int _ i => if lo ≤ i ∧ i ≤ hi then some i.toNat else none
  | _ => none
/-- 'x[l:h]' of a string or a slice; a bound above the length is not looked into. -/
def sliceA (E : Env) (t : TypeId) (h : Heap) (x : AV) (lo hi mx : Option AV) : Option AV :=
  match kd E t, x with
  | some .str, .str s => match mx with
    | some _ => none
    | none =>
      (match hi with | none => some s.size | some v => inBound 0 s.size v).bind fun b =>
      (match lo with | none => some 0 | some v => inBound 0 b v).bind fun a => some (.str (s.extract a b))
  | some (.slice e), x =>
    match E.ti e with
    | none => none
    | some ei =>
      match mx with
      | some m => -- 'x[:0:0]'
        match m, hi, lo with
        | .int _ 0, some (.int _ 0), none => match x with
          | .nil | .emp | .lst _ | .ref .. => some .emp
          | _ => none
        | _, _, _ => none
      | none =>
        let cut (n : Nat) (k : Nat → Nat → Option AV) : Option AV :=
          (match hi with | none => some n | some v => inBound 0 n v).bind fun b =>
          (match lo with | none => some 0 | some v => inBound 0 b v).bind fun a => k a b
        match x with
        | .nil => cut 0 fun _ _ => some .nil
        | .emp => cut 0 fun _ _ => some .emp
        | .lst es => if es.all (fun e => e.cells.length == ei.size) = true then cut es.length fun a b => some (.lst ((es.take b).drop a)) else none
        | .ref b g s n => match h[b]? with
          | some (.row _ z es) => if z = ei.size ∧ es.length = g then
              (match hi with | none => some n | some v => inBound 0 ((g - s : Nat) : Int) v).bind fun q =>
              (match lo with | none => some 0 | some v => inBound 0 q v).bind fun p => some (.ref b g (s + p) (q - p))
            else none
          | _ => none
        | _ => none
  | _, _ => none
def indexAddrA (E : Env) (t : TypeId) (h : Heap) (x ix : AV) : Option AV :=
  match ix with
  | .int _ i =>
    match kd E t, x with
    | some (.slice e), .ref b g s n =>
      match E.ti e, h[b]? with
      | some ei, some (.row _ z es) => if 0 ≤ i ∧ i < n ∧ z = ei.size ∧ es.length = g then some (.ptr b g (s + i.toNat) 0) else none
      | _, _ => none
    | some (.slice e), .lst es =>
      match E.ti e with
      | some ei => if 0 ≤ i ∧ i < es.length ∧ es.all (fun e => e.cells.length == ei.size) = true then es[i.toNat]?.map fun e => .iptr e 0 else none
      | none => none
    | some (.array n e), .ptr b g j o =>
      match E.ti e with
      | some ei => if 0 ≤ i ∧ i < n then some (.ptr b g j (o + i.toNat * ei.size)) else none
      | none => none
    | _, _ => none
  | _ => none
def indexA (E : Env) (t : TypeId) (x ix : AV) : Option AV :=
  match ix with
  | .int _ i =>
    match kd E t, x with
    | some (.array n e), .agg cs =>
      match E.ti e with
      | some ei => if 0 ≤ i ∧ i < n then partA ei.k.isAgg cs (i.toNat * ei.size) ei.size else none
      | none => none
    | some .str, .str s => if 0 ≤ i then (s.data.toList[i.toNat]?).map fun b => .int .u8 b.toNat else none
    | _, _ => none
  | _ => none
def fieldAddrA (E : Env) (t : TypeId) (x : AV) (j : Nat) : Option AV :=
  match kd E t with
  | some (.struct fs) => match fs[j]? with
    | some f => if f.size = 0 then none else match x with
      | .ptr b g i o => some (.ptr b g i (o + f.off))
      | .iptr e o => some (.iptr e (o + f.off))
      | _ => none
    | none => none
  | _ => none
def fieldA (E : Env) (t : TypeId) (x : AV) (j : Nat) : Option AV :=
  match kd E t, x with
  | some (.struct fs), .agg cs => match fs[j]? with
    | some f => (isAggT E f.type).bind fun a => partA a cs f.off f.size
    | none => none
  | _, _ => none
/-- Keys are whole numbers, strings, truth values. -/
def sameKey : TK → AV → AV → Option Bool
  | .int _, .int k a, .int k' b => if k = k' then some (a == b) else none
  | .str, .str a, .str b => some (a == b)
  | .bool, .bool a, .bool b => some (a == b)
  | _, _, _ => none
def findA (t : TK) (k : AV) : List (AV × AV) → Nat → Option (Option (Nat × AV))
  | [], _ => some none
  | (q, v) :: r, i => match sameKey t k q with
    | some true => some (some (i, v))
    | some false => findA t k r (i + 1)
    | none => none
def keyIs : TK → AV → Bool
  | .int _, .int .. => true
  | .str, .str _ => true
  | .bool, .bool _ => true
  | _, _ => false
def entriesA (h : Heap) : AV → Option (List (AV × AV))
  | .nilmap => some []
  | .map b => match h[b]? with
    | some (.map _ es) => some es
    | _ => none
  | _ => none
def orZ (z : AV) : Option (Nat × AV) → AV
  | some (_, v) => v
  | none => z
def lookupA (E : Env) (t : TypeId) (h : Heap) (x k : AV) (ok : Bool) : Option AV :=
  match kd E t with
  | some (.map kt et) => match E.ti kt, E.ti et with
    | some ki, some ei =>
      if keyIs ki.k k = true then
        (entriesA h x).bind fun es => (findA ki.k k es 0).map fun r =>
          bif ok then .tup [orZ ei.zero r, .bool r.isSome] else orZ ei.zero r
      else none
    | _, _ => none
  | _ => none
def mapUpdateA (E : Env) (t : TypeId) (h : Heap) (m k v : AV) : Option Heap :=
  match kd E t with
  | some (.map kt _) => match E.ti kt, m with
    | some ki, .map b =>
      if keyIs ki.k k = true then
        match h[b]? with
        | some (.map false es) => (findA ki.k k es 0).map fun r => match r with
          | some (i, _) => h.set b (Ent.map false (es.set i (k, v)))
          | none => h.set b (Ent.map false (es ++ [(k, v)]))
        | _ => none
      else none
    | _, _ => none
  | _ => none

/-! ### Built-in functions -/
def lenA (h : Heap) : TK → AV → Option Int
  | .str, .str s => some s.size
  | .slice _, .nil => some 0
  | .slice _, .emp => some 0
  | .slice _, .lst es => some es.length
  | .slice _, .ref _ _ _ n => some n
  | .map .., .nilmap => some 0
  | .map .., .map b => match h[b]? with
    | some (.map _ es) => some es.length
    | _ => none
  | .array n _, _ => some n
  | _, _ => none
def TK.isInt : TK → Bool
  | .int _ => true
  | _ => false
/-- The elements of a slice or the bytes of a string. -/
def newsA (h : Heap) (sz : Nat) : AV → Option (List AV)
  | .str b => if sz = 1 then some (bytesA b) else none
  | x => items h sz x
/-- 'append(s, x...)': p: the row that is made where one is. -/
def appendA (E : Env) (t xt : TypeId) (h : Heap) (p : Nat) (ins : Heap → Ent → Heap) (s x : AV) : Option (AV × Heap) :=
  match kd E t, kd E xt with
  | some (.slice e), some xk =>
    if xk.isInt = true then none else
    match E.ti e with
    | none => none
    | some ei =>
      if ei.size = 0 then none else
      (newsA h ei.size x).bind fun new =>
      match s with
      | .nil => if new.length * ei.bytes ≤ 140737488355328 ∧ new.length ≤ 140737488355328 then some (.ref p new.length 0 new.length, ins h (Ent.row false ei.size new)) else none
      | .emp => if new.length * ei.bytes ≤ 140737488355328 ∧ new.length ≤ 140737488355328 then some (.ref p new.length 0 new.length, ins h (Ent.row false ei.size new)) else none
      | .ref b g q n => match h[b]? with
        | some (.row false z es) =>
          if z = ei.size ∧ es.length = g ∧ q + n ≤ g ∧ new.all (fun e => e.cells.all AV.one) = true then
            if q + n + new.length ≤ g then some (.ref b g q (n + new.length), h.set b (Ent.row false z (es.take (q + n) ++ new ++ es.drop (q + n + new.length))))
            else if q = 0 ∧ (n + new.length) * ei.bytes ≤ 140737488355328 ∧ n + new.length ≤ 140737488355328 then some (.ref b (n + new.length) 0 (n + new.length), h.set b (Ent.row false z (es.take n ++ new)))
            else none
          else none
        | _ => none
      | _ => none
  | _, _ => none
def copyA (E : Env) (t : TypeId) (h : Heap) (d x : AV) : Option (AV × Heap) :=
  match kd E t with
  | some (.slice e) => match E.ti e with
    | none => none
    | some ei =>
      if ei.size = 0 then none else
      (newsA h ei.size x).bind fun src =>
      match d with
      | .nil => some (.int .i64 0, h)
      | .emp => some (.int .i64 0, h)
      | .ref b g q n => match h[b]? with
        | some (.row false z es) =>
          if z = ei.size ∧ es.length = g ∧ q + n ≤ g ∧ (src.take n).all (fun e => e.cells.all AV.one) = true then
            some (.int .i64 (Nat.min src.length n : Nat), h.set b (Ent.row false z (es.take q ++ src.take n ++ es.drop (q + (src.take n).length))))
          else none
        | _ => none
      | _ => none
  | _ => none
def clearA (E : Env) (t : TypeId) (h : Heap) (x : AV) : Option (AV × Heap) :=
  match kd E t, x with
  | some (.slice e), .ref b g q n => match E.ti e, h[b]? with
    | some ei, some (.row false z es) =>
      if z = ei.size ∧ es.length = g ∧ q + n ≤ g ∧ ei.zero.cells.length = z ∧ ei.zero.solid = true ∧ ei.zero.cells.all AV.one = true then
        some (.tup [], h.set b (Ent.row false z (es.take q ++ List.replicate n ei.zero ++ es.drop (q + n))))
      else none
    | _, _ => none
  | _, _ => none
def minA (le : Int → Int → Bool) : List AV → Option AV
  | .int k x :: r => r.foldlM (fun a b => match a, b with
    | .int k x, .int _ y => some (.int k (bif le y x then y else x))
    | _, _ => none) (.int k x)
  | _ => none
def builtinA (E : Env) (h : Heap) (p : Nat) (ins : Heap → Ent → Heap) (b : Builtin) (ts : Array TypeId) (args : List AV) : Option (AV × Heap) :=
  match b, ts.toList, args with
  | .len, t :: _, [x] => (kd E t).bind fun k => (lenA h k x).map fun n => (.int .i64 n, h)
  | .append, [t, xt], [s, x] => appendA E t xt h p ins s x
  | .copy, [t, _], [d, x] => copyA E t h d x
  | .clear, [t], [x] => clearA E t h x
  | .min, _, xs => (minA (fun y x => decide (y < x)) xs).map fun v => (v, h)
  | .max, _, xs => (minA (fun y x => decide (y > x)) xs).map fun v => (v, h)
  | _, _, _ => none

/-! ### Operations -/
/-- An operation other than a call of a function: its value and the heap behind it. p: the place of what it makes. -/
def opA (E : Env) (o : Oper) (F : Frm) (h : Heap) (p : Nat) (ins : Heap → Ent → Heap) : Option (AV × Heap) :=
  match o.op with
  | .move x | .assign x =>
    match x with
    | .const (.slice none 0 0) => match kd E o.type with
      | some (.slice e) => match E.ti e with
        | some ei => if ei.size = 0 then none else some (.ref p 0 0 0, ins h (Ent.row false ei.size []))
        | none => none
      | _ => none
    | x => some (F.eval x, h)
  | .pick c a b => match F.eval c with
    | .bool t => some (bif t then F.eval a else F.eval b, h)
    | _ => none
  | .alloc t => (E.ti t).bind fun i => if i.size = 0 ∨ i.zero.cells.length ≠ i.size ∨ i.zero.solid = false then none else some (.ptr p 1 0 0, ins h (Ent.row false i.size [i.zero]))
  | .box t x => (E.ti t).bind fun i => let v := F.eval x; if i.size = 0 ∨ v.cells.length ≠ i.size ∨ v.solid = false then none else some (.ptr p 1 0 0, ins h (Ent.row false i.size [v]))
  | .build t ps => (E.ti t).bind fun i => match i.k, i.zero with
    | .struct fs, .agg z => if fs.all (fun f => (E.ti f.type).isSome) = true then (fillA (fun j => fs[j]?.map fun f => (f.off, f.size)) z (sub F ps)).map fun cs => (.agg cs, h) else none
    | .array _ e, .agg z => (E.ti e).bind fun ei => (fillA (fun j => some (j * ei.size, ei.size)) z (sub F ps)).map fun cs => (.agg cs, h)
    | _, _ => none
  | .buildSlice t n ps => match kd E t with
    | some (.slice e) => (E.ti e).bind fun ei =>
      if ei.size = 0 ∨ ei.zero.cells.length ≠ ei.size ∨ ei.zero.solid = false ∨ n * ei.size > 16777216 then none else
      (fillS ei.size (List.replicate n ei.zero) (sub F ps)).map fun es => (.ref p n 0 n, ins h (Ent.row false ei.size es))
    | _ => none
  | .load t a => (E.ti t).bind fun i => (loadP h i.k.isAgg i.size (F.eval a)).map fun v => (v, h)
  | .store t a x => (E.ti t).bind fun i => (storeP h i.size (F.eval a) (F.eval x)).map fun h' => (.tup [], h')
  | .nilCheck x => match F.eval x with
    | .ptr b g i o => some (.ptr b g i o, h)
    | .iptr e o => some (.iptr e o, h)
    | .func f c => some (.func f c, h)
    | _ => none
  | .binOp op t x y _ => (binA E op t (F.eval x) (F.eval y)).map fun v => (v, h)
  | .unOp op _ x => (unA op (F.eval x)).map fun v => (v, h)
  | .convert s d x => convA E s d h (F.eval x)
  | .makeInterface t x => match kd E t with
    | some .iface | none => none
    | some _ => some (.iface t (F.eval x), h)
  | .makeFunc fn first captured => match fn, first.toList with
    | .func f, [] => some (.func f (captured.toList.map F.eval), h)
    | _, _ => none
  | .makeMap t r => match kd E t, r.map F.eval with
    | some (.map ..), none => some (.map p, ins h (Ent.map false []))
    | some (.map ..), some (.int ..) => some (.map p, ins h (Ent.map false []))
    | _, _ => none
  | .makeSlice t n c => match kd E t, F.eval n, F.eval c with
    | some (.slice e), .int _ n, .int _ c => (E.ti e).bind fun ei =>
      if ei.size = 0 ∨ ei.zero.cells.length ≠ ei.size ∨ ei.zero.solid = false ∨ ¬ (0 ≤ n ∧ n ≤ c ∧ c * ei.bytes ≤ 140737488355328 ∧ c ≤ 140737488355328) then none else
      some (.ref p n.toNat 0 n.toNat, ins h (Ent.row false ei.size (List.replicate n.toNat ei.zero)))
    | _, _, _ => none
  | .slice t x lo hi mx => (sliceA E t h (F.eval x) (lo.map F.eval) (hi.map F.eval) (mx.map F.eval)).map fun v => (v, h)
  | .fieldAddr t x j => (fieldAddrA E t (F.eval x) j).map fun v => (v, h)
  | .field t x j => (fieldA E t (F.eval x) j).map fun v => (v, h)
  | .indexAddr t x i => (indexAddrA E t h (F.eval x) (F.eval i)).map fun v => (v, h)
  | .index t x i => (indexA E t (F.eval x) (F.eval i)).map fun v => (v, h)
  | .lookup t x k ok => (lookupA E t h (F.eval x) (F.eval k) ok).map fun v => (v, h)
  | .mapUpdate t m k x | .insert t m k x => (mapUpdateA E t h (F.eval m) (F.eval k) (F.eval x)).map fun h' => (.tup [], h')
  | .extract x i => match F.eval x with
    | .tup vs => vs[i]?.map fun v => (v, h)
    | _ => none
  | .call { callee := .builtin b, args, argTypes } => builtinA E h p ins b argTypes (args.toList.map F.eval)
  | _ => none

end
end Go.Abs
