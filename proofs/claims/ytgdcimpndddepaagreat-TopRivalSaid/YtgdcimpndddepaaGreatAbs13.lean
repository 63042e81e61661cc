/- Regions, code, calls: the evaluator. -/
import Derived.Test.YtgdcimpndddepaaGreatAbs12
namespace Go.Abs
noncomputable section

inductive Cls where | rd | al | wr | bad
  deriving DecidableEq
/-- What an operation does to the heap: nothing; it makes an entry (out of the frame alone); something else. -/
def clsOf (o : Oper) : Cls :=
  match o.op with
  | .move x | .assign x => match x with
    | .const (.slice none 0 0) => .al
    | _ => .rd
  | .alloc _ | .box .. | .buildSlice .. | .makeSlice .. | .makeMap .. => .al
  | .store .. | .mapUpdate .. | .insert .. => .wr
  | .pick .. | .build .. | .load .. | .nilCheck _ | .binOp .. | .unOp .. | .convert .. | .makeInterface .. | .makeFunc .. | .slice .. | .fieldAddr .. | .field .. | .indexAddr .. | .index .. | .lookup .. | .extract .. => .rd
  | .call c => match c.callee with
    | .builtin b => match b with
      | .len | .min | .max => .rd
      | .append | .copy | .clear => .wr
      | _ => .bad
    | .value _ => .wr
    | .invoke .. => .bad
  | _ => .bad

/-- Does the guard let the operation run? -/
def wantedA (ops : Array Oper) (o : Oper) (F : Frm) : Option Bool :=
  match o.guard with
  | none => some true
  | some (j, want) => match (ops[j]?).bind (·.dst) with
    | none => some false
    | some t => match F.get t with
      | .bool b => some (b == want)
      | .tup [] => some false
      | _ => none

abbrev CallO := FuncId → List AV → Heap → Option (AV × Heap)
inductive Out where
  | normal (F : Frm) (h : Heap)
  | exit (id : Nat) (F : Frm) (h : Heap)
  | ret (F : Frm) (h : Heap)
abbrev LoopO := Code → Frm → Heap → Option Out

def depth : Nat := 12
def callN (E : Env) (call : CallO) (f : FuncId) (args : List AV) (h : Heap) : Option (AV × Heap) :=
  match E.nat f with
  | some g => g args h
  | none => match E.cm f with
    | .full => call f args h
    | .pure => bif args.all (closed? depth) then (call f args []).bind fun r => (snap .any depth r.2 r.1).map fun v => (v, h) else
      (args.mapM (snap .any depth h)).bind fun as => (call f as []).bind fun r => (snap .own depth r.2 r.1).map fun v => (v, h)
    | .frz => (args.foldlM (fun h v => freeze depth v h) h).bind fun h' => (args.mapM (snap .frz depth h')).bind fun as => (call f as []).bind fun r => (snap .any depth r.2 r.1).map fun v => (v, h')

/-- The value of an operation (a call too), whether it runs or is passed by. -/
def act (E : Env) (call : CallO) (ops : Array Oper) (o : Oper) (F : Frm) (h : Heap) (p : Nat) (ins : Heap → Ent → Heap) : Option (AV × Heap) :=
  match wantedA ops o F with
  | none => none
  | some false => some (.tup [], h)
  | some true => match o.op with
    | .call { callee := .value fo, args, .. } => match F.eval fo with
      | .func f cap => callN E call f (args.toList.map F.eval ++ cap) h
      | _ => none
    | _ => opA E o F h p ins
def snoc (h : Heap) (e : Ent) : Heap := h ++ [e]
def step (E : Env) (call : CallO) (ops : Array Oper) (o : Oper) (F : Frm) (h : Heap) (p : Nat) (ins : Heap → Ent → Heap) : Option (Frm × Heap) :=
  (act E call ops o F h p ins).bind fun r => (F.put o.dst r.1).map fun F => (F, r.2)
def pushDefer (E : Env) (F : Frm) (dst : Option Tmp) : AV → Option Frm
  | .func f _ => bif E.nop f then Frm.put { F with defers := f :: F.defers } dst (.tup []) else none
  | _ => none
def stepS (E : Env) (call : CallO) (ops : Array Oper) (o : Oper) (F : Frm) (h : Heap) : Option (Frm × Heap) :=
  match o.op with
  | .defer { callee := .value fo, .. } => match wantedA ops o F with
    | some true => (pushDefer E F o.dst (F.eval fo)).map fun F => (F, h)
    | some false => (F.put o.dst (.tup [])).map fun F => (F, h)
    | none => none
  | _ => step E call ops o F h h.length snoc
/-- The operations in their order. -/
def runS (E : Env) (call : CallO) (ops : Array Oper) : List Oper → Frm → Heap → Option (Frm × Heap)
  | [], F, h => some (F, h)
  | o :: r, F, h => match stepS E call ops o F h with
    | some (F, h) => runS E call ops r F h
    | none => none

/-! ### Drawn orders -/
/-- An operation's place in the order: its number, the place of what it makes, the operations that are listed before it in every order. -/
structure DOp where
  i : Nat
  rk : Nat
  D : Nat
/-- A read that was done: later writers must not change it. -/
structure Pend where
  i : Nat
  o : Oper
  F : Frm
  v : AV
def eqvL (eqv : AV → AV → Bool) : List AV → List AV → Bool
  | [], [] => true
  | a :: r, b :: s => bif eqv a b then eqvL eqv r s else false
  | _, _ => false
def eqv : Nat → AV → AV → Bool
  | 0, _, _ => false
  | d + 1, x, y => match x, y with
    | .bool a, .bool b => a == b
    | .int k a, .int k' b => bif k == k' then a == b else false
    | .str a, .str b => a.data == b.data
    | .unk, .unk => true
    | .nilptr, .nilptr => true
    | .ptr b g i o, .ptr b' g' i' o' => b == b' && g == g' && i == i' && o == o'
    | .iptr e o, .iptr e' o' => eqv d e e' && o == o'
    | .nil, .nil => true
    | .emp, .emp => true
    | .lst a, .lst b => eqvL (eqv d) a b
    | .ref b g s n, .ref b' g' s' n' => b == b' && g == g' && s == s' && n == n'
    | .agg a, .agg b => eqvL (eqv d) a b
    | .tup a, .tup b => eqvL (eqv d) a b
    | .func f a, .func f' b => f == f' && eqvL (eqv d) a b
    | .nilfunc, .nilfunc => true
    | .map b, .map b' => b == b'
    | .nilmap, .nilmap => true
    | .iface t v, .iface t' v' => t == t' && eqv d v v'
    | .niliface, .niliface => true
    | _, _ => false
/-- A read that does not look at the heap. -/
def still (o : Oper) : Bool :=
  match o.op with
  | .move _ | .assign _ => true
  | _ => false
def Pend.holds (E : Env) (e : Pend) (h : Heap) : Bool := still e.o || (match opA E e.o e.F h 0 snoc with
  | some (v, _) => eqv depth v e.v
  | none => false)
/-- A call that leaves the heap as it is. -/
def quiet (E : Env) (o : Oper) : Bool :=
  match o.op with
  | .call { callee := .value (.func f), .. } => (match E.nat f with | none => true | some _ => false) && (match E.cm f with | .pure => true | _ => false)
  | _ => false
def held (E : Env) (o : Oper) (e : Pend) (h : Heap) : Bool := quiet E o || e.holds E h
def isGone : Option Ent → Bool
  | some .gone => true
  | _ => false
def extP (E : Env) (ops : Array Oper) (d : DOp) (o : Oper) (F : Frm) (v : AV) (pd : List Pend) : List Pend :=
  match clsOf o, wantedA ops o F with
  | .rd, some true => ⟨d.i, o, F, v⟩ :: pd
  | _, _ => pd
def runD (E : Env) (call : CallO) (ops : Array Oper) (L : Nat) : List DOp → List Pend → Frm → Heap → Option (Frm × Heap)
  | [], _, F, h => some (F, h)
  | d :: r, pd, F, h => match ops[d.i]? with
    | none => none
    | some o => match clsOf o with
      | .rd => match act E call ops o F h 0 snoc with
        | none => none
        | some (v, _) => match F.put o.dst v with
          | none => none
          | some F' => runD E call ops L r (extP E ops d o F v pd) F' h
      | .al => bif isGone h[L + d.rk]? then match act E call ops o F h (L + d.rk) (fun h e => h.set (L + d.rk) e) with
        | none => none
        | some (v, h') => match F.put o.dst v with
          | none => none
          | some F' => runD E call ops L r pd F' h'
        else none
      | .wr => match act E call ops o F h h.length snoc with
        | none => none
        | some (v, h') => bif pd.all (fun e => d.D.testBit e.i || held E o e h') then match F.put o.dst v with
            | none => none
            | some F' => runD E call ops L r pd F' h'
          else none
      | .bad => none
/-- The edges that bind in every order, as a mask. -/
def edges (o : Oper) : Nat := o.after.foldl (fun m e => if Region.binds .any e then m ||| (1 <<< e.on) else m) 0
def looks (ops : Array Oper) (o : Oper) : Nat := (o.looksAt ops).foldl (fun m t => m ||| (1 <<< t)) 0
def dstM (o : Oper) : Nat := match o.dst with | some d => 1 <<< d | none => 0
def swapOK (ops : Array Oper) (x y : Oper) : Bool :=
  Oper.apart ops x y && match clsOf x, clsOf y with
    | .rd, .rd => true
    | .rd, .al => true
    | .al, .al => true
    | .rd, .wr => true
    | .wr, .al => true
    | _, _ => false
def pairOK (ops : Array Oper) (d e : DOp) : Bool :=
  match ops[d.i]?, ops[e.i]? with
  | some x, some y => (e.D.testBit d.i || swapOK ops x y) && (match clsOf x, clsOf y with
    | .al, .al => d.rk != e.rk
    | _, _ => true)
  | _, _ => false
def lookD (l : List DOp) (i : Nat) : Nat :=
  match l with
  | [] => 0
  | d :: r => bif Nat.beq d.i i then d.D else lookD r i
def closeD (l : List DOp) (o : Oper) : Nat := o.after.foldl (fun m e => if Region.binds .any e then m ||| (1 <<< e.on) ||| lookD l e.on else m) 0
def pads (ops : List Oper) : Heap :=
  match ops with
  | [] => []
  | o :: r => match clsOf o with
    | .al => Ent.gone :: pads r
    | _ => pads r
def okD1 (ops : Array Oper) (all : List DOp) : List DOp → Nat → Bool
  | [], m => Nat.beq m (2 ^ ops.size - 1)
  | d :: r, m => match ops[d.i]? with
    | none => false
    | some o => !m.testBit d.i && (match clsOf o with | .al => Nat.blt d.rk (pads ops.toList).length | _ => true) && Nat.beq (edges o &&& m) (edges o) && Nat.beq (d.D ||| closeD all o) (closeD all o) && r.all (pairOK ops d) && okD1 ops all r (m ||| (1 <<< d.i))
/-- The order is one: each operation once, behind what binds it; two of which neither binds the other may change places. -/
def okD (ops : Array Oper) (l : List DOp) : Bool := okD1 ops l l 0 && Nat.beq l.length ops.size

/-- An order: reads first, then writers, then what makes entries. -/
def readyAt (ops : List (Nat × Nat × Nat × Cls)) (c : Cls) (done : Nat) : Option (Nat × Nat × Nat × Cls) :=
  match ops with
  | [] => none
  | (i, e, s) :: r => if s.2 = c ∧ done.testBit i = false ∧ Nat.beq (e &&& done) e then some (i, e, s) else readyAt r c done
def greedy (ops : Array Oper) (l : List (Nat × Nat × Nat × Cls)) : Nat → Nat → Nat → List DOp → List DOp
  | 0, _, _, acc => acc.reverse
  | n + 1, done, rk, acc =>
    match (readyAt l .rd done).or ((readyAt l .wr done).or (readyAt l .al done)) with
    | none => acc.reverse
    | some (i, _, _, c) => greedy ops l n (done ||| (1 <<< i)) (match c with | .al => rk + 1 | _ => rk) (⟨i, rk, match ops[i]? with | some o => closeD acc o | none => 0⟩ :: acc)
def numbered (ops : List Oper) (i : Nat) : List (Nat × Nat × Nat × Cls) :=
  match ops with
  | [] => []
  | o :: r => (i, edges o, 0, clsOf o) :: numbered r (i + 1)
def orderOf (ops : Array Oper) : List DOp := greedy ops (numbered ops.toList 0) ops.size 0 0 []
def regionD (E : Env) (call : CallO) (ops : Array Oper) (F : Frm) (h : Heap) : Option (Frm × Heap) :=
  let l := orderOf ops
  bif okD ops l then runD E call ops h.length l [] F (h ++ pads ops.toList) else none

/-! ### Code, calls -/
def exec (E : Env) (call : CallO) (loop : LoopO) : Code → Frm → Heap → Option Out
  | .skip, F, h => some (.normal F h)
  | .region _ ops false, F, h => match runS E call ops ops.toList F h with
    | some (F, h) => some (.normal F h)
    | none => none
  | .region _ ops true, F, h => match regionD E call ops F h with
    | some (F, h) => some (.normal F h)
    | none => none
  | .seq a b, F, h => match exec E call loop a F h with
    | some (.normal F h) => exec E call loop b F h
    | r => r
  | .cond c t e, F, h => match F.eval c with
    | .bool true => exec E call loop t F h
    | .bool false => exec E call loop e F h
    | _ => none
  | .block id c, F, h => match exec E call loop c F h with
    | some (.exit id' F h) => bif Nat.beq id' id then some (.normal F h) else some (.exit id' F h)
    | r => r
  | .loop c, F, h => loop c F h
  | .exit id, F, h => some (.exit id F h)
  | .ret, F, h => some (.ret F h)
  | _, _, _ => none

def resA (E : Env) (F : Frm) (h : Heap) : ResultVar → Option AV
  | .tmp t => some (F.get t)
  | .cell a t => (E.ti t).bind fun i => loadP h i.k.isAgg i.size (F.get a)
def resultsA (E : Env) (rs : List ResultVar) (F : Frm) (h : Heap) : Option AV :=
  (rs.mapM (resA E F h)).map fun vs => match vs with
    | [v] => v
    | vs => .tup vs
def number (i : Nat) : List AV → List (Nat × AV)
  | [] => []
  | v :: r => (i, v) :: number (i + 1) r
def entry (fn : Func) (args : List AV) : Frm := { n := args.length + (fn.ntmps - args.length), dflt := .tup [], slots := number 0 args, defers := [] }
def leave (E : Env) (fn : Func) : Option Out → Option (AV × Heap)
  | some (.normal F h) => (resultsA E fn.results.toList F h).map fun v => (v, h)
  | some (.ret F h) => (resultsA E fn.results.toList F h).map fun v => (v, h)
  | _ => none
def body (E : Env) (call : CallO) (loop : LoopO) (f : FuncId) (args : List AV) (h : Heap) : Option (AV × Heap) :=
  match E.fn f with
  | none => none
  | some fn => match fn.body with
    | none => none
    | some c => leave E fn (exec E call loop c (entry fn args) h)
def round (E : Env) (call : CallO) (loop : LoopO) (c : Code) (F : Frm) (h : Heap) : Option Out :=
  match exec E call loop c F h with
  | some (.normal F h) => loop c F h
  | r => r
/-- Calls and loops, so many deep. -/
def ev (E : Env) (n : Nat) : CallO × LoopO :=
  Nat.rec (motive := fun _ => CallO × LoopO) (fun _ _ _ => none, fun _ _ _ => none) (fun _ ih => (body E ih.1 ih.2, round E ih.1 ih.2)) n
end
end Go.Abs
