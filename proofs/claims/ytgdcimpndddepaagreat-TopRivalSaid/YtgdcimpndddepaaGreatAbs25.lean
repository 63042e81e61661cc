/- Rules by which 'simp' runs the evaluator over code that is written out. -/
import Derived.Test.YtgdcimpndddepaaGreatAbs24
namespace Go.Abs
noncomputable section
variable {P : Program} {E : Env} {ops : Array Oper}

theorem getS_cons (s : Nat) (v : AV) (r : List (Nat × AV)) (d : AV) (t : Nat) : getS ((s, v) :: r) d t = if s = t then v else getS r d t := by
  simp only [getS_nil', getS_cons']
  by_cases h : s = t
  · subst h; simp
  · simp [beq_ne h, h]
theorem putS_cons (s : Nat) (u : AV) (r : List (Nat × AV)) (t : Nat) (v : AV) : putS ((s, u) :: r) t v = if t < s then (t, v) :: (s, u) :: r else if t = s then (t, v) :: r else (s, u) :: putS r t v := by
  simp only [putS_nil', putS_cons']
  by_cases h : t < s
  · have : Nat.blt t s = true := by simpa [Nat.blt_eq] using h
    simp [this, h]
  · have : Nat.blt t s = false := by rw [Bool.eq_false_iff]; simpa [Nat.blt_eq] using h
    simp only [this, cond_false, if_neg h]
    by_cases h2 : t = s
    · subst h2; simp
    · simp [beq_ne h2, h2]
theorem put_some (n : Nat) (dflt : AV) (sl : List (Nat × AV)) (ds : List Nat) (d : Tmp) (v : AV) : Frm.put ⟨n, dflt, sl, ds⟩ (some d) v = if d < n then some ⟨n, dflt, putS sl d v, ds⟩ else none := by
  simp only [Frm.put_none', Frm.put_some']
  by_cases h : d < n
  · have : Nat.blt d n = true := by simpa [Nat.blt_eq] using h
    simp [this, h]
  · have : Nat.blt d n = false := by rw [Bool.eq_false_iff]; simpa [Nat.blt_eq] using h
    simp [this, h]
theorem put_none (F : Frm) (v : AV) : F.put none v = some F := rfl
theorem get_mk (n : Nat) (dflt : AV) (sl : List (Nat × AV)) (ds : List Nat) (t : Nat) : Frm.get ⟨n, dflt, sl, ds⟩ t = getS sl dflt t := rfl
theorem eval_tmp (F : Frm) (t : Tmp) : F.eval (.tmp t) = F.get t := rfl
theorem eval_const (F : Frm) (v : Value) : F.eval (.const v) = ofConst v := rfl
theorem eval_func (F : Frm) (f : FuncId) : F.eval (.func f) = .func f [] := rfl
theorem block_exit (i id : Nat) (F : Frm) (h : Heap) : (bif Nat.beq i id then some (Out.normal F h) else some (Out.exit i F h)) = if i = id then some (Out.normal F h) else some (Out.exit i F h) := by
  by_cases hi : i = id
  · subst hi; simp
  · simp [beq_ne hi, hi]
theorem getS_cons_same (s : Nat) (v : AV) (r : List (Nat × AV)) (d : AV) : getS ((s, v) :: r) d s = v := by rw [getS_cons, if_pos rfl]
theorem getS_cons_ne (s : Nat) (v : AV) (r : List (Nat × AV)) (d : AV) (t : Nat) (h : ¬ s = t) : getS ((s, v) :: r) d t = getS r d t := by rw [getS_cons, if_neg h]
attribute [simp] getS_cons_same getS_cons_ne put_some put_none get_mk eval_tmp eval_const eval_func block_exit
theorem getS_nil (d : AV) (t : Nat) : getS [] d t = d := rfl
theorem putS_nil (t : Nat) (v : AV) : putS [] t v = [(t, v)] := rfl
theorem getS_put_same (s : Nat) (v : AV) (r : List (Nat × AV)) (d : AV) : getS (putS r s v) d s = v := by rw [getS_putS, if_pos rfl]
theorem getS_put_ne (s : Nat) (v : AV) (r : List (Nat × AV)) (d : AV) (t : Nat) (h : ¬ t = s) : getS (putS r s v) d t = getS r d t := by rw [getS_putS, if_neg h]
attribute [simp] getS_nil ofConst ofConst1 exec runS stepS step act wantedA opA number leave resultsA resA body

/-! ### What a piece comes to, said by what holds of it -/
inductive Gives {α : Type} (x : Option α) (Q : α → Prop) : Prop
  | mk (r : α) (h : x = some r) (q : Q r) : Gives x Q
theorem gives_iff {α : Type} {x : Option α} {Q : α → Prop} : Gives x Q ↔ ∃ r, x = some r ∧ Q r := ⟨fun ⟨r, h, q⟩ => ⟨r, h, q⟩, fun ⟨r, h, q⟩ => ⟨r, h, q⟩⟩
theorem gives_some {α : Type} (r : α) (Q : α → Prop) : Gives (some r) Q = Q r := by
  rw [gives_iff]
  exact propext ⟨fun ⟨_, h, q⟩ => (by cases h; exact q), fun h => ⟨r, rfl, h⟩⟩
theorem gives_none {α : Type} (Q : α → Prop) : Gives none Q = False := by
  rw [gives_iff]
  exact propext ⟨fun ⟨_, h, _⟩ => (by cases h), fun h => False.elim h⟩
theorem gives_imp {α : Type} {x : Option α} {Q Q' : α → Prop} (h : Gives x Q) (k : ∀ r, Q r → Q' r) : Gives x Q' := by
  obtain ⟨r, h, q⟩ := h
  exact ⟨r, h, k r q⟩
theorem gives_loop {x : Code} {F : Frm} {h : Heap} {Q : Out → Prop} (hr : Gives (round E (callL E) (loopL E) x F h) Q) : Gives (loopL E x F h) Q := by
  obtain ⟨r, h1, h2⟩ := gives_iff.1 hr
  exact gives_iff.2 ⟨r, loopL_round h1, h2⟩
theorem gives_call {f : FuncId} {args : List AV} {h : Heap} {Q : AV × Heap → Prop} (hr : Gives (body E (callL E) (loopL E) f args h) Q) : Gives (callL E f args h) Q := by
  obtain ⟨r, h1, h2⟩ := gives_iff.1 hr
  exact gives_iff.2 ⟨r, callL_body h1, h2⟩
theorem gives_cut {α β : Type} {x L : Option α} {K : Option α → Option β} {Q : β → Prop} (hx : x = L) (hg : Gives x fun r => Gives (K (some r)) Q) : Gives (K L) Q := by
  subst hx
  obtain ⟨r, h1, h2⟩ := gives_iff.1 hg
  rw [h1]; exact h2
attribute [simp] gives_some gives_none
theorem wrap64 {x : Int} (h1 : -9223372036854775808 ≤ x) (h2 : x ≤ 9223372036854775807) : IntKind.i64.wrap x = x := by
  simp [IntKind.wrap, IntKind.bits, IntKind.signed]; omega
theorem beqInt (x y : Int) : (x == y) = decide (x = y) := by
  by_cases h : x = y <;> simp [h]
theorem bneInt (x y : Int) : (x != y) = decide (x ≠ y) := by
  by_cases h : x = y <;> simp [h]
section
variable (t : TypeId) (k : IntKind) (x y : Int)
theorem bin_add : binA E .add t (.int k x) (.int k y) = some (.int k (k.wrap (x + y))) := by simp [binA, intA]
theorem bin_sub : binA E .sub t (.int k x) (.int k y) = some (.int k (k.wrap (x - y))) := by simp [binA, intA]
theorem bin_mul : binA E .mul t (.int k x) (.int k y) = some (.int k (k.wrap (x * y))) := by simp [binA, intA]
theorem bin_quo : binA E .quo t (.int k x) (.int k y) = if y = 0 then none else some (.int k (k.wrap (x.tdiv y))) := by simp [binA, intA]
theorem bin_rem : binA E .rem t (.int k x) (.int k y) = if y = 0 then none else some (.int k (x.tmod y)) := by simp [binA, intA]
theorem bin_eql : binA E .eql t (.int k x) (.int k y) = some (.bool (decide (x = y))) := by simp [binA, intA, beqInt]
theorem bin_neq : binA E .neq t (.int k x) (.int k y) = some (.bool (decide (x ≠ y))) := by simp only [binA, intA, bneInt, if_true]
theorem bin_lss : binA E .lss t (.int k x) (.int k y) = some (.bool (decide (x < y))) := by simp [binA, intA]
theorem bin_leq : binA E .leq t (.int k x) (.int k y) = some (.bool (decide (x ≤ y))) := by simp [binA, intA]
theorem bin_gtr : binA E .gtr t (.int k x) (.int k y) = some (.bool (decide (y < x))) := by simp [binA, intA]
theorem bin_geq : binA E .geq t (.int k x) (.int k y) = some (.bool (decide (y ≤ x))) := by simp [binA, intA]
theorem bin_and : binA E .and t (.int k x) (.int k y) = some (.int k (k.wrap ((BitVec.ofInt k.bits x &&& BitVec.ofInt k.bits y).toNat : Nat))) := by simp only [binA, intA, if_true]
theorem bin_or : binA E .or t (.int k x) (.int k y) = some (.int k (k.wrap ((BitVec.ofInt k.bits x ||| BitVec.ofInt k.bits y).toNat : Nat))) := by simp only [binA, intA, if_true]
theorem bin_xor : binA E .xor t (.int k x) (.int k y) = some (.int k (k.wrap ((BitVec.ofInt k.bits x ^^^ BitVec.ofInt k.bits y).toNat : Nat))) := by simp only [binA, intA, if_true]
theorem bin_shl (k' : IntKind) : binA E .shl t (.int k x) (.int k' y) = if y < 0 then none else some (.int k (k.wrap (x * 2 ^ (min y.toNat k.bits)))) := by simp only [binA]
theorem bin_shr (k' : IntKind) : binA E .shr t (.int k x) (.int k' y) = if y < 0 then none else some (.int k (x.fdiv (2 ^ (min y.toNat k.bits)))) := by simp only [binA]
end
attribute [simp] bin_add bin_sub bin_mul bin_quo bin_rem bin_eql bin_neq bin_lss bin_leq bin_gtr bin_geq bin_and bin_or bin_xor bin_shl bin_shr getS_put_same getS_put_ne round
/-- The loops of a piece of code, from the outside in, in their order. -/
def loops : Code → List Code
  | .seq a b => loops a ++ loops b
  | .cond _ a b => loops a ++ loops b
  | .block _ c => loops c
  | .loop c => c :: loops c
  | _ => []
/-- The i-th of a list. -/
def nth {α : Type} (d : α) : List α → Nat → α
  | [], _ => d
  | a :: _, 0 => a
  | _ :: l, i + 1 => nth d l i
theorem nth_zero {α : Type} (d a : α) (l : List α) : nth d (a :: l) 0 = a := rfl
theorem nth_succ {α : Type} (d a : α) (l : List α) (i : Nat) : nth d (a :: l) (i + 1) = nth d l i := rfl
theorem get_cons0 {α : Type} (a : α) (l : List α) : (a :: l)[0]? = some a := rfl
theorem get_consS {α : Type} (a : α) (l : List α) (i : Nat) : (a :: l)[i + 1]? = l[i]? := rfl
attribute [simp] nth_zero nth_succ get_cons0 get_consS
def lp (f : Func) (i : Nat) : Code := match f.body with
  | some c => nth .skip (loops c) i
  | none => .skip
end
end Go.Abs
