/- Drawn regions whose order is the order of the text: they come to what their operations come to one after another. -/
import Derived.Test.YtgdcimpndddepaaGreatAbs25
namespace Go.Abs
noncomputable section
variable {P : Program} {E : Env} {ops : Array Oper} {call : CallO} {loop : LoopO} {L : Nat}

theorem opA_rd {o : Oper} (hc : clsOf o = .rd) (F : Frm) (h : Heap) (p p' : Nat) (ins ins' : Heap → Ent → Heap) : opA E o F h p ins = opA E o F h p' ins' := by
  obtain ⟨dst, op, ty, pos, after, guard⟩ := o
  unfold opA
  have mv : ∀ x, (match x with | Operand.const (.slice none 0 0) => Cls.al | _ => .rd) = .rd → (match x with
      | Operand.const (.slice none 0 0) => match kd E ty with
        | some (.slice e) => match E.ti e with
          | some ei => if ei.size = 0 then none else some (AV.ref p 0 0 0, ins h (Ent.row false ei.size []))
          | none => none
        | _ => none
      | x => some (F.eval x, h)) = (match x with
      | Operand.const (.slice none 0 0) => match kd E ty with
        | some (.slice e) => match E.ti e with
          | some ei => if ei.size = 0 then none else some (AV.ref p' 0 0 0, ins' h (Ent.row false ei.size []))
          | none => none
        | _ => none
      | x => some (F.eval x, h)) := by
    intro x hx
    split at hx
    · cases hx
    · rfl
  cases op <;> simp only [clsOf, reduceCtorEq] at hc ⊢
  case move x => exact mv x hc
  case assign x => exact mv x hc
  case call c =>
    obtain ⟨callee, args, ts⟩ := c
    cases callee <;> simp only [reduceCtorEq] at hc ⊢
    case builtin b =>
      cases b <;> simp only [reduceCtorEq] at hc ⊢ <;> (unfold builtinA; split <;> first | rfl | contradiction)
theorem act_rdp {o : Oper} (hc : clsOf o = .rd) (F : Frm) (h : Heap) (p p' : Nat) (ins ins' : Heap → Ent → Heap) : act E call ops o F h p ins = act E call ops o F h p' ins' := by
  have hw : clsOf o ≠ .wr := by rw [hc]; simp
  rw [act_eq hw, act_eq hw, opA_rd hc F h p p' ins ins']
theorem stepS_step {o : Oper} (hc : clsOf o ≠ .bad) (F : Frm) (h : Heap) : stepS E call ops o F h = step E call ops o F h h.length snoc := by
  unfold stepS
  split
  · rename_i fo _ _ hop
    exact (hc (by simp [clsOf, hop])).elim
  · rfl
def plainGo (E : Env) (ops : Array Oper) : List DOp → Nat → Bool
  | [], _ => true
  | d :: r, m => match ops[d.i]? with
    | none => false
    | some o => match clsOf o with
      | .rd => plainGo E ops r (bif still o then m else m ||| (1 <<< d.i))
      | .wr => (Nat.beq (d.D &&& m) m || quiet E o) && plainGo E ops r m
      | _ => false
def noAl : List Oper → Bool
  | [] => true
  | o :: r => match clsOf o with
    | .al => false
    | _ => noAl r
def permD (E : Env) (ops : Array Oper) : Bool := okD ops (orderOf ops) && plainGo E ops (orderOf ops) 0 && noAl ops.toList
def inOrder : List DOp → Nat → Nat → Bool
  | [], k, n => Nat.beq k n
  | d :: r, k, n => Nat.beq d.i k && inOrder r (k + 1) n
def plainD (E : Env) (ops : Array Oper) : Bool := permD E ops && inOrder (orderOf ops) 0 ops.size
theorem noAl_pads : ∀ l : List Oper, noAl l = true → pads l = []
  | [], _ => rfl
  | o :: r, h => by
    unfold noAl at h
    unfold pads
    cases hc : clsOf o <;> simp only [hc] at h ⊢ <;> first | exact noAl_pads r h | cases h
theorem runD_plain : ∀ (l : List DOp) (m : Nat) (pd : List Pend) (F : Frm) (h : Heap), plainGo E ops l m = true → (∀ e ∈ pd, m.testBit e.i = true ∨ still e.o = true) → runD E call ops L l pd F h = runS E call ops (l.filterMap fun d => ops[d.i]?) F h
  | [], m, pd, F, h, hp, _ => rfl
  | d :: r, m, pd, F, h, hp, hpd => by
    unfold plainGo at hp
    cases ho : ops[d.i]? with
    | none => simp [ho] at hp
    | some o =>
      simp only [ho] at hp
      unfold runD
      simp only [ho, List.filterMap_cons, runS]
      cases hc : clsOf o with
      | al => simp [hc] at hp
      | bad => simp [hc] at hp
      | rd =>
        simp only [hc] at hp
        rw [stepS_step (by rw [hc]; simp)]
        simp only [step]
        rw [act_rdp hc F h h.length 0 snoc snoc]
        cases ha : act E call ops o F h 0 snoc with
        | none => simp
        | some a =>
          obtain ⟨v, h1⟩ := a
          obtain rfl : h1 = h := act_rd hc ha
          cases hF : F.put o.dst v with
          | none => simp [hF]
          | some F' =>
            simp only [Option.bind_some, hF, Option.map_some]
            refine runD_plain r _ _ F' h1 hp fun e he => ?_
            have old : ∀ e ∈ pd, (bif still o then m else m ||| (1 <<< d.i)).testBit e.i = true ∨ still e.o = true := fun e he => by
              refine (hpd e he).imp (fun h => ?_) id
              cases still o
              · simp only [cond_false, Nat.testBit_or, h, Bool.true_or]
              · exact h
            rcases extP_mem (E := E) (ops := ops) (d := d) (o := o) (F := F) (v := v) (pd := pd) with hx | ⟨_, _, hx⟩
            · rw [hx] at he; exact old e he
            · rw [hx] at he
              rcases List.mem_cons.1 he with rfl | he
              · cases hs : still o with
                | true => exact .inr rfl
                | false => left; simp [Nat.one_shiftLeft, Nat.testBit_two_pow_self]
              · exact old e he
      | wr =>
        simp only [hc, Bool.and_eq_true, Bool.or_eq_true] at hp
        rw [stepS_step (by rw [hc]; simp)]
        simp only [step]
        cases ha : act E call ops o F h h.length snoc with
        | none => simp
        | some a =>
          obtain ⟨v, h1⟩ := a
          have hall : pd.all (fun e => d.D.testBit e.i || held E o e h1) = true := List.all_eq_true.2 fun e he => by
            rcases hp.1 with hD | hD
            · have hD : d.D &&& m = m := Nat.eq_of_beq_eq_true hD
              rcases hpd e he with h1 | h1
              · rw [← hD, Nat.testBit_and, Bool.and_eq_true] at h1
                simp [h1.1]
              · simp [held, Pend.holds, h1]
            · simp [held, hD]
          simp only [hall, cond_true]
          cases hF : F.put o.dst v with
          | none => simp [hF]
          | some F' =>
            simp only [Option.bind_some, hF, Option.map_some]
            exact runD_plain r m _ F' h1 hp.2 hpd
theorem regionD_perm0 (hp : permD E ops = true) (F : Frm) (h : Heap) : regionD E call ops F h = runS E call ops ((orderOf ops).filterMap fun d => ops[d.i]?) F h := by
  simp only [permD, Bool.and_eq_true] at hp
  unfold regionD
  simp only [hp.1.1, cond_true]
  rw [noAl_pads _ hp.2, List.append_nil]
  exact runD_plain _ _ [] F h hp.1.2 (fun e he => by cases he)
theorem inOrder_drop : ∀ (l : List DOp) (k : Nat), inOrder l k ops.size = true → l.filterMap (fun d => ops[d.i]?) = ops.toList.drop k
  | [], k, h => by
    have : k = ops.size := Nat.eq_of_beq_eq_true h
    rw [List.drop_eq_nil_of_le (by simp [this])]
    rfl
  | d :: r, k, h => by
    simp only [inOrder, Bool.and_eq_true] at h
    have hk : d.i = k := Nat.eq_of_beq_eq_true h.1
    have ih := inOrder_drop r (k + 1) h.2
    subst hk
    cases ho : ops[d.i]? with
    | none =>
      rw [List.filterMap_cons, ho, ih]
      have : ops.size ≤ d.i := by simpa using ho
      rw [List.drop_eq_nil_of_le (by simp; omega), List.drop_eq_nil_of_le (by simp; omega)]
    | some o =>
      rw [List.filterMap_cons, ho, ih]
      obtain ⟨hk, rfl⟩ := Array.getElem?_eq_some_iff.1 ho
      rw [List.drop_eq_getElem_cons (i := d.i) (by simpa using hk)]
      simp
theorem regionD_plain (hp : plainD E ops = true) (F : Frm) (h : Heap) : regionD E call ops F h = runS E call ops ops.toList F h := by
  simp only [plainD, Bool.and_eq_true] at hp
  rw [regionD_perm0 hp.1, inOrder_drop _ _ hp.2, List.drop_zero]
/-- Operations by their numbers. -/
def pickO (ops : List Oper) : List Nat → List Oper
  | [] => []
  | i :: r => match ops[i]? with
    | some o => o :: pickO ops r
    | none => pickO ops r
theorem pickO_eq (ops : Array Oper) : ∀ l : List Nat, pickO ops.toList l = l.filterMap fun i => ops[i]?
  | [] => rfl
  | i :: r => by
    have : ops.toList[i]? = ops[i]? := by simp
    unfold pickO
    rw [this, List.filterMap_cons, pickO_eq ops r]
    cases ops[i]? <;> rfl
/-- In another order. -/
theorem regionD_perm {l : List Nat} (hp : permD E ops = true) (hl : (orderOf ops).map (·.i) = l) (F : Frm) (h : Heap) : regionD E call ops F h = runS E call ops (pickO ops.toList l) F h := by
  rw [regionD_perm0 hp, ← hl, pickO_eq, List.filterMap_map]
  rfl
attribute [simp] pickO
theorem exec_plain {id : Nat} (hp : plainD E ops = true) (F : Frm) (h : Heap) : exec E call loop (.region id ops true) F h = exec E call loop (.region id ops false) F h := by
  simp only [exec, regionD_plain hp]
theorem regionD_ok {l : List DOp} (hl : orderOf ops = l) (hok : okD ops l = true) (F : Frm) (h : Heap) : regionD E call ops F h = runD E call ops h.length l [] F (h ++ pads ops.toList) := by
  unfold regionD
  simp only [hl, hok, cond_true]
def drs : Code → List (Array Oper)
  | .region _ ops true => [ops]
  | .seq a b => drs a ++ drs b
  | .cond _ a b => drs a ++ drs b
  | .block _ c => drs c
  | .loop c => drs c
  | _ => []
/-- The drawn regions of a function, in their order. -/
def dr (f : Func) (i : Nat) : Array Oper := match f.body with
  | some c => nth #[] (drs c) i
  | none => #[]
end
end Go.Abs
