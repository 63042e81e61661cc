/- Two operations of which neither binds the other may change places. -/
import Derived.Test.YtgdcimpndddepaaGreatAbs15
namespace Go.Abs
noncomputable section
variable {E : Env} {call : CallO} {ops : Array Oper}

/-! ### Frames -/
theorem putS_comm : ∀ (l : List (Nat × AV)) {t u : Nat} (v x : AV), t ≠ u → putS (putS l t v) u x = putS (putS l u x) t v
  | [], t, u, v, x, hne => by
    rcases Nat.lt_or_gt_of_ne hne with h | h
    · have e1 : Nat.blt u t = false := by rw [Bool.eq_false_iff]; simp [Nat.blt_eq]; omega
      have e2 : Nat.blt t u = true := by simpa [Nat.blt_eq] using h
      have e3 : Nat.beq u t = false := beq_ne (Ne.symm hne)
      simp [putS_nil', putS_cons', e1, e2, e3]
    · have e1 : Nat.blt t u = false := by rw [Bool.eq_false_iff]; simp [Nat.blt_eq]; omega
      have e2 : Nat.blt u t = true := by simpa [Nat.blt_eq] using h
      have e3 : Nat.beq t u = false := beq_ne hne
      simp [putS_nil', putS_cons', e1, e2, e3]
  | (s, y) :: r, t, u, v, x, hne => by
    have ih := putS_comm r v x hne
    have blt_t : ∀ {a b : Nat}, a < b → Nat.blt a b = true := fun h => by simpa [Nat.blt_eq] using h
    have blt_f : ∀ {a b : Nat}, b ≤ a → Nat.blt a b = false := fun h => by rw [Bool.eq_false_iff]; simp [Nat.blt_eq]; omega
    have hne' := Ne.symm hne
    rcases Nat.lt_trichotomy t s with h1 | h1 | h1 <;> rcases Nat.lt_trichotomy u s with h2 | h2 | h2
    · rcases Nat.lt_or_gt_of_ne hne with h | h
      · simp [putS_nil', putS_cons', blt_t h1, blt_t h2, blt_t h, blt_f (Nat.le_of_lt h), beq_ne hne']
      · simp [putS_nil', putS_cons', blt_t h1, blt_t h2, blt_t h, blt_f (Nat.le_of_lt h), beq_ne hne]
    · subst h2
      simp [putS_nil', putS_cons', blt_t h1, blt_f (Nat.le_of_lt h1), blt_f (Nat.le_refl u), beq_ne hne']
    · simp [putS_nil', putS_cons', blt_t h1, blt_f (Nat.le_of_lt h2), blt_f (Nat.le_of_lt (Nat.lt_trans h1 h2)), beq_ne hne', beq_ne (Nat.ne_of_gt h2)]
    · subst h1
      simp [putS_nil', putS_cons', blt_t h2, blt_f (Nat.le_of_lt h2), blt_f (Nat.le_refl t), beq_ne hne]
    · omega
    · subst h1
      simp [putS_nil', putS_cons', blt_f (Nat.le_of_lt h2), blt_f (Nat.le_refl t), beq_ne (Nat.ne_of_gt h2)]
    · simp [putS_nil', putS_cons', blt_t h2, blt_f (Nat.le_of_lt h1), blt_f (Nat.le_of_lt (Nat.lt_trans h2 h1)), beq_ne hne, beq_ne (Nat.ne_of_gt h1)]
    · subst h2
      simp [putS_nil', putS_cons', blt_f (Nat.le_of_lt h1), blt_f (Nat.le_refl u), beq_ne (Nat.ne_of_gt h1)]
    · simp [putS_nil', putS_cons', blt_f (Nat.le_of_lt h1), blt_f (Nat.le_of_lt h2), beq_ne (Nat.ne_of_gt h1), beq_ne (Nat.ne_of_gt h2), ih]
theorem put_comm {F F1 F2 : Frm} {x y : Option Tmp} {v u : AV} (hne : ∀ d, x = some d → y ≠ some d) (h1 : F.put x v = some F1) (h2 : F1.put y u = some F2) : ∃ F1', F.put y u = some F1' ∧ F1'.put x v = some F2 := by
  cases x with
  | none => simp only [Frm.put_none', Frm.put_some', Option.some.injEq] at h1; subst h1; exact ⟨F2, h2, rfl⟩
  | some d =>
    cases y with
    | none => simp only [Frm.put_none', Frm.put_some', Option.some.injEq] at h2; subst h2; exact ⟨F, rfl, h1⟩
    | some e =>
      have hde : d ≠ e := fun h => hne d rfl (h ▸ rfl)
      simp only [Frm.put_none', Frm.put_some'] at h1 h2 ⊢
      cases hb : Nat.blt d F.n <;> simp only [hb, cond_true, cond_false] at h1
      · cases h1
      · simp only [Option.some.injEq] at h1; subst h1
        cases hb2 : Nat.blt e F.n <;> simp only [hb2, cond_true, cond_false] at h2
        · cases h2
        · simp only [Option.some.injEq] at h2; subst h2
          refine ⟨_, rfl, ?_⟩
          simp only [hb, cond_true, Option.some.injEq, Frm.mk.injEq, and_true, true_and]
          exact putS_comm _ _ _ (Ne.symm hde)
theorem put_get {F F' : Frm} {dst : Option Tmp} {v : AV} (hp : F.put dst v = some F') (t : Tmp) (ht : dst ≠ some t) : F'.get t = F.get t := by
  cases dst with
  | none => simp only [Frm.put_none', Frm.put_some', Option.some.injEq] at hp; subst hp; rfl
  | some d =>
    simp only [Frm.put_none', Frm.put_some'] at hp
    cases hb : Nat.blt d F.n <;> simp only [hb, cond_true, cond_false] at hp
    · cases hp
    · simp only [Option.some.injEq] at hp; subst hp
      simp only [Frm.get, getS_putS]
      rw [if_neg fun h => ht (by rw [h])]
theorem put_eval {F F' : Frm} {dst : Option Tmp} {v : AV} (hp : F.put dst v = some F') {x : Operand} (hx : ∀ d, dst = some d → x ≠ .tmp d) : F'.eval x = F.eval x := by
  cases x with
  | tmp t => exact put_get hp t fun h => hx t h rfl
  | _ => rfl

/-! ### What an operation looks at -/
theorem opA_congr {o : Oper} {F F' : Frm} {h : Heap} {p : Nat} {ins : Heap → Ent → Heap} (hx : ∀ x ∈ o.op.operands, F'.eval x = F.eval x) : opA E o F' h p ins = opA E o F h p ins := by
  obtain ⟨dst, op, ty, pos, after, guard⟩ := o
  have pairs : ∀ ps : Array (Nat × Operand), (∀ x ∈ (ps.toList.map (·.2)).toArray, F'.eval x = F.eval x) → sub F' ps = sub F ps := fun ps hp => by
    unfold sub
    apply List.map_congr_left
    intro a ha
    obtain ⟨i, x⟩ := a
    simp only [hp x (by simp only [List.mem_toArray, List.mem_map]; exact ⟨(i, x), ha, rfl⟩)]
  have lists : ∀ xs : Array Operand, (∀ x ∈ xs, F'.eval x = F.eval x) → xs.toList.map F'.eval = xs.toList.map F.eval := fun xs hp => List.map_congr_left fun x hx => hp x (by simpa using hx)
  cases op <;> simp only [Op.operands] at hx <;> simp only [opA]
  case move x => have := hx x (by simp); split <;> simp_all
  case assign x => have := hx x (by simp); split <;> simp_all
  case pick c x y => rw [hx c (by simp), hx x (by simp), hx y (by simp)]
  case box t x => rw [hx x (by simp)]
  case build t ps => rw [pairs ps hx]
  case buildSlice t n ps => rw [pairs ps hx]
  case makeFunc fn first cap => rw [lists cap fun x hm => hx x (by simp [hm])]
  case makeMap t r => cases r <;> simp_all
  case slice t x lo hi mx => cases lo <;> cases hi <;> cases mx <;> simp_all
  case call c =>
    obtain ⟨callee, args, argTypes⟩ := c
    cases callee <;> simp only
    rw [lists args fun x hm => hx x (by simp [Call.operands, hm])]
  all_goals (first | rfl | (simp_all; done))
theorem wantedA_put {o : Oper} {F F' : Frm} {dst : Option Tmp} {v : AV} (hp : F.put dst v = some F') (h : ∀ d, dst = some d → d ∉ o.looksAt ops) : wantedA ops o F' = wantedA ops o F := by
  unfold wantedA
  cases hg : o.guard with
  | none => rfl
  | some gw =>
    obtain ⟨j, want⟩ := gw
    simp only
    cases ht : (ops[j]?).bind (·.dst) with
    | none => rfl
    | some t =>
      have : F'.get t = F.get t := put_get hp t fun hd => h t hd (by simp [Oper.looksAt, hg, ht])
      simp only [this]
theorem opA_put {o : Oper} {F F' : Frm} {dst : Option Tmp} {v : AV} (hp : F.put dst v = some F') (h : ∀ d, dst = some d → d ∉ o.looksAt ops) (hh : Heap) (p : Nat) (ins : Heap → Ent → Heap) : opA E o F' hh p ins = opA E o F hh p ins :=
  opA_congr fun x hx => put_eval hp fun d hd hxd => h d hd (by
    subst hxd
    exact List.mem_append_left _ (List.mem_filterMap.2 ⟨.tmp d, by simpa using hx, rfl⟩))
theorem act_put {o : Oper} {F F' : Frm} {dst : Option Tmp} {v : AV} (hp : F.put dst v = some F') (h : ∀ d, dst = some d → d ∉ o.looksAt ops) (hh : Heap) (p : Nat) (ins : Heap → Ent → Heap) : act E call ops o F' hh p ins = act E call ops o F hh p ins := by
  have hev : ∀ x ∈ o.op.operands, F'.eval x = F.eval x := fun x hx => put_eval hp fun d hd hxd => h d hd (by
    subst hxd
    exact List.mem_append_left _ (List.mem_filterMap.2 ⟨.tmp d, by simpa using hx, rfl⟩))
  unfold act
  rw [wantedA_put hp h]
  split
  · rfl
  · rfl
  · split
    · rename_i fo args at' hop
      rw [hop] at hev
      simp only [Op.operands, Call.operands] at hev
      rw [hev fo (by simp)]
      split
      · have : args.toList.map F'.eval = args.toList.map F.eval := List.map_congr_left fun x hx => hev x (by simp at hx; simp [hx])
        rw [this]
      · rfl
    · exact opA_put hp h hh p ins

/-! ### The three kinds -/
theorem not_call {o : Oper} (hc : clsOf o ≠ .wr) {fo : Operand} {args : Array Operand} {ts : Array TypeId} (h : o.op = .call { callee := .value fo, args := args, argTypes := ts }) : False := by
  apply hc; simp [clsOf, h]
theorem act_eq {o : Oper} {F : Frm} {h : Heap} {p : Nat} {ins : Heap → Ent → Heap} (hc : clsOf o ≠ .wr) : act E call ops o F h p ins = match wantedA ops o F with
    | none => none
    | some false => some (.tup [], h)
    | some true => opA E o F h p ins := by
  unfold act
  cases wantedA ops o F with
  | none => rfl
  | some b =>
    cases b with
    | false => rfl
    | true =>
      simp only
      split
      · rename_i hop; exact (not_call hc hop).elim
      · rfl
theorem act_rd {o : Oper} {F : Frm} {h : Heap} {p : Nat} {ins : Heap → Ent → Heap} (hc : clsOf o = .rd) {r : AV × Heap} (hr : act E call ops o F h p ins = some r) : r.2 = h := by
  rw [act_eq (by rw [hc]; simp)] at hr
  split at hr
  · cases hr
  · cases hr; rfl
  · exact (opA_shape (v := r.1) (h' := r.2) hr).2 hc
/-- What makes an entry makes it out of the frame alone. -/
theorem opA_al {o : Oper} (hc : clsOf o = .al) (F : Frm) (p : Nat) : ∃ g : Option (AV × Ent), ∀ h ins, opA E o F h p ins = g.map fun r => (r.1, ins h r.2) := by
  obtain ⟨dst, op, ty, pos, after, guard⟩ := o
  have mv : ∀ x, (match x with | Operand.const (.slice none 0 0) => Cls.al | _ => .rd) = .al → ∃ g : Option (AV × Ent), ∀ (h : Heap) (ins : Heap → Ent → Heap), (match x with
      | Operand.const (.slice none 0 0) => match kd E ty with
        | some (.slice e) => match E.ti e with
          | some ei => if ei.size = 0 then none else some (AV.ref p 0 0 0, ins h (Ent.row false ei.size []))
          | none => none
        | _ => none
      | x => some (F.eval x, h)) = g.map fun r => (r.1, ins h r.2) := by
    intro x hx
    split at hx
    · split
      · split
        · split
          · exact ⟨none, fun _ _ => rfl⟩
          · exact ⟨some (.ref p 0 0 0, .row false _ []), fun _ _ => rfl⟩
        · exact ⟨none, fun _ _ => rfl⟩
      · exact ⟨none, fun _ _ => rfl⟩
    · cases hx
  cases op <;> simp only [clsOf, reduceCtorEq] at hc <;> simp only [opA]
  case move x => exact mv x hc
  case assign x => exact mv x hc
  case alloc t =>
    cases E.ti t with
    | none => exact ⟨none, fun _ _ => rfl⟩
    | some i =>
      simp only [Option.bind_some]
      split
      · exact ⟨none, fun _ _ => rfl⟩
      · exact ⟨some (.ptr p 1 0 0, .row false i.size [i.zero]), fun _ _ => rfl⟩
  case box t x =>
    cases E.ti t with
    | none => exact ⟨none, fun _ _ => rfl⟩
    | some i =>
      simp only [Option.bind_some]
      split
      · exact ⟨none, fun _ _ => rfl⟩
      · exact ⟨some (.ptr p 1 0 0, .row false i.size [F.eval x]), fun _ _ => rfl⟩
  case buildSlice t n ps =>
    split
    · rename_i e hk
      cases E.ti e with
      | none => exact ⟨none, fun _ _ => rfl⟩
      | some ei =>
        simp only [Option.bind_some]
        split
        · exact ⟨none, fun _ _ => rfl⟩
        · refine ⟨(fillS ei.size (List.replicate n ei.zero) (sub F ps)).map fun es => (.ref p n 0 n, .row false ei.size es), fun h ins => ?_⟩
          cases fillS ei.size (List.replicate n ei.zero) (sub F ps) <;> rfl
    · exact ⟨none, fun _ _ => rfl⟩
  case makeMap t r =>
    split
    · exact ⟨some (.map p, .map false []), fun _ _ => rfl⟩
    · exact ⟨some (.map p, .map false []), fun _ _ => rfl⟩
    · exact ⟨none, fun _ _ => rfl⟩
  case makeSlice t n c =>
    split
    · rename_i e k1 n' k2 c' hk hn hc'
      cases E.ti e with
      | none => exact ⟨none, fun _ _ => rfl⟩
      | some ei =>
        simp only [Option.bind_some]
        split
        · exact ⟨none, fun _ _ => rfl⟩
        · exact ⟨some (.ref p n'.toNat 0 n'.toNat, .row false ei.size (List.replicate n'.toNat ei.zero)), fun _ _ => rfl⟩
    · exact ⟨none, fun _ _ => rfl⟩
  case call c =>
    obtain ⟨callee, args, argTypes⟩ := c
    cases callee <;> simp only [reduceCtorEq] at hc
    rename_i b
    cases b <;> simp only [reduceCtorEq] at hc
def insO (ins : Heap → Ent → Heap) (h : Heap) : Option Ent → Heap
  | none => h
  | some x => ins h x
theorem act_al {o : Oper} (hc : clsOf o = .al) (F : Frm) (p : Nat) : ∃ g : Option (AV × Option Ent), ∀ h ins, act E call ops o F h p ins = g.map fun r => (r.1, insO ins h r.2) := by
  obtain ⟨g, hg⟩ := opA_al (E := E) hc F p
  cases hw : wantedA ops o F with
  | none => exact ⟨none, fun h ins => by rw [act_eq (by rw [hc]; simp), hw]; rfl⟩
  | some b =>
    cases b with
    | false => exact ⟨some (.tup [], none), fun h ins => by rw [act_eq (by rw [hc]; simp), hw]; rfl⟩
    | true => exact ⟨g.map fun r => (r.1, some r.2), fun h ins => by rw [act_eq (by rw [hc]; simp), hw]; simp only [hg]; cases g <;> rfl⟩
end
end Go.Abs
