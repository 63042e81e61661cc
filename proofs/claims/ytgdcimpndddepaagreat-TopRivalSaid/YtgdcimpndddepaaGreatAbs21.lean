/- Code and functions over memory: what the evaluator says is what a call comes to. -/
import Derived.Test.YtgdcimpndddepaaGreatAbs20
namespace Go.Abs
noncomputable section
variable {P : Program} {E : Env} {N : Nat → Prop} {base : Nat} {call : CallO} {loop : LoopO} {ops : Array Oper}

/-! ### The check of an order -/
theorem foldl_or {α : Type} (b : α → Bool) (g : α → Nat) (j : Nat) : ∀ (l : List α) (m : Nat), (l.foldl (fun m e => if b e = true then m ||| g e else m) m).testBit j = true ↔ m.testBit j = true ∨ ∃ e ∈ l, b e = true ∧ (g e).testBit j = true
  | [], m => by simp
  | e :: l, m => by
    rw [List.foldl_cons, foldl_or b g j l]
    cases hb : b e with
    | true =>
      simp only [if_true, Nat.testBit_or, Bool.or_eq_true, List.mem_cons]
      constructor
      · rintro ((h | h) | ⟨x, h1, h2⟩)
        · exact .inl h
        · exact .inr ⟨e, .inl rfl, hb, h⟩
        · exact .inr ⟨x, .inr h1, h2⟩
      · rintro (h | ⟨x, rfl | h1, h2, h3⟩)
        · exact .inl (.inl h)
        · exact .inl (.inr h3)
        · exact .inr ⟨x, h1, h2, h3⟩
    | false =>
      simp only [Bool.false_eq_true, if_false, List.mem_cons]
      constructor
      · rintro (h | ⟨x, h1, h2⟩)
        · exact .inl h
        · exact .inr ⟨x, .inr h1, h2⟩
      · rintro (h | ⟨x, rfl | h1, h2, h3⟩)
        · exact .inl h
        · rw [hb] at h2; cases h2
        · exact .inr ⟨x, h1, h2, h3⟩
theorem bit_one (i j : Nat) : (1 <<< i).testBit j = true ↔ i = j := by
  rw [Nat.one_shiftLeft, Nat.testBit_two_pow]; simp
theorem edges_bit {o : Oper} {j : Nat} : (edges o).testBit j = true ↔ ∃ e ∈ o.after, Region.binds .any e = true ∧ e.on = j := by
  unfold edges
  rw [← Array.foldl_toList, foldl_or (fun e => Region.binds .any e) (fun e => 1 <<< e.on)]
  simp only [Nat.zero_testBit, Bool.false_eq_true, false_or, bit_one, Array.mem_toList_iff]
theorem lookD_bit {i j : Nat} : ∀ {l : List DOp}, (lookD l i).testBit j = true → ∃ x ∈ l, x.i = i ∧ x.D.testBit j = true
  | [], h => by simp [lookD] at h
  | d :: r, h => by
    simp only [lookD] at h
    cases hb : Nat.beq d.i i <;> simp only [hb, cond_true, cond_false] at h
    · obtain ⟨x, h1, h2⟩ := lookD_bit h
      exact ⟨x, List.mem_cons_of_mem _ h1, h2⟩
    · exact ⟨d, List.mem_cons_self, Nat.eq_of_beq_eq_true hb, h⟩
theorem closeD_bit {l : List DOp} {o : Oper} {j : Nat} (h : (closeD l o).testBit j = true) : ∃ e ∈ o.after, Region.binds .any e = true ∧ (j = e.on ∨ ∃ x ∈ l, x.i = e.on ∧ x.D.testBit j = true) := by
  unfold closeD at h
  have e : (fun (m : Nat) (e : Edge) => if Region.binds .any e = true then m ||| (1 <<< e.on) ||| lookD l e.on else m) = fun m e => if Region.binds .any e = true then m ||| ((1 <<< e.on) ||| lookD l e.on) else m := by
    funext m e; rw [Nat.or_assoc]
  rw [e, ← Array.foldl_toList, foldl_or (fun e => Region.binds .any e) (fun e => (1 <<< e.on) ||| lookD l e.on)] at h
  simp only [Nat.zero_testBit, Bool.false_eq_true, false_or, Array.mem_toList_iff, Nat.testBit_or, Bool.or_eq_true, bit_one] at h
  obtain ⟨x, h1, h2, h3⟩ := h
  refine ⟨x, h1, h2, h3.imp (fun h => h.symm) lookD_bit⟩
theorem okD1_spec {all : List DOp} : ∀ {l : List DOp} {m : Nat}, okD1 ops all l m = true → (∀ d ∈ l, d ∈ all) → (∀ j, m.testBit j = true → ∃ x ∈ all, x.i = j) →
    l.Pairwise (fun a b => pairOK ops a b = true) ∧
    l.Pairwise (fun a b => ∀ o, ops[a.i]? = some o → ∀ e ∈ o.after, Region.binds .any e = true → e.on ≠ b.i) ∧
    (∀ a ∈ l, ∀ o, ops[a.i]? = some o → ∀ e ∈ o.after, Region.binds .any e = true → e.on ≠ a.i ∧ ∃ x ∈ all, x.i = e.on) ∧
    (∀ a ∈ l, ∀ o, ops[a.i]? = some o → ∀ j, a.D.testBit j = true → ∃ e ∈ o.after, Region.binds .any e = true ∧ (j = e.on ∨ ∃ x ∈ all, x.i = e.on ∧ x.D.testBit j = true)) ∧
    (∀ i, i < ops.size → m.testBit i = true ∨ ∃ a ∈ l, a.i = i) ∧
    (∀ a ∈ l, ∃ o, ops[a.i]? = some o ∧ (clsOf o = .al → a.rk < (pads ops.toList).length)) ∧
    l.Pairwise (fun a b => a.i ≠ b.i) ∧ ∀ a ∈ l, m.testBit a.i = false
  | [], m, h, _, _ => by
    simp only [okD1] at h
    have := Nat.eq_of_beq_eq_true h
    subst this
    refine ⟨.nil, .nil, by simp, by simp, fun i hi => .inl (by rw [Nat.testBit_two_pow_sub_one]; simpa using hi), by simp, .nil, by simp⟩
  | d :: r, m, h, hall, hm => by
    simp only [okD1] at h
    cases ho : ops[d.i]? with
    | none => simp [ho] at h
    | some o =>
      simp only [ho, Bool.and_eq_true, Bool.not_eq_true'] at h
      obtain ⟨⟨⟨⟨⟨h1, h2⟩, h3⟩, h4⟩, h5⟩, h6⟩ := h
      have h3 := Nat.eq_of_beq_eq_true h3
      have h4 := Nat.eq_of_beq_eq_true h4
      have hedge : ∀ e ∈ o.after, Region.binds .any e = true → m.testBit e.on = true := fun e he hb => by
        have hbit : (edges o).testBit e.on = true := edges_bit.2 ⟨e, he, hb, rfl⟩
        rw [← h3, Nat.testBit_and] at hbit
        simp only [Bool.and_eq_true] at hbit
        exact hbit.2
      have hm' : ∀ j, (m ||| (1 <<< d.i)).testBit j = true → ∃ x ∈ all, x.i = j := fun j hj => by
        simp only [Nat.testBit_or, Bool.or_eq_true, bit_one] at hj
        rcases hj with hj | hj
        · exact hm j hj
        · exact ⟨d, hall d List.mem_cons_self, hj⟩
      obtain ⟨g1, g2, g3, g4, g5, g6, g7, g8⟩ := okD1_spec h6 (fun x hx => hall x (List.mem_cons_of_mem _ hx)) hm'
      have g8' : ∀ a ∈ r, m.testBit a.i = false ∧ d.i ≠ a.i := fun a ha => by
        have := g8 a ha
        rw [← Bool.not_eq_true] at this
        simp only [Nat.testBit_or, Bool.or_eq_true, bit_one, not_or] at this
        exact ⟨by rw [← Bool.not_eq_true]; exact this.1, this.2⟩
      refine ⟨.cons (fun b hb => List.all_eq_true.1 h5 b hb) g1, .cons (fun b hb o' ho' e he hbd hon => ?_) g2, fun a ha o' ho' e he hbd => ?_, fun a ha o' ho' j hj => ?_, fun i hi => ?_, fun a ha => ?_, .cons (fun b hb => (g8' b hb).2) g7, fun a ha => ?_⟩
      · rw [ho] at ho'; cases ho'
        have := hedge e he hbd
        rw [hon, (g8' b hb).1] at this; cases this
      · rcases List.mem_cons.1 ha with rfl | ha
        · rw [ho] at ho'; cases ho'
          have := hedge e he hbd
          refine ⟨fun hon => ?_, hm _ this⟩
          rw [hon, h1] at this; cases this
        · exact g3 a ha o' ho' e he hbd
      · rcases List.mem_cons.1 ha with rfl | ha
        · rw [ho] at ho'; cases ho'
          refine closeD_bit ?_
          rw [← h4, Nat.testBit_or, hj]; rfl
        · exact g4 a ha o' ho' j hj
      · rcases g5 i hi with h7 | ⟨a, ha, hai⟩
        · simp only [Nat.testBit_or, Bool.or_eq_true, bit_one] at h7
          rcases h7 with h7 | h7
          · exact .inl h7
          · exact .inr ⟨d, List.mem_cons_self, h7⟩
        · exact .inr ⟨a, List.mem_cons_of_mem _ ha, hai⟩
      · rcases List.mem_cons.1 ha with rfl | ha
        · refine ⟨o, ho, fun hc => ?_⟩
          simp only [hc] at h2
          simpa [Nat.blt_eq] using h2
        · exact g6 a ha
      · rcases List.mem_cons.1 ha with rfl | ha
        · exact h1
        · exact (g8' a ha).1
theorem okD_good {l : List DOp} (h : okD ops l = true) : Good ops l := by
  unfold okD at h
  simp only [Bool.and_eq_true] at h
  obtain ⟨g1, g2, g3, g4, g5, g6, g7, _⟩ := okD1_spec h.1 (fun _ h => h) (fun j hj => by simp at hj)
  exact ⟨g1, g2, g3, g4, fun i hi => (g5 i hi).resolve_left (by simp), g6, g7, Nat.eq_of_beq_eq_true h.2⟩

/-! ### Drawn regions -/
theorem pads_gone : ∀ {l : List Oper} {k : Nat}, k < (pads l).length → (pads l)[k]? = some Ent.gone
  | [], k, h => by simp [pads] at h
  | o :: r, k, h => by
    unfold pads at h ⊢
    split at h
    · cases k with
      | zero => rfl
      | succ k => simp only [List.getElem?_cons_succ]; exact pads_gone (by simpa using h)
    · exact pads_gone h
theorem HRel.pad {ρ : RMap} {h : Heap} {w : World} (H : HRel N base ρ h w) {g : Heap} (hg : ∀ k, k < g.length → g[k]? = some .gone) : HRel N base ρ (h ++ g) w := by
  have key : ∀ b, (h ++ g)[b]? = h[b]? ∨ (h[b]? = none ∧ (h ++ g)[b]? = some Ent.gone) := fun b => by
    by_cases hb : b < h.length
    · exact .inl (List.getElem?_append_left hb)
    · rw [List.getElem?_append_right (by omega)]
      by_cases hb2 : b - h.length < g.length
      · exact .inr ⟨List.getElem?_eq_none (by omega), hg _ hb2⟩
      · exact .inl (by rw [List.getElem?_eq_none (by omega), List.getElem?_eq_none (by omega)])
  refine ⟨fun b hb => ?_, fun b e hb hne => ?_, H.inj, H.base_le, H.ext⟩
  · rcases key b with h1 | ⟨h1, _⟩
    · rw [h1] at hb; exact H.out b hb
    · exact H.out b (.inl h1)
  · rcases key b with h1 | ⟨_, h1⟩
    · rw [h1] at hb; exact H.ent b e hb hne
    · rw [h1] at hb; cases hb; exact absurd rfl hne
theorem regionD_sound (hP : ProgOK P E) (hc : CallSound P call) (hM : CallMono call) {id : Nat} {ρ : RMap} {F : Frm} {h : Heap} {a : Act} {w : World} (hS : St E N base ρ F h a w) {r : Frm × Heap} (hr : regionD E call ops F h = some r) {Q : Exit → Act → World → Prop}
    (hQ : ∀ a' w' ρ', St E N base ρ' r.1 r.2 a' w' → Adv ρ w ρ' w' → Q .normal a' w') : (Code.region id ops true).wp P Q a w := by
  unfold regionD at hr
  simp only at hr
  cases hok : okD ops (orderOf ops) <;> simp only [hok, cond_true, cond_false] at hr
  · cases hr
  have G := okD_good hok
  obtain ⟨g1, g2⟩ := hS.heap.grow (w' := { w with drawn := w.drawn + 1 }) (Nat.le_refl _) (fun _ _ => rfl) rfl rfl rfl
  refine wp_region_any hP.env.mixed ?_
  refine anyOrder hP hc hM G ops.size G.len ⟨by simp, fun i hi => ?_, .refl _, fun d hd o ho hcl => ?_, fun x hx hxr => absurd hx hxr⟩ hr ⟨hS.frm.adv g2, g1.pad fun k hk => pads_gone hk, hS.defs⟩ (fun a' w' ρ' h1 h2 => hQ a' w' ρ' h1 (g2.trans h2))
  · simp only [Array.getD_eq_getD_getElem?, Array.getElem?_replicate, hi, if_true, Option.getD_some, true_iff]
    exact G.cover i hi
  · obtain ⟨o', ho', hp⟩ := G.inside d hd
    rw [ho] at ho'; cases ho'
    rw [List.getElem?_append_right (by omega)]
    have : h.length + d.rk - h.length = d.rk := by omega
    rw [this]
    exact pads_gone (hp hcl)

/-! ### Code -/
def Out.frm : Out → Frm
  | .normal F _ => F
  | .exit _ F _ => F
  | .ret F _ => F
def Out.exit' : Out → Exit
  | .normal _ _ => .normal
  | .exit i _ _ => .exit i
  | .ret _ _ => .ret
def Post (E : Env) (N : Nat → Prop) (base : Nat) (ρ : RMap) (w : World) (out : Out) (Q : Exit → Act → World → Prop) : Prop := ∀ a' w' ρ', St E N base ρ' out.frm out.heap a' w' → Adv ρ w ρ' w' → Q out.exit' a' w'
def LoopWp (P : Program) (c : Code) (Q : Exit → Act → World → Prop) (a : Act) (w : World) : Prop :=
  ∀ (b : Frame) (k : List Item) (cs : List Frame), ∃ e a' w', Q e a' w' ∧ Arrives P (lone (b.at a (.code c :: .inLoop c :: k)) cs w) b k cs e a' w'
theorem loopWp_unfold {c : Code} {Q : Exit → Act → World → Prop} {a : Act} {w : World} (h : c.wp P (Exit.then (LoopWp P c Q) Q) a w) : LoopWp P c Q a w := by
  intro b k cs
  obtain ⟨e, a₁, w₁, hq, harr⟩ := h b (.inLoop c :: k) cs
  cases e with
  | normal =>
    obtain ⟨e₂, a₂, w₂, hq₂, harr₂⟩ := hq b k cs
    exact ⟨e₂, a₂, w₂, hq₂, .of_steps (Steps.trans harr (.one step_inLoop)) harr₂⟩
  | exit id => exact ⟨_, a₁, w₁, hq, .pass (x := .inLoop c) rfl (fun _ _ => .inl (by simp)) harr⟩
  | goto l => exact ⟨_, a₁, w₁, hq, .pass (x := .inLoop c) rfl (fun _ _ => .inl (by simp)) harr⟩
  | ret => exact ⟨_, a₁, w₁, hq, .pass (x := .inLoop c) rfl (fun _ _ => .inl (by simp)) harr⟩
  | panic ch => exact ⟨_, a₁, w₁, hq, .pass (x := .inLoop c) rfl (fun _ _ => .inl (by simp)) harr⟩
  | outgrown => exact ⟨_, a₁, w₁, hq, .pass (x := .inLoop c) rfl (fun _ _ => .inl (by simp)) harr⟩
theorem wp_of_loopWp {c : Code} {Q : Exit → Act → World → Prop} {a : Act} {w : World} (h : LoopWp P c Q a w) : (Code.loop c).wp P Q a w := fun b k cs =>
  let ⟨e, a', w', q, r⟩ := h b k cs
  ⟨e, a', w', q, .of_steps (.one step_loop) r⟩
def LoopSound (P : Program) (E : Env) (loop : LoopO) : Prop := ∀ c F h out, loop c F h = some out → ∀ (N : Nat → Prop) (base : Nat) (ρ : RMap) (a : Act) (w : World) (Q : Exit → Act → World → Prop), St E N base ρ F h a w → Post E N base ρ w out Q → LoopWp P c Q a w
theorem Post.adv {ρ ρ' : RMap} {w w' : World} {out : Out} {Q : Exit → Act → World → Prop} (h : Post E N base ρ w out Q) (hadv : Adv ρ w ρ' w') : Post E N base ρ' w' out Q := fun a'' w'' ρ'' h1 h2 => h a'' w'' ρ'' h1 (hadv.trans h2)
theorem exec_sound (hP : ProgOK P E) (hc : CallSound P call) (hM : CallMono call) (hL : LoopSound P E loop) : ∀ (c : Code) {F : Frm} {h : Heap} {out : Out}, exec E call loop c F h = some out → ∀ {ρ : RMap} {a : Act} {w : World} {Q : Exit → Act → World → Prop}, St E N base ρ F h a w → Post E N base ρ w out Q → c.wp P Q a w := by
  intro c
  induction c with
  | skip => intro F h out ho ρ a w Q hS hQ; cases ho; exact wp_skip (hQ a w ρ hS (.refl ρ w))
  | region id ops draw =>
    intro F h out ho ρ a w Q hS hQ
    cases draw with
    | false =>
      simp only [exec] at ho
      cases hs : runS E call ops ops.toList F h with
      | none => simp [hs] at ho
      | some s =>
        simp only [hs, Option.some.injEq] at ho; subst ho
        refine wp_region ?_
        have := runS_sound hP hc (ops := ops) (Q := Q) ops.toList 0 rfl hS hs (fun a' w' ρ' h1 h2 => hQ a' w' ρ' h1 h2)
        rw [List.range_eq_range']
        simpa using this
    | true =>
      simp only [exec] at ho
      cases hs : regionD E call ops F h with
      | none => simp [hs] at ho
      | some s =>
        simp only [hs, Option.some.injEq] at ho; subst ho
        exact regionD_sound hP hc hM hS hs fun a' w' ρ' h1 h2 => hQ a' w' ρ' h1 h2
  | seq x y ihx ihy =>
    intro F h out ho ρ a w Q hS hQ
    simp only [exec] at ho
    refine wp_seq ?_
    cases hs : exec E call loop x F h with
    | none => simp [hs] at ho
    | some s =>
      refine ihx hs hS fun a' w' ρ' h1 h2 => ?_
      cases s with
      | normal F1 h1' =>
        simp only [hs] at ho
        exact ihy ho h1 (hQ.adv h2)
      | exit i F1 h1' =>
        simp only [hs, Option.some.injEq] at ho; subst ho
        exact hQ a' w' ρ' h1 h2
      | ret F1 h1' =>
        simp only [hs, Option.some.injEq] at ho; subst ho
        exact hQ a' w' ρ' h1 h2
  | cond c t e iht ihe =>
    intro F h out ho ρ a w Q hS hQ
    simp only [exec] at ho
    have hcv := eval_rel hS.frm c
    split at ho
    · rename_i hv; rw [hv] at hcv; exact wp_cond_true hcv.bool_inv (iht ho hS hQ)
    · rename_i hv; rw [hv] at hcv; exact wp_cond_false hcv.bool_inv (ihe ho hS hQ)
    · cases ho
  | block id c ih =>
    intro F h out ho ρ a w Q hS hQ
    simp only [exec] at ho
    refine wp_block ?_
    cases hs : exec E call loop c F h with
    | none => simp [hs] at ho
    | some s =>
      refine ih hs hS fun a' w' ρ' h1 h2 => ?_
      cases s with
      | normal F1 h1' =>
        simp only [hs, Option.some.injEq] at ho; subst ho
        exact hQ a' w' ρ' h1 h2
      | exit i F1 h1' =>
        simp only [hs] at ho
        cases hb : Nat.beq i id <;> simp only [hb, cond_true, cond_false, Option.some.injEq] at ho <;> subst ho
        · have hne : i ≠ id := fun h => by subst h; simp at hb
          simp only [Out.exit', Exit.inBlock, if_neg hne]
          exact hQ a' w' ρ' h1 h2
        · obtain rfl := Nat.eq_of_beq_eq_true hb
          simp only [Out.exit', Exit.inBlock, if_true]
          exact hQ a' w' ρ' h1 h2
      | ret F1 h1' =>
        simp only [hs, Option.some.injEq] at ho; subst ho
        exact hQ a' w' ρ' h1 h2
  | loop c _ =>
    intro F h out ho ρ a w Q hS hQ
    exact wp_of_loopWp (hL c F h out ho N base ρ a w Q hS hQ)
  | exit id => intro F h out ho ρ a w Q hS hQ; cases ho; exact wp_exit (hQ a w ρ hS (.refl ρ w))
  | ret => intro F h out ho ρ a w Q hS hQ; cases ho; exact wp_ret (hQ a w ρ hS (.refl ρ w))
  | _ => intros; simp_all [exec]
theorem round_sound (hP : ProgOK P E) (hc : CallSound P call) (hM : CallMono call) (hL : LoopSound P E loop) : LoopSound P E (round E call loop) := by
  intro c F h out ho N base ρ a w Q hS hQ
  unfold round at ho
  refine loopWp_unfold ?_
  cases hs : exec E call loop c F h with
  | none => simp [hs] at ho
  | some s =>
    refine exec_sound hP hc hM hL c hs hS fun a' w' ρ' h1 h2 => ?_
    cases s with
    | normal F1 h1' =>
      simp only [hs] at ho
      exact hL c F1 h1' out ho N base ρ' a' w' Q h1 (hQ.adv h2)
    | exit i F1 h1' =>
      simp only [hs, Option.some.injEq] at ho; subst ho
      exact hQ a' w' ρ' h1 h2
    | ret F1 h1' =>
      simp only [hs, Option.some.injEq] at ho; subst ho
      exact hQ a' w' ρ' h1 h2
end
end Go.Abs
