/- Any order that the edges leave comes to the same. -/
import Derived.Test.YtgdcimpndddepaaGreatAbs16
namespace Go.Abs
noncomputable section
variable {E : Env} {call : CallO} {ops : Array Oper} {L : Nat}

theorem eqvL_eq {f : AV → AV → Bool} (hf : ∀ a b, f a b = true → a = b) : ∀ {a b : List AV}, eqvL f a b = true → a = b
  | [], [], _ => rfl
  | [], _ :: _, h => by simp [eqvL] at h
  | _ :: _, [], h => by simp [eqvL] at h
  | x :: a, y :: b, h => by
    simp only [eqvL] at h
    cases hx : f x y <;> simp only [hx, cond_true, cond_false] at h
    · cases h
    · rw [hf x y hx, eqvL_eq hf h]
theorem eqv_eq : ∀ {d : Nat} {x y : AV}, eqv d x y = true → x = y := by
  intro d
  induction d with
  | zero => intro x y h; cases h
  | succ d ih =>
    intro x y h
    have il := fun {a b : List AV} => eqvL_eq (f := eqv d) (fun a b => ih) (a := a) (b := b)
    cases x <;> cases y <;> simp only [eqv, Bool.and_eq_true, beq_iff_eq, Bool.false_eq_true] at h <;> try (cases h; done)
    case int.int k a k' b =>
      cases hk : k == k' <;> simp only [hk, cond_true, cond_false] at h
      · cases h
      · simp only [beq_iff_eq] at hk h
        rw [hk, h]
    case str.str a b => obtain ⟨a⟩ := a; obtain ⟨b⟩ := b; simp only at h; rw [h]
    case bool.bool => rw [h]
    case ptr.ptr => obtain ⟨⟨⟨rfl, rfl⟩, rfl⟩, rfl⟩ := h; rfl
    case iptr.iptr => rw [ih h.1, h.2]
    case lst.lst => rw [il h]
    case ref.ref => obtain ⟨⟨⟨rfl, rfl⟩, rfl⟩, rfl⟩ := h; rfl
    case agg.agg => rw [il h]
    case tup.tup => rw [il h]
    case func.func => rw [h.1, il h.2]
    case map.map => rw [h]
    case iface.iface => rw [h.1, ih h.2]
    all_goals rfl

/-! ### Fewer reads to be kept -/
def Weaker (E : Env) (pd pd' : List Pend) : Prop := ∀ e ∈ pd', ∃ e0 ∈ pd, e0.i = e.i ∧ ∀ h, e0.holds E h = true → e.holds E h = true
theorem Weaker.refl (pd : List Pend) : Weaker E pd pd := fun e he => ⟨e, he, rfl, fun _ h => h⟩
theorem Weaker.cons {pd pd' : List Pend} (h : Weaker E pd pd') (x : Pend) : Weaker E (x :: pd) (x :: pd') := fun e he => by
  rcases List.mem_cons.1 he with rfl | he
  · exact ⟨e, List.mem_cons_self, rfl, fun _ h => h⟩
  · obtain ⟨e0, h0, h1⟩ := h e he
    exact ⟨e0, List.mem_cons_of_mem _ h0, h1⟩
theorem Weaker.ext {pd pd' : List Pend} (h : Weaker E pd pd') (d : DOp) (o : Oper) (F : Frm) (v : AV) : Weaker E (extP E ops d o F v pd) (extP E ops d o F v pd') := by
  unfold extP
  split
  · exact h.cons _
  · exact h
/-- The checks of a writer. -/
def Checks (E : Env) (d : DOp) (o : Oper) (pd : List Pend) (h : Heap) : Prop := ∀ e ∈ pd, d.D.testBit e.i = true ∨ held E o e h = true
theorem Checks.weaken {d : DOp} {o : Oper} {pd pd' : List Pend} {h : Heap} (hw : Weaker E pd pd') (hc : Checks E d o pd h) : Checks E d o pd' h := fun e he => by
  obtain ⟨e0, h0, h1, h2⟩ := hw e he
  refine (hc e0 h0).imp (fun h => by rw [← h1]; exact h) (fun hh => ?_)
  unfold held at hh ⊢
  rw [Bool.or_eq_true] at hh ⊢
  exact hh.imp id (h2 h)
theorem quiet_same {o : Oper} {F : Frm} {h h' : Heap} {p : Nat} {ins : Heap → Ent → Heap} {v : AV} (hq : quiet E o = true) (ha : act E call ops o F h p ins = some (v, h')) : h' = h := by
  unfold quiet at hq
  split at hq
  case h_2 => cases hq
  rename_i f _ _ hop
  rw [Bool.and_eq_true] at hq
  obtain ⟨q1, q2⟩ := hq
  have n1 : E.nat f = none := by
    cases hn : E.nat f with
    | none => rfl
    | some g => simp [hn] at q1
  have n2 : E.cm f = .pure := by
    cases hn : E.cm f <;> simp [hn] at q2
    rfl
  unfold act at ha
  split at ha
  · cases ha
  · cases ha; rfl
  · simp only [hop, Frm.eval] at ha
    unfold callN at ha
    simp only [n1, n2] at ha
    rename_i args _ _ _
    cases hcl : (List.map F.eval args.toList ++ []).all (closed? depth) <;> simp only [hcl, cond_true, cond_false, Option.bind_eq_some_iff, Option.map_eq_some_iff, Prod.mk.injEq] at ha
    · obtain ⟨_, _, _, _, _, _, _, rfl⟩ := ha; rfl
    · obtain ⟨_, _, _, _, _, rfl⟩ := ha; rfl
/-- What one step of the order comes to. -/
inductive StepD (E : Env) (call : CallO) (ops : Array Oper) (L : Nat) (d : DOp) (o : Oper) (F : Frm) (h : Heap) (pd : List Pend) : Frm → Heap → List Pend → Prop
  | rd {v : AV} {F' : Frm} (hc : clsOf o = .rd) (ha : act E call ops o F h 0 snoc = some (v, h)) (hF : F.put o.dst v = some F') : StepD E call ops L d o F h pd F' h (extP E ops d o F v pd)
  | al {v : AV} {F' : Frm} {h' : Heap} (hc : clsOf o = .al) (hg : h[L + d.rk]? = some .gone) (ha : act E call ops o F h (L + d.rk) (fun h e => h.set (L + d.rk) e) = some (v, h')) (hF : F.put o.dst v = some F') : StepD E call ops L d o F h pd F' h' pd
  | wr {v : AV} {F' : Frm} {h' : Heap} (hc : clsOf o = .wr) (ha : act E call ops o F h h.length snoc = some (v, h')) (hk : Checks E d o pd h') (hF : F.put o.dst v = some F') : StepD E call ops L d o F h pd F' h' pd
theorem isGone_iff {x : Option Ent} : isGone x = true ↔ x = some .gone := by
  cases x with
  | none => simp [isGone]
  | some e => cases e <;> simp [isGone]
theorem runD_cons {d : DOp} {r : List DOp} {pd : List Pend} {F : Frm} {h : Heap} {f : Frm × Heap} :
    runD E call ops L (d :: r) pd F h = some f ↔ ∃ o F' h' pd', ops[d.i]? = some o ∧ StepD E call ops L d o F h pd F' h' pd' ∧ runD E call ops L r pd' F' h' = some f := by
  constructor
  · intro hr
    unfold runD at hr
    cases ho : ops[d.i]? with
    | none => simp [ho] at hr
    | some o =>
      simp only [ho] at hr
      cases hcl : clsOf o with
      | rd =>
        simp only [hcl] at hr
        cases ha : act E call ops o F h 0 snoc with
        | none => simp [ha] at hr
        | some a =>
          obtain ⟨v, h1⟩ := a
          obtain rfl : h1 = h := act_rd hcl ha
          simp only [ha] at hr
          cases hF : F.put o.dst v with
          | none => simp [hF] at hr
          | some F' =>
            simp only [hF] at hr
            exact ⟨o, F', _, _, rfl, .rd hcl ha hF, hr⟩
      | al =>
        simp only [hcl] at hr
        cases hgn : isGone h[L + d.rk]? with
        | false => simp [hgn] at hr
        | true =>
        simp only [hgn, cond_true] at hr
        cases ha : act E call ops o F h (L + d.rk) (fun h e => h.set (L + d.rk) e) with
        | none => simp [ha] at hr
        | some a =>
          obtain ⟨v, h1⟩ := a
          simp only [ha] at hr
          cases hF : F.put o.dst v with
          | none => simp [hF] at hr
          | some F' =>
            simp only [hF] at hr
            exact ⟨o, F', _, _, rfl, .al hcl (isGone_iff.1 hgn) ha hF, hr⟩
      | wr =>
        simp only [hcl] at hr
        cases ha : act E call ops o F h h.length snoc with
        | none => simp [ha] at hr
        | some a =>
          obtain ⟨v, h1⟩ := a
          simp only [ha] at hr
          cases hall : pd.all (fun e => d.D.testBit e.i || held E o e h1) with
          | false => simp [hall] at hr
          | true =>
          simp only [hall, cond_true] at hr
          cases hF : F.put o.dst v with
          | none => simp [hF] at hr
          | some F' =>
            simp only [hF] at hr
            refine ⟨o, F', _, _, rfl, .wr hcl ha (fun e he => ?_) hF, hr⟩
            have := List.all_eq_true.1 hall e he
            simpa [Bool.or_eq_true] using this
      | bad => simp [hcl] at hr
  · rintro ⟨o, F', h', pd', ho, hs, hr⟩
    unfold runD
    simp only [ho]
    cases hs with
    | rd hc ha hF => simp only [hc, ha, hF]; exact hr
    | al hc hg ha hF => simp only [hc, isGone_iff.2 hg, cond_true, ha, hF]; exact hr
    | wr hc ha hk hF =>
      have : pd.all (fun e => d.D.testBit e.i || held E o e h') = true := List.all_eq_true.2 fun e he => by simpa [Bool.or_eq_true] using hk e he
      simp only [hc, ha, this, cond_true, hF]; exact hr
theorem runD_weaken : ∀ {l : List DOp} {pd pd' : List Pend} {F : Frm} {h : Heap} {f : Frm × Heap}, Weaker E pd pd' → runD E call ops L l pd F h = some f → runD E call ops L l pd' F h = some f
  | [], pd, pd', F, h, f, _, hr => hr
  | d :: l, pd, pd', F, h, f, hw, hr => by
    obtain ⟨o, F', h', pd1, ho, hs, hr⟩ := runD_cons.1 hr
    refine runD_cons.2 ?_
    cases hs with
    | rd hc ha hF => exact ⟨o, F', _, _, ho, .rd hc ha hF, runD_weaken (hw.ext d o F _) hr⟩
    | al hc hg ha hF => exact ⟨o, F', _, _, ho, .al hc hg ha hF, runD_weaken hw hr⟩
    | wr hc ha hk hF => exact ⟨o, F', _, _, ho, .wr hc ha (hk.weaken hw) hF, runD_weaken hw hr⟩

/-- A pair of which the first does not bind the second. -/
structure Swap (ops : Array Oper) (d e : DOp) (x y : Oper) : Prop where
  free : e.D.testBit d.i = false
  apart : Oper.apart ops x y = true
  cls : (clsOf x, clsOf y) = (.rd, .rd) ∨ (clsOf x, clsOf y) = (.rd, .al) ∨ (clsOf x, clsOf y) = (.al, .al) ∨ (clsOf x, clsOf y) = (.rd, .wr) ∨ (clsOf x, clsOf y) = (.wr, .al)
  place : clsOf x = .al → clsOf y = .al → d.rk ≠ e.rk
theorem holds_put {o : Oper} {F F' : Frm} {dst : Option Tmp} {v u : AV} {i : Nat} (hp : F.put dst v = some F') (h : ∀ d, dst = some d → d ∉ o.looksAt ops) (hh : Heap) : (⟨i, o, F', u⟩ : Pend).holds E hh = (⟨i, o, F, u⟩ : Pend).holds E hh := by
  unfold Pend.holds
  simp only [opA_put hp h]
theorem extP_mem {d : DOp} {o : Oper} {F : Frm} {v : AV} {pd : List Pend} : extP E ops d o F v pd = pd ∨ (wantedA ops o F = some true ∧ clsOf o = .rd ∧ extP E ops d o F v pd = ⟨d.i, o, F, v⟩ :: pd) := by
  unfold extP
  split
  · rename_i h1 h2; exact .inr ⟨h2, h1, rfl⟩
  · exact .inl rfl
/-- A read over a heap that keeps it. -/
theorem still_opA {o : Oper} (hs : still o = true) (hc : clsOf o = .rd) {F : Frm} {v : AV} {h h1 h' : Heap} {p : Nat} {ins : Heap → Ent → Heap} (ho : opA E o F h p ins = some (v, h1)) : opA E o F h' p ins = some (v, h') := by
  obtain ⟨dst, op, ty, pos, after, guard⟩ := o
  have mv : ∀ x, (match x with | Operand.const (.slice none 0 0) => Cls.al | _ => .rd) = .rd → (match x with
      | Operand.const (.slice none 0 0) => match kd E ty with
        | some (.slice e) => match E.ti e with
          | some ei => if ei.size = 0 then none else some (AV.ref p 0 0 0, ins h (Ent.row false ei.size []))
          | none => none
        | _ => none
      | x => some (F.eval x, h)) = some (v, h1) → (match x with
      | Operand.const (.slice none 0 0) => match kd E ty with
        | some (.slice e) => match E.ti e with
          | some ei => if ei.size = 0 then none else some (AV.ref p 0 0 0, ins h' (Ent.row false ei.size []))
          | none => none
        | _ => none
      | x => some (F.eval x, h')) = some (v, h') := by
    intro x hx hv
    split at hv
    · exact absurd hx (by simp)
    · rename_i hne
      cases hv
      rfl
  cases op <;> simp only [still, Bool.false_eq_true] at hs
  case move x => exact mv x hc ho
  case assign x => exact mv x hc ho
theorem act_of_holds {i : Nat} {o : Oper} {F : Frm} {v : AV} {h h' : Heap} (hc : clsOf o = .rd) (ha : act E call ops o F h 0 snoc = some (v, h)) (hh : wantedA ops o F = some true → (⟨i, o, F, v⟩ : Pend).holds E h' = true) : act E call ops o F h' 0 snoc = some (v, h') := by
  rw [act_eq (by rw [hc]; simp)] at ha ⊢
  cases hw : wantedA ops o F with
  | none => simp [hw] at ha
  | some b =>
    cases b with
    | false =>
      simp only [hw, Option.some.injEq, Prod.mk.injEq] at ha ⊢
      exact ⟨ha.1, trivial⟩
    | true =>
      have := hh hw
      unfold Pend.holds at this
      simp only at this ⊢
      rw [Bool.or_eq_true] at this
      rcases this with hs | this
      · simp only [hw] at ha
        exact still_opA hs hc ha
      cases ho : opA E o F h' 0 snoc with
      | none => simp [ho] at this
      | some r =>
        obtain ⟨v', h1⟩ := r
        simp only [ho] at this
        rw [eqv_eq this, (opA_shape ho).2 hc]
theorem ext_mem {d : DOp} {o : Oper} {F : Frm} {v : AV} {pd : List Pend} (hc : clsOf o = .rd) (hw : wantedA ops o F = some true) : (⟨d.i, o, F, v⟩ : Pend) ∈ extP E ops d o F v pd := by
  simp [extP, hc, hw]
theorem ext_sub {d : DOp} {o : Oper} {F : Frm} {v : AV} {pd : List Pend} : ∀ e ∈ pd, e ∈ extP E ops d o F v pd := fun e he => by
  unfold extP
  split
  · exact List.mem_cons_of_mem _ he
  · exact he
theorem ext_back {d : DOp} {o : Oper} {F F' : Frm} {v : AV} {pd pd0 : List Pend} (hw : wantedA ops o F' = wantedA ops o F) (hh : ∀ h, (⟨d.i, o, F', v⟩ : Pend).holds E h = (⟨d.i, o, F, v⟩ : Pend).holds E h)
    (hsub : ∀ e ∈ pd, ∃ e0 ∈ pd0, e0.i = e.i ∧ ∀ h, e0.holds E h = true → e.holds E h = true) (hmem : wantedA ops o F = some true → clsOf o = .rd → (⟨d.i, o, F, v⟩ : Pend) ∈ pd0) : Weaker E pd0 (extP E ops d o F' v pd) := by
  intro e he
  rcases extP_mem (E := E) (ops := ops) (d := d) (o := o) (F := F') (v := v) (pd := pd) with h | ⟨h1, h2, h3⟩
  · rw [h] at he; exact hsub e he
  · rw [h3] at he
    rcases List.mem_cons.1 he with rfl | he
    · exact ⟨_, hmem (hw ▸ h1) h2, rfl, fun h hx => by rw [hh]; exact hx⟩
    · exact hsub e he
theorem StepD.swap (hN : NatMono E) (hM : CallMono call) {d e : DOp} {x y : Oper} (hs : Swap ops d e x y) {F F1 F2 : Frm} {h h1 h2 : Heap} {pd pd1 pd2 : List Pend} (hg : clsOf y = .al → h[L + e.rk]? = some .gone)
    (s1 : StepD E call ops L d x F h pd F1 h1 pd1) (s2 : StepD E call ops L e y F1 h1 pd1 F2 h2 pd2) :
    ∃ F' h' pd' pd'', StepD E call ops L e y F h pd F' h' pd' ∧ StepD E call ops L d x F' h' pd' F2 h2 pd'' ∧ Weaker E pd2 pd'' := by
  obtain ⟨a1, a2, a3⟩ := Oper.apart_spec hs.apart
  have hcls := hs.cls
  cases s1 with
  | @rd v F1 hc ha hF =>
    have a4 := fun (hh : Heap) (p : Nat) (ins : Heap → Ent → Heap) => act_put (E := E) (call := call) (ops := ops) (o := y) hF a1 hh p ins
    cases s2 with
    | @rd u F2 hc2 ha2 hF2 =>
      rw [a4] at ha2
      obtain ⟨F', g1, g2⟩ := put_comm a2 hF hF2
      refine ⟨F', h, _, _, .rd hc2 ha2 g1, .rd hc (by rw [act_put g1 a3]; exact ha) g2, ?_⟩
      refine ext_back (wantedA_put g1 a3) (fun h => holds_put g1 a3 h) (fun e' he' => ?_) (fun hw hc' => ext_sub _ (ext_mem hc' hw))
      rcases extP_mem (E := E) (ops := ops) (d := e) (o := y) (F := F) (v := u) (pd := pd) with h3 | ⟨h3, h4, h5⟩
      · rw [h3] at he'; exact ⟨e', ext_sub _ (ext_sub _ he'), rfl, fun _ h => h⟩
      · rw [h5] at he'
        rcases List.mem_cons.1 he' with rfl | he'
        · exact ⟨_, ext_mem hc2 (by rw [wantedA_put hF a1]; exact h3), rfl, fun hh hx => by rw [holds_put hF a1] at hx; exact hx⟩
        · exact ⟨e', ext_sub _ (ext_sub _ he'), rfl, fun _ h => h⟩
    | @al u F2 h2 hc2 hg2 ha2 hF2 =>
      rw [a4] at ha2
      obtain ⟨F', g1, g2⟩ := put_comm a2 hF hF2
      obtain ⟨g, hgl⟩ := act_al (E := E) (call := call) (ops := ops) hc2 F (L + e.rk)
      rw [hgl] at ha2
      have hk : act E call ops x F h2 0 snoc = some (v, h2) := by
        cases g with
        | none => cases ha2
        | some r =>
          simp only [Option.map_some, Option.some.injEq, Prod.mk.injEq] at ha2
          obtain ⟨_, rfl⟩ := ha2
          cases hr : r.2 with
          | none => simpa [insO] using ha
          | some z => exact (act_mono hN hM ha hg2 snoc_gone (fun e => snoc_mono)).2 z
      refine ⟨F', h2, pd, _, .al hc2 hg2 (by rw [hgl]; exact ha2) g1, .rd hc (by rw [act_put g1 a3]; exact hk) g2, ?_⟩
      exact ext_back (wantedA_put g1 a3) (fun h => holds_put g1 a3 h) (fun e' he' => ⟨e', ext_sub _ he', rfl, fun _ h => h⟩) (fun hw hc' => ext_mem hc' hw)
    | @wr u F2 h2 hc2 ha2 hk2 hF2 =>
      rw [a4] at ha2
      obtain ⟨F', g1, g2⟩ := put_comm a2 hF hF2
      have hk : act E call ops x F h2 0 snoc = some (v, h2) := by
        cases hq : quiet E y with
        | true => rw [quiet_same hq ha2]; exact ha
        | false =>
          exact act_of_holds hc ha (i := d.i) fun hw => by
            rcases hk2 _ (ext_mem hc hw) with h3 | h3
            · rw [hs.free] at h3; cases h3
            · simpa [held, hq] using h3
      refine ⟨F', h2, pd, _, .wr hc2 ha2 (fun e' he' => hk2 e' (ext_sub _ he')) g1, .rd hc (by rw [act_put g1 a3]; exact hk) g2, ?_⟩
      exact ext_back (wantedA_put g1 a3) (fun h => holds_put g1 a3 h) (fun e' he' => ⟨e', ext_sub _ he', rfl, fun _ h => h⟩) (fun hw hc' => ext_mem hc' hw)
  | @al v F1 h1 hc hg1 ha hF =>
    have a4 := fun (hh : Heap) (p : Nat) (ins : Heap → Ent → Heap) => act_put (E := E) (call := call) (ops := ops) (o := y) hF a1 hh p ins
    cases s2 with
    | rd hc2 => simp [hc, hc2] at hcls
    | wr hc2 => simp [hc, hc2] at hcls
    | @al u F2 h2 hc2 hg2 ha2 hF2 =>
      rw [a4] at ha2
      have hne : L + d.rk ≠ L + e.rk := fun h => hs.place hc hc2 (by omega)
      obtain ⟨F', g1, g2⟩ := put_comm a2 hF hF2
      obtain ⟨gx, hgx⟩ := act_al (E := E) (call := call) (ops := ops) hc F (L + d.rk)
      obtain ⟨gy, hgy⟩ := act_al (E := E) (call := call) (ops := ops) hc2 F (L + e.rk)
      rw [hgx] at ha
      rw [hgy] at ha2
      cases gx with
      | none => cases ha
      | some r =>
      cases gy with
      | none => cases ha2
      | some r' =>
      simp only [Option.map_some, Option.some.injEq, Prod.mk.injEq] at ha ha2
      obtain ⟨rfl, rfl⟩ := ha
      obtain ⟨rfl, rfl⟩ := ha2
      refine ⟨F', insO (fun h x => h.set (L + e.rk) x) h r'.2, pd, pd, .al hc2 (hg hc2) (by rw [hgy]; rfl) g1, .al hc ?_ ?_ g2, .refl _⟩
      · cases r'.2 with
        | none => exact hg1
        | some z => simp only [insO]; rw [set_other hne]; exact hg1
      · rw [act_put g1 a3, hgx]
        simp only [Option.map_some, Option.some.injEq, Prod.mk.injEq, true_and]
        cases r.2 with
        | none => rfl
        | some z =>
          cases r'.2 with
          | none => rfl
          | some z' => exact List.set_comm _ _ (Ne.symm hne)
  | @wr v F1 h1 hc ha hk hF =>
    have a4 := fun (hh : Heap) (p : Nat) (ins : Heap → Ent → Heap) => act_put (E := E) (call := call) (ops := ops) (o := y) hF a1 hh p ins
    cases s2 with
    | rd hc2 => simp [hc, hc2] at hcls
    | wr hc2 => simp [hc, hc2] at hcls
    | @al u F2 h2 hc2 hg2 ha2 hF2 =>
      rw [a4] at ha2
      obtain ⟨F', g1, g2⟩ := put_comm a2 hF hF2
      obtain ⟨gy, hgy⟩ := act_al (E := E) (call := call) (ops := ops) hc2 F (L + e.rk)
      rw [hgy] at ha2
      cases gy with
      | none => cases ha2
      | some r' =>
      simp only [Option.map_some, Option.some.injEq, Prod.mk.injEq] at ha2
      obtain ⟨rfl, rfl⟩ := ha2
      have hgone := hg hc2
      obtain ⟨_, m2⟩ := act_mono hN hM ha hgone snoc_gone (fun e => snoc_mono)
      refine ⟨F', insO (fun h x => h.set (L + e.rk) x) h r'.2, pd, pd, .al hc2 hgone (by rw [hgy]; rfl) g1, .wr hc ?_ ?_ g2, .refl _⟩
      · rw [act_put g1 a3]
        cases r'.2 with
        | none => exact ha
        | some z => simp only [insO]; rw [len_mono]; exact m2 z
      · cases r'.2 with
        | none => exact hk
        | some z => exact fun e' he' => (hk e' he').imp id fun hh => held_mono hh hg2

/-- Steps keep the places of the others free. -/
theorem StepD.gone (hN : NatMono E) (hM : CallMono call) {d : DOp} {x : Oper} {F F1 : Frm} {h h1 : Heap} {pd pd1 : List Pend} (s : StepD E call ops L d x F h pd F1 h1 pd1) {q : Nat} (hq : h[q]? = some .gone) (hne : clsOf x = .al → L + d.rk ≠ q) : h1[q]? = some .gone := by
  cases s with
  | rd => exact hq
  | al hc hg ha hF => exact (act_mono hN hM ha hq (setAt_gone (hne hc)) (fun e => setAt_mono (hne hc))).1
  | wr hc ha hk hF => exact (act_mono hN hM ha hq snoc_gone (fun e => snoc_mono)).1
def SwapAt (ops : Array Oper) (d e : DOp) : Prop := ∃ x y, ops[d.i]? = some x ∧ ops[e.i]? = some y ∧ Swap ops d e x y
theorem runD_bubble (hN : NatMono E) (hM : CallMono call) {e : DOp} {y : Oper} (hy : ops[e.i]? = some y) {post : List DOp} : ∀ {pre : List DOp} {pd : List Pend} {F : Frm} {h : Heap} {f : Frm × Heap}, (∀ d ∈ pre, SwapAt ops d e) → (clsOf y = .al → h[L + e.rk]? = some .gone) →
    runD E call ops L (pre ++ e :: post) pd F h = some f → runD E call ops L (e :: (pre ++ post)) pd F h = some f
  | [], pd, F, h, f, _, _, hr => hr
  | d :: pre, pd, F, h, f, hsw, hg, hr => by
    obtain ⟨x, F1, h1, pd1, hx, s1, hr⟩ := runD_cons.1 hr
    obtain ⟨x', y', hx', hy', sw⟩ := hsw d List.mem_cons_self
    rw [hx] at hx'; cases hx'
    rw [hy] at hy'; cases hy'
    have hr := runD_bubble hN hM hy (fun d hd => hsw d (List.mem_cons_of_mem _ hd)) (fun hc => s1.gone hN hM (hg hc) fun hc' h => sw.place hc' hc (by omega)) hr
    obtain ⟨y', F2, h2, pd2, hy', s2, hr⟩ := runD_cons.1 hr
    rw [hy] at hy'; cases hy'
    obtain ⟨F', h', pd', pd'', g1, g2, g3⟩ := s1.swap hN hM sw hg s2
    exact runD_cons.2 ⟨y, F', h', pd', hy, g1, runD_cons.2 ⟨x, F2, h2, pd'', hx, g2, runD_weaken g3 hr⟩⟩
end
end Go.Abs
