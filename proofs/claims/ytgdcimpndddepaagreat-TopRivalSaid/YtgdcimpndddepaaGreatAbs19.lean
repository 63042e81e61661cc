/- Calls and operations over memory. -/
import Derived.Test.YtgdcimpndddepaaGreatAbs18
namespace Go.Abs
noncomputable section
variable {P : Program} {E : Env} {w : World} {N : Nat → Prop} {ρ : RMap} {base : Nat} {h : Heap} {call : CallO} {ops : Array Oper}

def Callable (P : Program) (f : FuncId) : Prop := ∃ fn c, P.funcs[f]? = some fn ∧ (fn.name == "runtime.NumGoroutine") = false ∧ fn.body = some c
def ArgsRel (w : World) (M : Nat → Prop) (ρ : RMap) (args : List AV) (cargs : Array Value) : Prop := args.length = cargs.size ∧ ∀ (i : Nat) (c : AV), args[i]? = some c → VRel w M ρ c (cargs.getD i undef)
def CallOK (P : Program) (f : FuncId) (args : List AV) (h : Heap) (r : AV × Heap) : Prop :=
  Callable P f ∧ ∀ (N : Nat → Prop) (base : Nat) (ρ : RMap) (w : World) (cargs : Array Value), HRel N base ρ h w → ArgsRel w (Mut N ρ) ρ args cargs →
    Calls P f cargs w fun e w' => ∃ v ρ', e = .returned v ∧ VRel w' (Mut N ρ') ρ' r.1 v ∧ HRel N base ρ' r.2 w' ∧ Adv ρ w ρ' w'
def CallSound (P : Program) (call : CallO) : Prop := ∀ f args h r, call f args h = some r → CallOK P f args h r
/-- A deferred call of f does nothing where nothing panics. -/
def NopOK (P : Program) (f : FuncId) : Prop := Callable P f ∧ ∀ args w, CallsD P f args .returning w fun e u' w' => (∃ v, e = .returned v) ∧ u' = .returning ∧ w' = w
structure ProgOK (P : Program) (E : Env) : Prop where
  env : EnvOK P E
  fn : ∀ f fn, E.fn f = some fn → P.funcs[f]? = some fn ∧ (fn.name == "runtime.NumGoroutine") = false
  nop : ∀ f, E.nop f = true → NopOK P f
  nat : ∀ f g, E.nat f = some g → ∀ args h r, g args h = some r → CallOK P f args h r
  natMono : NatMono E

theorem HRel.empty {N : Nat → Prop} (hN : ∀ k, N k → k < w.heap.size) : HRel N w.heap.size RMap.empty [] w :=
  ⟨fun _ _ => rfl, fun b e hb => (by simp at hb), fun b b' k hl => (by obtain ⟨loc, h, _⟩ := hl; cases h), Nat.le_refl _, hN⟩
theorem mut_empty {M : Nat → Prop} {k : Nat} (h : Mut M RMap.empty k) : M k := by
  rcases h with h | ⟨b, loc, h, _⟩
  · exact h
  · cases h
theorem HRel.not_N (H : HRel N base ρ h w) {k : Nat} (hb : base ≤ k) : ¬ N k := fun hn => by have := H.ext _ hn; omega
theorem HRel.not_mut (H : HRel N base ρ h w) {b : Nat} {l : RowLoc} (hl : ρ b = some (.row true l)) (hb : base ≤ l.cb) : ¬ Mut N ρ l.cb := fun hk => by
  rcases hk with hk | ⟨b', loc, h1, h2⟩
  · exact H.not_N hb hk
  · have := H.inj b b' _ ⟨_, hl, rfl⟩ ⟨loc, h1, Loc.owns_lies h2⟩
    subst this
    rw [hl] at h1; cases h1
    exact h2
theorem mapM_args {fr : SM} {M' : Nat → Prop} (H : HRel N base ρ h w) (hsub : fr ≠ .own → ∀ k, M' k → Mut N ρ k) (hrow : ∀ b ro l, ρ b = some (.row ro l) → base ≤ l.cb → fr.row ro = true → ¬ M' l.cb) {d : Nat} {args as : List AV} {cargs : Array Value} (hs : args.mapM (snap fr d h) = some as) (ha : ArgsRel w (Mut N ρ) ρ args cargs) {M'' : Nat → Prop} (hM'' : ∀ k, M'' k → M' k) :
    ArgsRel w (Mut M'' RMap.empty) RMap.empty as cargs := by
  obtain ⟨h1, h2⟩ := mapM_get hs
  refine ⟨by rw [h1]; exact ha.1, fun i c hi => ?_⟩
  obtain ⟨c0, h3, h4⟩ := h2 i c hi
  exact (snap_rel H hsub hrow d h4 (ha.2 i c0 h3)).mono (fun _ _ _ => rfl) (Nat.le_refl _) (fun k _ hk => hM'' k (mut_empty hk)) (.refl _)
theorem callN_sound (hP : ProgOK P E) (hc : CallSound P call) {f : FuncId} {args : List AV} {r : AV × Heap} (hr : callN E call f args h = some r) : CallOK P f args h r := by
  unfold callN at hr
  split at hr
  · rename_i g hg
    exact hP.nat f g hg args h r hr
  · split at hr
    · exact hc f args h r hr
    · cases hcl : args.all (closed? depth) <;> simp only [hcl, cond_true, cond_false, Option.bind_eq_some_iff, Option.map_eq_some_iff] at hr
      · obtain ⟨as, has, r1, hr1, v, hv, rfl⟩ := hr
        obtain ⟨hcall, hok⟩ := hc f as [] r1 hr1
        refine ⟨hcall, fun N base ρ w cargs H ha => ?_⟩
        refine (hok (fun _ => False) w.heap.size RMap.empty w cargs (HRel.empty fun k hk => hk.elim) (mapM_args (fr := .any) (M' := fun _ => False) H (fun _ k hk => hk.elim) (fun _ _ _ _ _ _ hk => hk) has ha (fun k hk => hk.elim))).mono ?_
        rintro e w' ⟨u, ρc, rfl, hu, Hc, hadv⟩
        obtain ⟨g1, g2⟩ := H.grow hadv.size (fun k hk => hadv.keep k hk fun ⟨b, loc, h, _⟩ => by cases h) hadv.os hadv.tape hadv.output
        refine ⟨u, ρ, rfl, ?_, g1, g2⟩
        have := snap_rel (fr := .own) (M' := Mut N ρ) Hc (fun h => absurd rfl h) (fun b ro l _ hb _ hk => by
          have : l.cb < w.heap.size := hk.elim (H.ext_lt _) fun ho => (H.own ho).2
          omega) _ hv hu
        exact this.mono (fun _ _ _ => rfl) (Nat.le_refl _) (fun k _ hk => hk) (fun b loc hb => by cases hb)
      · obtain ⟨r1, hr1, v, hv, rfl⟩ := hr
        obtain ⟨hcall, hok⟩ := hc f args [] r1 hr1
        refine ⟨hcall, fun N base ρ w cargs H ha => ?_⟩
        refine (hok (Mut N ρ) w.heap.size RMap.empty w cargs (HRel.empty fun k hk => hk.elim (H.ext_lt k) fun ho => (H.own ho).2) ⟨ha.1, fun i c hi => ?_⟩).mono ?_
        · have := closed_rel (ρ' := RMap.empty) (List.all_eq_true.1 hcl c (List.mem_of_getElem? hi)) (ha.2 i c hi)
          exact this.mono (fun _ _ _ => rfl) (Nat.le_refl _) (fun k _ hk => mut_empty hk) (.refl _)
        rintro e w' ⟨u, ρc, rfl, hu, Hc, hadv⟩
        obtain ⟨g1, g2⟩ := H.grow hadv.size (fun k hk => hadv.keep k hk fun ⟨b, loc, h, _⟩ => by cases h) hadv.os hadv.tape hadv.output
        refine ⟨u, ρ, rfl, ?_, g1, g2⟩
        have := snap_rel (fr := .any) (M' := Mut N ρ) Hc (fun _ k hk => .inl hk) (fun b ro l _ hb _ hk => by
          have : l.cb < w.heap.size := hk.elim (H.ext_lt _) fun ho => (H.own ho).2
          omega) _ hv hu
        exact this.mono (fun _ _ _ => rfl) (Nat.le_refl _) (fun k _ hk => hk) (fun b loc hb => by cases hb)
    · simp only [Option.bind_eq_some_iff, Option.map_eq_some_iff] at hr
      obtain ⟨h1, hh1, as, has, r1, hr1, v, hv, rfl⟩ := hr
      obtain ⟨hcall, hok⟩ := hc f as [] r1 hr1
      refine ⟨hcall, fun N base ρ w cargs H ha => ?_⟩
      obtain ⟨ρ1, H1, adv1⟩ := fold_freeze (w := w) (N := N) (base := base) (f := fun h v => freeze depth v h) (fun h a h' ρ => freeze_rel) hh1 H
      have ha1 : ArgsRel w (Mut N ρ1) ρ1 args cargs := ⟨ha.1, fun i c hi => (ha.2 i c hi).adv adv1⟩
      refine (hok (Mut N ρ1) w.heap.size RMap.empty w cargs (HRel.empty fun k hk => hk.elim (H1.ext_lt k) fun ho => (H1.own ho).2) (mapM_args (fr := .frz) (M' := Mut N ρ1) H1 (fun _ k hk => hk) (fun b ro l hl hb hro => by cases (show ro = true from hro); exact H1.not_mut hl hb) has ha1 (fun k hk => hk))).mono ?_
      rintro e w' ⟨u, ρc, rfl, hu, Hc, hadv⟩
      obtain ⟨g1, g2⟩ := H1.grow hadv.size (fun k hk => hadv.keep k hk fun ⟨b, loc, h, _⟩ => by cases h) hadv.os hadv.tape hadv.output
      refine ⟨u, ρ1, rfl, ?_, g1, adv1.trans g2⟩
      have := snap_rel (fr := .any) (M' := Mut N ρ1) Hc (fun _ k hk => .inl hk) (fun b ro l _ hb _ hk => by
        have : l.cb < w.heap.size := hk.elim (H1.ext_lt _) fun ho => (H1.own ho).2
        omega) _ hv hu
      exact this.mono (fun _ _ _ => rfl) (Nat.le_refl _) (fun k _ hk => hk) (fun b loc hb => by cases hb)

/-! ### Operations -/
theorem wanted_run {M : Nat → Prop} {F : Frm} {a : Act} (hf : FRel w M ρ F a.tmps) {o : Oper} {b : Bool} (hw : wantedA ops o F = some b) : Region.wanted o (yielded ops a.tmps) = b := by
  unfold wantedA at hw
  unfold Region.wanted
  cases hg : o.guard with
  | none => simp only [hg] at hw ⊢; cases hw; rfl
  | some gw =>
    obtain ⟨j, want⟩ := gw
    simp only [hg] at hw ⊢
    unfold yielded
    cases ht : (ops[j]?).bind (·.dst) with
    | none => simp only [ht] at hw ⊢; cases hw; rfl
    | some t =>
      simp only [ht, Option.bind_some] at hw ⊢
      have hr := hf.get t
      split at hw
      · rename_i q hq
        rw [hq] at hr
        have hv := hr.bool_inv
        have hlt : t < a.tmps.size := by
          rcases Nat.lt_or_ge t a.tmps.size with h | h
          · exact h
          · simp only [Array.getD_eq_getD_getElem?, Array.getElem?_eq_none h, Option.getD_none, undef] at hv; cases hv
        simp only [Array.getD_eq_getD_getElem?, Array.getElem?_eq_getElem hlt, Option.getD_some] at hv
        simp only [Array.getElem?_eq_getElem hlt, hv]
        cases hw
        cases q <;> cases want <;> rfl
      · rename_i hq
        rw [hq] at hr
        obtain ⟨vs, hv, hn, _⟩ := hr.tup_inv
        cases hw
        rcases Nat.lt_or_ge t a.tmps.size with h | h
        · simp only [Array.getD_eq_getD_getElem?, Array.getElem?_eq_getElem h, Option.getD_some] at hv
          simp only [Array.getElem?_eq_getElem h, hv]
          rfl
        · simp only [Array.getElem?_eq_none h]; rfl
      · cases hw
theorem insOK_snoc : InsOK h h.length snoc := by
  refine ⟨.inl (by simp), fun e => by simp [snoc], fun e b hb => ?_⟩
  simp only [snoc]
  rcases Nat.lt_trichotomy b h.length with h1 | h1 | h1
  · exact .inl (List.getElem?_append_left h1)
  · exact absurd h1 hb
  · exact .inl (by rw [List.getElem?_eq_none (by simp; omega), List.getElem?_eq_none (by omega)])
theorem insOK_set {p : Nat} (hp : h[p]? = some .gone) : InsOK h p (fun h e => h.set p e) :=
  ⟨.inr hp, fun e => set_get hp, fun e b hb => .inl (set_other hb)⟩
theorem act_sound (hP : ProgOK P E) (hc : CallSound P call) {i : Nat} {o : Oper} (hoi : ops[i]? = some o) {F : Frm} {a : Act} (hf : FRel w (Mut N ρ) ρ F a.tmps) (H : HRel N base ρ h w) {p : Nat} {ins : Heap → Ent → Heap} (hi : InsOK h p ins) {v : AV} {h' : Heap}
    (ha : act E call ops o F h p ins = some (v, h')) {K : Act → World → Prop} {Q : Exit → Act → World → Prop} (hK : ∀ r w' ρ', VRel w' (Mut N ρ') ρ' v r → HRel N base ρ' h' w' → Adv ρ w ρ' w' → K (a.put o.dst r) w') : wpOp P ops Q i K a w := by
  unfold act at ha
  unfold wpOp
  simp only [hoi]
  split at ha
  · cases ha
  · rename_i hw
    cases ha
    rw [wanted_run hf hw]
    exact hK undef w ρ undef_rel H (.refl ρ w)
  · rename_i hw
    rw [wanted_run hf hw]
    simp only [if_true]
    refine .inl ?_
    unfold Oper.wp
    split at ha
    · rename_i fo args ts hop
      split at ha
      · rename_i f cap hfo
        have hfv := eval_rel hf fo
        rw [hfo] at hfv
        generalize hcf : a.eval fo = cf at hfv
        cases hfv with
        | @func _ _ _ vs hn hr =>
        obtain ⟨⟨fn, c, h1, h2, h3⟩, hok⟩ := callN_sound hP hc ha
        obtain ⟨hl, hra⟩ := args_rel hf args
        have hargs : ArgsRel w (Mut N ρ) ρ (args.toList.map F.eval ++ cap) (args.map a.eval ++ vs) := by
          refine ⟨by simp [hn], fun i c hi => ?_⟩
          by_cases hlt : i < args.size
          · rw [List.getElem?_append_left (by simpa using hlt)] at hi
            have := hra i c hi
            have e : (args.map a.eval ++ vs).getD i undef = (args.map a.eval).toList.getD i undef := by
              simp [Array.getD_eq_getD_getElem?, List.getD_eq_getElem?_getD, Array.getElem?_append, hlt]
            rw [e]; exact this
          · rw [List.getElem?_append_right (by simp; omega)] at hi
            simp only [List.length_map, Array.length_toList] at hi
            have := hr _ c hi
            have e : (args.map a.eval ++ vs).getD i undef = vs.getD (i - args.size) undef := by
              simp [Array.getD_eq_getD_getElem?, Array.getElem?_append, hlt]
            rw [e]; exact this
        have hrun : (execOp a.eval o).run P w = .ok (.enter f (args.map a.eval ++ vs)) w := by
          simp only [execOp, hop, resolve, Sem.run_bind, Deferred.ofValue, hcf, Sem.run_pure, Result.andThen_ok, invoke, callFunc, run_program, h1, h2, Bool.false_eq_true, if_false, h3, Option.isNone_some, Array.empty_append]
        rw [hrun, Oper.upon_enter]
        refine (hok N base ρ w _ H hargs).mono ?_
        rintro e w' ⟨u, ρ', rfl, g1, g2, g3⟩
        exact hK u w' ρ' g1 g2 g3
      · cases ha
    · obtain ⟨r, w', ρ', hrun, g1, g2, g3⟩ := opA_run hP.env H hf hi ha
      rcases hrun with hrun | ⟨hrun, rfl⟩
      · rw [hrun, Oper.upon_value]; exact hK r w' ρ' g1 g2 g3
      · rw [hrun, Oper.upon_skip]; exact hK undef w' ρ' g1 g2 g3
end
end Go.Abs
