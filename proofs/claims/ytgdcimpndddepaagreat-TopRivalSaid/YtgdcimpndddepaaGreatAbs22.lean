/- What the evaluator says of a call is what the call comes to. -/
import Derived.Test.YtgdcimpndddepaaGreatAbs21
namespace Go.Abs
noncomputable section
variable {P : Program} {E : Env} {N : Nat → Prop} {base : Nat} {call : CallO} {loop : LoopO} {ops : Array Oper}

theorem resA_run (hE : EnvOK P E) {ρ : RMap} {F : Frm} {h : Heap} {a : Act} {w : World} (hS : St E N base ρ F h a w) {x : ResultVar} {v : AV} (hr : resA E F h x = some v) :
    ∃ c, (match x with
      | .tmp t => (pure (a.tmps.getD t undef) : Sem Value)
      | .cell b t => do loadVar t (← asAddr (a.tmps.getD b undef))).run P w = .ok c w ∧ VRel w (Mut N ρ) ρ v c := by
  unfold resA at hr
  split at hr
  · cases hr
    exact ⟨_, rfl, hS.frm.get _⟩
  · simp only [Option.bind_eq_some_iff] at hr
    obtain ⟨i, hi, hr⟩ := hr
    rename_i b t
    have hp := hS.frm.get b
    obtain ⟨r, g1, g2⟩ := load_run hE hS.heap hi hr hp
    refine ⟨r, ?_, g2⟩
    have key : ∀ c : Value, (Instr.loadAt t c).run P w = .ok r w → (do loadVar t (← asAddr c) : Sem Value).run P w = .ok r w := fun c g1 => by
      simp only [Instr.loadAt, Sem.run_bind] at g1 ⊢
      cases c with
      | pointer ad =>
        cases ad with
        | none => simp [Instr.sureAddr] at g1
        | some ad => simpa [Instr.sureAddr, asAddr] using g1
      | _ => simp [Instr.sureAddr] at g1
    exact key _ g1
theorem results_run (hE : EnvOK P E) {ρ : RMap} {F : Frm} {h : Heap} {a : Act} {w : World} (hS : St E N base ρ F h a w) {fn : Func} {v : AV} (hr : resultsA E fn.results.toList F h = some v) :
    ∃ c, (results fn a.tmps).run P w = .ok c w ∧ VRel w (Mut N ρ) ρ v c := by
  unfold resultsA at hr
  simp only [Option.map_eq_some_iff] at hr
  obtain ⟨vs, hvs, hv⟩ := hr
  let f : ResultVar → Sem Value := fun
    | .tmp t => pure (a.tmps.getD t undef)
    | .cell b t => do loadVar t (← asAddr (a.tmps.getD b undef))
  have key : ∀ (l : List ResultVar) (vs : List AV), l.mapM (resA E F h) = some vs → ∃ cs, (l.mapM f).run P w = .ok cs w ∧ vs.length = cs.length ∧ ∀ (i : Nat) (x : AV), vs[i]? = some x → VRel w (Mut N ρ) ρ x (cs.getD i undef) := by
    intro l
    induction l with
    | nil => intro vs h; simp at h; subst h; exact ⟨[], by simp, rfl, fun i x hi => by simp at hi⟩
    | cons y r ih =>
      intro vs hm
      simp only [List.mapM_cons, Option.bind_eq_bind, Option.bind_eq_some_iff, Option.pure_def, Option.some.injEq] at hm
      obtain ⟨b, hb, us, hus, rfl⟩ := hm
      obtain ⟨c, h1, h2⟩ := resA_run hE hS hb
      obtain ⟨cs, h3, h4, h5⟩ := ih us hus
      refine ⟨c :: cs, ?_, by simp [h4], fun i x hi => ?_⟩
      · have h1' : (f y).run P w = .ok c w := h1
        simp only [List.mapM_cons, Sem.run_bind, h1', Result.andThen_ok, h3, Sem.run_pure]
      · cases i with
        | zero => simp only [List.getElem?_cons_zero, Option.some.injEq] at hi; subst hi; simpa using h2
        | succ i => simpa using h5 i x (by simpa using hi)
  obtain ⟨cs, h1, h2, h3⟩ := key _ _ hvs
  have hrun : (fn.results.mapM f).run P w = .ok cs.toArray w := by
    rw [Array.mapM_eq_mapM_toList]
    simp only [Sem.run_map, h1, Result.andThen_ok]
  have hres : (results fn a.tmps).run P w = .ok (if h : cs.toArray.size = 1 then cs.toArray[0] else .tuple cs.toArray) w := by
    unfold results
    rw [Sem.run_bind]
    change Result.andThen ((fn.results.mapM f).run P w) _ = _
    rw [hrun]
    rfl
  refine ⟨_, hres, ?_⟩
  subst hv
  clear hvs hrun h1 hres key
  rcases vs with _ | ⟨x, _ | ⟨y, r⟩⟩ <;> rcases cs with _ | ⟨c, _ | ⟨d, s⟩⟩ <;> simp only [List.length_nil, List.length_cons] at h2 <;> try omega
  · exact .tup rfl (fun i c hi => by simp at hi)
  · exact h3 0 x rfl
  · refine .tup (by simpa using h2) fun i u hi => ?_
    have := h3 i u hi
    simpa [Array.getD_eq_getD_getElem?, List.getD_eq_getElem?_getD] using this

theorem getS_number (d : AV) : ∀ (l : List AV) (k t : Nat), getS (number k l) d t = if k ≤ t then l.getD (t - k) d else d
  | [], k, t => by simp [number, getS_nil', getS_cons']
  | v :: r, k, t => by
    simp only [number, getS_nil', getS_cons']
    by_cases hkt : k = t
    · subst hkt; simp
    · have : Nat.beq k t = false := beq_ne hkt
      simp only [this, cond_false, getS_number d r (k + 1) t]
      by_cases h : k ≤ t
      · have h1 : k + 1 ≤ t := by omega
        have h2 : t - k = (t - (k + 1)) + 1 := by omega
        simp only [if_pos h, if_pos h1, h2, List.getD_cons_succ]
      · have h1 : ¬ k + 1 ≤ t := by omega
        simp only [if_neg h, if_neg h1]
theorem entry_rel {ρ : RMap} {h : Heap} {w : World} (H : HRel N base ρ h w) {fn : Func} {args : List AV} {cargs : Array Value} (ha : ArgsRel w (Mut N ρ) ρ args cargs) :
    St E N base ρ (entry fn args) h { tmps := cargs ++ Array.replicate (fn.ntmps - cargs.size) undef, defers := [] } w := by
  refine ⟨⟨by simp [entry, ha.1], fun t => ?_⟩, H, trivial⟩
  simp only [Frm.get, entry, getS_number, Nat.zero_le, if_true, Nat.sub_zero]
  by_cases ht : t < args.length
  · have e1 : args.getD t (.tup []) = args[t] := by simp [List.getD_eq_getElem?_getD, ht]
    have e2 : (cargs ++ Array.replicate (fn.ntmps - cargs.size) undef).getD t undef = cargs.getD t undef := by
      have : t < cargs.size := by rw [← ha.1]; exact ht
      simp [Array.getD_eq_getD_getElem?, Array.getElem?_append, this]
    rw [e1, e2]
    exact ha.2 t _ (List.getElem?_eq_getElem ht)
  · have e1 : args.getD t (.tup []) = .tup [] := by simp [List.getD_eq_getElem?_getD, List.getElem?_eq_none (Nat.le_of_not_lt ht)]
    have e2 : (cargs ++ Array.replicate (fn.ntmps - cargs.size) undef).getD t undef = undef := by
      have : ¬ t < cargs.size := by rw [← ha.1]; exact ht
      simp only [Array.getD_eq_getD_getElem?, Array.getElem?_append, this, if_false, Array.getElem?_replicate]
      split <;> rfl
    rw [e1, e2]
    exact undef_rel
theorem leaves_nop (hP : ProgOK P E) {fn : Func} {tmps : Array Value} {R : Ending → World → Prop} {w : World} (hr : ∃ v, (results fn tmps).run P w = .ok v w ∧ R (.returned v) w) : ∀ (fs : List Nat) (ds : List Deferred), DefRel E fs ds → Leaves P fn tmps R ds .returning w
  | [], [], _ => hr
  | f :: fs, d :: ds, h => by
    obtain ⟨h1, ⟨caps, h2⟩, h3⟩ := h
    obtain ⟨⟨g, c, hg, hname, hb⟩, hok⟩ := hP.nop f h1
    obtain ⟨target, dargs⟩ := d
    simp only at h2
    subst h2
    refine ⟨by simp, .func f, caps, f, dargs ++ caps, rfl, ?_, ?_⟩
    · simp only [invoke, callFunc, Sem.run_bind, run_program, Result.andThen_ok, hg, hname, Bool.false_eq_true, if_false, hb, Option.isNone_some, Sem.run_pure]
    · refine (hok (dargs ++ caps) w).mono ?_
      rintro e u' w' ⟨⟨v, rfl⟩, rfl, rfl⟩
      exact leaves_nop hP hr fs ds h3
  | [], _ :: _, h => h.elim
  | _ :: _, [], h => h.elim
theorem body_sound (hP : ProgOK P E) (hc : CallSound P call) (hM : CallMono call) (hL : LoopSound P E loop) : CallSound P (body E call loop) := by
  intro f args h r hr
  unfold body at hr
  cases hf : E.fn f with
  | none => simp [hf] at hr
  | some fn =>
    simp only [hf] at hr
    cases hb : fn.body with
    | none => simp [hb] at hr
    | some c =>
      simp only [hb] at hr
      obtain ⟨h1, h2⟩ := hP.fn f fn hf
      refine ⟨⟨fn, c, h1, h2, hb⟩, fun N base ρ w cargs H ha => ?_⟩
      refine calls_of_wp_defers h1 hb ?_
      cases ho : exec E call loop c (entry fn args) h with
      | none => simp [ho, leave] at hr
      | some out =>
        rw [ho] at hr
        refine exec_sound hP hc hM hL c ho (entry_rel H ha) fun a' w' ρ' h3 h4 => ?_
        cases out with
        | exit i F h' => cases hr
        | normal F h' =>
          simp only [leave, Option.map_eq_some_iff] at hr
          obtain ⟨v, hv, rfl⟩ := hr
          obtain ⟨cv, g1, g2⟩ := results_run hP.env h3 hv
          exact leaves_nop hP ⟨cv, g1, cv, ρ', rfl, g2, h3.heap, h4⟩ _ _ h3.defs
        | ret F h' =>
          simp only [leave, Option.map_eq_some_iff] at hr
          obtain ⟨v, hv, rfl⟩ := hr
          obtain ⟨cv, g1, g2⟩ := results_run hP.env h3 hv
          exact leaves_nop hP ⟨cv, g1, cv, ρ', rfl, g2, h3.heap, h4⟩ _ _ h3.defs
theorem ev_sound (hP : ProgOK P E) : ∀ n, CallSound P (ev E n).1 ∧ LoopSound P E (ev E n).2
  | 0 => ⟨fun f args h r hr => (by cases hr), fun c F h out hr => (by cases hr)⟩
  | n + 1 => ⟨body_sound hP (ev_sound hP n).1 (ev_mono hP.natMono n).1 (ev_sound hP n).2, round_sound hP (ev_sound hP n).1 (ev_mono hP.natMono n).1 (ev_sound hP n).2⟩
end
end Go.Abs
