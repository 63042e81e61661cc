/- All operations other than calls of functions. -/
import Derived.Test.YtgdcimpndddepaaGreatAbs11
namespace Go.Abs
noncomputable section
variable {P : Program} {E : Env} {w : World} {N : Nat → Prop} {ρ : RMap} {base : Nat} {h : Heap}

theorem run_pureV (v : Sem Value) {r : Value} {w' : World} (h : v.run P w = .ok r w') : (do pure (.value (← v)) : Sem Next).run P w = .ok (.value r) w' := by
  simp only [Sem.run_bind, h, Result.andThen_ok, Sem.run_pure]
theorem run_pureU (u : Sem Unit) {w' : World} (h : u.run P w = .ok () w') : (do u; pure .skip : Sem Next).run P w = .ok .skip w' := by
  simp only [Sem.run_bind, h, Result.andThen_ok, Sem.run_pure]
theorem undef_rel {M : Nat → Prop} : VRel w M ρ (.tup []) undef := .tup (by simp) (fun i c hi => by simp at hi)

theorem min_fold {M : Nat → Prop} (f : Int → Int → Bool) (g : Value → Value → Sem Value) (hg : ∀ k k' (x y : Int) (w : World), (g (.int k x) (.int k' y)).run P w = .ok (.int k (bif f y x then y else x)) w) : ∀ (l : List AV) (cs : List Value) (k : IntKind) (n : Int) (v : AV),
    l.length = cs.length → (∀ (i : Nat) (c : AV), l[i]? = some c → VRel w M ρ c (cs.getD i undef)) →
    l.foldlM (fun a b => match a, b with
      | AV.int k x, AV.int _ y => some (AV.int k (bif f y x then y else x))
      | _, _ => none) (AV.int k n) = some v → ∃ r, (cs.foldlM g (.int k n)).run P w = .ok r w ∧ VRel w M ρ v r := by
  intro l
  induction l with
  | nil =>
    intro cs k n v hl _ hv
    obtain rfl : cs = [] := List.eq_nil_of_length_eq_zero (by simpa using hl.symm)
    cases hv
    exact ⟨_, rfl, .int _ _⟩
  | cons a l ih =>
    intro cs k n v hl hr hv
    cases cs with
    | nil => simp at hl
    | cons c cs =>
      have h0 := hr 0 a rfl
      simp only [List.getD_cons_zero] at h0
      simp only [List.foldlM_cons, Option.bind_eq_bind, Option.bind_eq_some_iff] at hv
      obtain ⟨b, hb, hv⟩ := hv
      cases a <;> simp only [reduceCtorEq, Option.some.injEq] at hb
      rename_i k' y
      subst hb
      obtain rfl := h0.int_inv
      obtain ⟨r, h1, h2⟩ := ih cs k _ v (by simpa using hl) (fun i c hi => by simpa using hr (i + 1) c (by simpa using hi)) hv
      exact ⟨r, by simp only [List.foldlM_cons, Sem.run_bind, hg, Result.andThen_ok, h1], h2⟩
theorem minA_run {M : Nat → Prop} (f : Int → Int → Bool) (g : Value → Value → Sem Value) (hg : ∀ k k' (x y : Int) (w : World), (g (.int k x) (.int k' y)).run P w = .ok (.int k (bif f y x then y else x)) w) {l : List AV} {cs : List Value} {v : AV}
    (hl : l.length = cs.length) (hr : ∀ (i : Nat) (c : AV), l[i]? = some c → VRel w M ρ c (cs.getD i undef)) (hm : minA f l = some v) :
    ∃ x rest, cs = x :: rest ∧ ∃ r, (rest.foldlM g x).run P w = .ok r w ∧ VRel w M ρ v r := by
  cases l with
  | nil => simp [minA] at hm
  | cons a l =>
    cases cs with
    | nil => simp at hl
    | cons c cs =>
      have h0 := hr 0 a rfl
      simp only [List.getD_cons_zero] at h0
      cases a <;> simp only [minA, reduceCtorEq] at hm
      obtain rfl := h0.int_inv
      exact ⟨_, _, rfl, min_fold f g hg l cs _ _ v (by simpa using hl) (fun i c hi => by simpa using hr (i + 1) c (by simpa using hi)) hm⟩
theorem args_rel {M : Nat → Prop} {F : Frm} {a : Act} (hf : FRel w M ρ F a.tmps) (xs : Array Operand) :
    (xs.toList.map F.eval).length = (xs.map a.eval).toList.length ∧ ∀ (i : Nat) (c : AV), (xs.toList.map F.eval)[i]? = some c → VRel w M ρ c ((xs.map a.eval).toList.getD i undef) := by
  refine ⟨by simp, fun i c hi => ?_⟩
  simp only [List.getElem?_map, Option.map_eq_some_iff] at hi
  obtain ⟨x, hx, rfl⟩ := hi
  have : (xs.map a.eval).toList.getD i undef = a.eval x := by simp [List.getD_eq_getElem?_getD, hx]
  rw [this]; exact eval_rel hf x
theorem list_two {α : Type} {xs : Array α} {a b : α} (h : xs.toList = [a, b]) : xs = #[a, b] := by
  cases xs; simp_all
theorem list_one {α : Type} {xs : Array α} {a : α} (h : xs.toList = [a]) : xs = #[a] := by
  cases xs; simp_all
theorem list_nil {α : Type} {xs : Array α} (h : xs.toList = []) : xs = #[] := by
  cases xs; simp_all

/-- What an operation comes to: a value, or nothing. -/
def OpRuns (P : Program) (a : Act) (o : Oper) (w : World) (r : Value) (w' : World) : Prop :=
  (execOp a.eval o).run P w = .ok (.value r) w' ∨ ((execOp a.eval o).run P w = .ok .skip w' ∧ r = undef)

theorem builtin_run (hE : EnvOK P E) (H : HRel N base ρ h w) {F : Frm} {a : Act} (hf : FRel w (Mut N ρ) ρ F a.tmps) {p : Nat} {ins : Heap → Ent → Heap} (hi : InsOK h p ins) {b : Builtin} {ts : Array TypeId} {xs : Array Operand} {v : AV} {h' : Heap} (ty : TypeId) (cs : Array Bool)
    (ho : builtinA E h p ins b ts (xs.toList.map F.eval) = some (v, h')) :
    ∃ r w' ρ', (builtin b ts ty cs (xs.map a.eval)).run P w = .ok (.value r) w' ∧ VRel w' (Mut N ρ') ρ' v r ∧ HRel N base ρ' h' w' ∧ Adv ρ w ρ' w' := by
  obtain ⟨hl, hr⟩ := args_rel hf xs
  unfold builtinA at ho
  split at ho
  · rename_i t rest x hts hxs
    simp only [Option.bind_eq_some_iff, Option.map_eq_some_iff, Prod.mk.injEq] at ho
    obtain ⟨k, hk, n, hn, hv, hh⟩ := ho
    subst hv hh
    rw [hxs] at hl hr
    generalize hcs : (xs.map a.eval) = cxs at hl hr ⊢
    obtain ⟨c, hc⟩ : ∃ c, cxs.toList = [c] := by
      match h : cxs.toList, hl with
      | [c], _ => exact ⟨c, rfl⟩
    have hcx := list_one hc
    have h0 := hr 0 x rfl
    simp only [hcx, List.getD_cons_zero] at h0
    subst hcx
    have := len_run hE H (ty := ty) (ts := rest) hk hn h0
    have e : ts = (t :: rest).toArray := by rw [← hts]
    exact ⟨_, w, ρ, by rw [e]; exact run_pureV _ this, .int _ _, H, .refl ρ w⟩
  · rename_i t xt s x hts hxs
    rw [hxs] at hl hr
    generalize hcs : (xs.map a.eval) = cxs at hl hr ⊢
    obtain ⟨c, d, hc⟩ : ∃ c d, cxs.toList = [c, d] := by
      match h : cxs.toList, hl with
      | [c, d], _ => exact ⟨c, d, rfl⟩
    have hcx := list_two hc
    have h0 := hr 0 s rfl
    have h1 := hr 1 x rfl
    simp only [hcx, List.getD_cons_zero, List.getD_cons_succ] at h0 h1
    subst hcx
    obtain rfl := list_two hts
    obtain ⟨r, w', ρ', g1, g2⟩ := append_run hE H hi (ty := ty) ho h0 h1
    exact ⟨r, w', ρ', run_pureV _ g1, g2⟩
  · rename_i t xt d x hts hxs
    rw [hxs] at hl hr
    generalize hcs : (xs.map a.eval) = cxs at hl hr ⊢
    obtain ⟨c, e, hc⟩ : ∃ c d, cxs.toList = [c, d] := by
      match h : cxs.toList, hl with
      | [c, d], _ => exact ⟨c, d, rfl⟩
    have hcx := list_two hc
    have h0 := hr 0 d rfl
    have h1 := hr 1 x rfl
    simp only [hcx, List.getD_cons_zero, List.getD_cons_succ] at h0 h1
    subst hcx
    obtain rfl := list_two hts
    obtain ⟨r, w', g1, g2⟩ := copy_run hE H (xt := xt) (ty := ty) ho h0 h1
    exact ⟨r, w', ρ, run_pureV _ g1, g2⟩
  · rename_i t x hts hxs
    rw [hxs] at hl hr
    generalize hcs : (xs.map a.eval) = cxs at hl hr ⊢
    obtain ⟨c, hc⟩ : ∃ c, cxs.toList = [c] := by
      match h : cxs.toList, hl with
      | [c], _ => exact ⟨c, rfl⟩
    have hcx := list_one hc
    have h0 := hr 0 x rfl
    simp only [hcx, List.getD_cons_zero] at h0
    subst hcx
    obtain rfl := list_one hts
    obtain ⟨r, w', g1, g2⟩ := clear_run hE H (ty := ty) ho h0
    exact ⟨r, w', ρ, run_pureV _ g1, g2⟩
  · simp only [Option.map_eq_some_iff, Prod.mk.injEq] at ho
    obtain ⟨u, hu, hv, hh⟩ := ho
    subst hv hh
    obtain ⟨x, rest, hc, r, h1, h2⟩ := minA_run (P := P) _ Builtin.min2 (fun k k' x y w => by by_cases h : y < x <;> simp [Builtin.min2, h]) hl hr hu
    exact ⟨r, w, ρ, run_pureV _ (by simp only [Builtin.min_, hc]; exact h1), h2, H, .refl ρ w⟩
  · simp only [Option.map_eq_some_iff, Prod.mk.injEq] at ho
    obtain ⟨u, hu, hv, hh⟩ := ho
    subst hv hh
    obtain ⟨x, rest, hc, r, h1, h2⟩ := minA_run (P := P) _ Builtin.max2 (fun k k' x y w => by by_cases h : y > x <;> simp [Builtin.max2, h]) hl hr hu
    exact ⟨r, w, ρ, run_pureV _ (by simp only [Builtin.max_, hc]; exact h1), h2, H, .refl ρ w⟩
  · cases ho
theorem move_run (hE : EnvOK P E) (H : HRel N base ρ h w) {F : Frm} {a : Act} (hf : FRel w (Mut N ρ) ρ F a.tmps) {p : Nat} {ins : Heap → Ent → Heap} (hi : InsOK h p ins) {t : TypeId} {x : Operand} {v : AV} {h' : Heap}
    (ho : (match x with
      | .const (.slice none 0 0) => match kd E t with
        | some (.slice e) => match E.ti e with
          | some ei => if ei.size = 0 then none else some (AV.ref p 0 0 0, ins h (Ent.row false ei.size []))
          | none => none
        | _ => none
      | x => some (F.eval x, h)) = some (v, h')) :
    ∃ ρ', VRel w (Mut N ρ') ρ' v (a.eval x) ∧ HRel N base ρ' h' w ∧ Adv ρ w ρ' w := by
  split at ho
  · split at ho
    case h_2 => cases ho
    split at ho
    case h_2 => cases ho
    rename_i ei hei
    split at ho
    · cases ho
    rename_i hz
    cases ho
    obtain ⟨g1, g2⟩ := H.newVirt hi (Nat.pos_of_ne_zero hz)
    exact ⟨_, .refVirt none (upd_self ρ p _), g1, g2⟩
  · cases ho
    exact ⟨ρ, eval_rel hf x, H, .refl ρ w⟩
theorem optOp_rel {M : Nat → Prop} {F : Frm} {a : Act} (hf : FRel w M ρ F a.tmps) (x : Option Operand) : (∀ v, x.map F.eval = some v → ∃ c, x.map a.eval = some c ∧ VRel w M ρ v c) ∧ (x.map F.eval = none → x.map a.eval = none) := by
  cases x with
  | none => exact ⟨fun v h => (by cases h), fun _ => rfl⟩
  | some x => exact ⟨fun v h => (by cases h; exact ⟨_, rfl, eval_rel hf x⟩), fun h => (by cases h)⟩

theorem opA_run (hE : EnvOK P E) (H : HRel N base ρ h w) {F : Frm} {a : Act} (hf : FRel w (Mut N ρ) ρ F a.tmps) {p : Nat} {ins : Heap → Ent → Heap} (hi : InsOK h p ins) {o : Oper} {v : AV} {h' : Heap} (ho : opA E o F h p ins = some (v, h')) :
    ∃ r w' ρ', OpRuns P a o w r w' ∧ VRel w' (Mut N ρ') ρ' v r ∧ HRel N base ρ' h' w' ∧ Adv ρ w ρ' w' := by
  have ev := fun x => eval_rel hf x
  obtain ⟨dst, op, ty, pos, after, guard⟩ := o
  unfold opA at ho
  cases op <;> simp only at ho <;> try (cases ho; done)
  case move x =>
    obtain ⟨ρ', h1, h2, h3⟩ := move_run hE H hf hi ho
    exact ⟨_, w, ρ', .inl rfl, h1, h2, h3⟩
  case assign x =>
    obtain ⟨ρ', h1, h2, h3⟩ := move_run hE H hf hi ho
    exact ⟨_, w, ρ', .inl rfl, h1, h2, h3⟩
  case pick c x y =>
    have hc := ev c
    split at ho
    case h_2 => cases ho
    rename_i t ht
    rw [ht] at hc
    cases ho
    have hb := hc.bool_inv
    refine ⟨if t then a.eval x else a.eval y, w, ρ, .inl ?_, ?_, H, .refl ρ w⟩
    · simp only [execOp, hb, asBool, Sem.run_bind, Sem.run_pure, Result.andThen_ok]
    · cases t
      · exact ev y
      · exact ev x
  case alloc t =>
    simp only [Option.bind_eq_some_iff] at ho
    obtain ⟨i, hti, ho⟩ := ho
    split at ho
    · cases ho
    rename_i hc
    simp only [not_or, Decidable.not_not, Bool.not_eq_false] at hc
    cases ho
    obtain ⟨zv, hz, _, hzr⟩ := zero_run hE hti
    obtain ⟨w', ρ', g1, g2, g3, g4⟩ := newVar_run (P := P) H hi (t := t) (hzr w (Mut N ρ) ρ) hc.2.2 hc.2.1 (Nat.pos_of_ne_zero hc.1)
    exact ⟨_, w', ρ', .inl (run_pureV _ (by simp only [Instr.alloc, Sem.run_bind, hz, Result.andThen_ok, g1, Sem.run_pure])), g2, g3, g4⟩
  case box t x =>
    simp only [Option.bind_eq_some_iff] at ho
    obtain ⟨i, hti, ho⟩ := ho
    split at ho
    · cases ho
    rename_i hc
    simp only [not_or, Decidable.not_not, Bool.not_eq_false] at hc
    cases ho
    obtain ⟨w', ρ', g1, g2, g3, g4⟩ := newVar_run (P := P) H hi (t := t) (ev x) hc.2.2 hc.2.1 (Nat.pos_of_ne_zero hc.1)
    exact ⟨_, w', ρ', .inl (run_pureV _ (by simp only [Instr.box, Sem.run_bind, Result.andThen_ok, g1, Sem.run_pure])), g2, g3, g4⟩
  case build t ps =>
    simp only [Option.bind_eq_some_iff] at ho
    obtain ⟨i, hti, ho⟩ := ho
    have hb : (match i.k, i.zero with
      | .struct fs, .agg z => if fs.all (fun f => (E.ti f.type).isSome) = true then (fillA (fun j => fs[j]?.map fun f => (f.off, f.size)) z (sub F ps)).map fun cs => AV.agg cs else none
      | .array _ e, .agg z => (E.ti e).bind fun ei => (fillA (fun j => some (j * ei.size, ei.size)) z (sub F ps)).map fun cs => AV.agg cs
      | _, _ => none) = some v ∧ h' = h := by
      split at ho
      · rename_i hk hz
        split at ho
        · rename_i hall
          simp only [Option.map_eq_some_iff, Prod.mk.injEq] at ho
          obtain ⟨cs, hcs, rfl, rfl⟩ := ho
          simp only [hk, hz, hall, if_true, hcs, Option.map_some, and_self]
        · cases ho
      · rename_i hk hz
        simp only [Option.bind_eq_some_iff, Option.map_eq_some_iff, Prod.mk.injEq] at ho
        obtain ⟨ei, hei, cs, hcs, rfl, rfl⟩ := ho
        simp only [hk, hz, hei, Option.bind_some, hcs, Option.map_some, and_self]
      · cases ho
    obtain ⟨hb, rfl⟩ := hb
    obtain ⟨r, g1, g2⟩ := build_run hE hf hti hb
    exact ⟨r, w, ρ, .inl (run_pureV _ g1), g2, H, .refl ρ w⟩
  case buildSlice t n ps =>
    split at ho
    case h_2 => cases ho
    rename_i e hk
    simp only [Option.bind_eq_some_iff] at ho
    obtain ⟨ei, hei, ho⟩ := ho
    split at ho
    · cases ho
    rename_i hc
    simp only [not_or, Decidable.not_not, Bool.not_eq_false] at hc
    simp only [Option.map_eq_some_iff, Prod.mk.injEq] at ho
    obtain ⟨es, hes, rfl, rfl⟩ := ho
    obtain ⟨r, w', ρ', g1, g2, g3, g4⟩ := buildSlice_run (P := P) hE H hf hi hk hei (Nat.pos_of_ne_zero hc.1) hc.2.1 hc.2.2.1 hc.2.2.2 hes
    exact ⟨r, w', ρ', .inl (run_pureV _ g1), g2, g3, g4⟩
  case insert t m k x =>
    simp only [Option.map_eq_some_iff, Prod.mk.injEq] at ho
    obtain ⟨h2, hh, rfl, rfl⟩ := ho
    obtain ⟨w', g1, g2, g3⟩ := mapUpdate_run hE H hh (ev m) (ev k) (ev x)
    exact ⟨undef, w', ρ, .inr ⟨run_pureU _ g1, rfl⟩, undef_rel, g2, g3⟩
  case load t x =>
    simp only [Option.bind_eq_some_iff, Option.map_eq_some_iff, Prod.mk.injEq] at ho
    obtain ⟨i, hti, u, hu, rfl, rfl⟩ := ho
    obtain ⟨r, g1, g2⟩ := load_run hE H hti hu (ev x)
    exact ⟨r, w, ρ, .inl (run_pureV _ g1), g2, H, .refl ρ w⟩
  case store t x y =>
    simp only [Option.bind_eq_some_iff, Option.map_eq_some_iff, Prod.mk.injEq] at ho
    obtain ⟨i, hti, h2, hu, rfl, rfl⟩ := ho
    obtain ⟨w', g1, g2, g3⟩ := store_run hE H hti hu (ev x) (ev y)
    exact ⟨undef, w', ρ, .inr ⟨run_pureU _ g1, rfl⟩, undef_rel, g2, g3⟩
  case nilCheck x =>
    have hx := ev x
    split at ho <;> try (cases ho; done)
    all_goals
      rename_i hx'
      rw [hx'] at hx
      cases ho
      refine ⟨a.eval x, w, ρ, .inl ?_, hx, H, .refl ρ w⟩
      simp only [execOp]
      generalize a.eval x = c at hx ⊢
      cases hx <;> rfl
  case binOp op t x y yt =>
    simp only [Option.map_eq_some_iff, Prod.mk.injEq] at ho
    obtain ⟨u, hu, rfl, rfl⟩ := ho
    obtain ⟨r, g1, g2⟩ := binA_run hE x y hu (ev x) (ev y)
    exact ⟨r, w, ρ, .inl (run_pureV _ g1), g2, H, .refl ρ w⟩
  case unOp op t x =>
    simp only [Option.map_eq_some_iff, Prod.mk.injEq] at ho
    obtain ⟨u, hu, rfl, rfl⟩ := ho
    obtain ⟨r, g1, g2⟩ := unA_run (P := P) hu (ev x)
    exact ⟨r, w, ρ, .inl (run_pureV _ g1), g2, H, .refl ρ w⟩
  case convert s d x =>
    obtain ⟨r, w', g1, g2, g3, g4⟩ := conv_run hE H ho (ev x)
    exact ⟨r, w', ρ, .inl (run_pureV _ g1), g2, g3, g4⟩
  case makeInterface t x =>
    split at ho <;> try (cases ho; done)
    rename_i k hne hk
    cases ho
    have hu := hE.kind hk
    refine ⟨.iface t (a.eval x), w, ρ, .inl (run_pureV _ ?_), .iface (ev x), H, .refl ρ w⟩
    cases k <;> simp only [kindOK] at hu
    case iface => exact absurd rfl hne
    all_goals
      first
        | (simp only [Instr.makeInterface, Sem.run_bind, run_underlying hu, Result.andThen_ok, Sem.run_pure]; done)
        | (obtain ⟨_, hu, _⟩ := hu; simp only [Instr.makeInterface, Sem.run_bind, run_underlying hu, Result.andThen_ok, Sem.run_pure]; done)
        | (obtain ⟨_, _, _, hu⟩ := hu; simp only [Instr.makeInterface, Sem.run_bind, run_underlying hu, Result.andThen_ok, Sem.run_pure]; done)
  case makeFunc fn first cap =>
    split at ho
    case h_2 => cases ho
    rename_i f hfst
    cases ho
    obtain rfl := list_nil hfst
    refine ⟨.func (.func f) #[] (cap.map a.eval), w, ρ, .inl (run_pureV _ (by simp [Instr.makeFunc])), .func (by simp) (fun i c hi => ?_), H, .refl ρ w⟩
    simp only [List.getElem?_map, Option.map_eq_some_iff] at hi
    obtain ⟨x, hx, rfl⟩ := hi
    have : (cap.map a.eval).getD i undef = a.eval x := by
      have : cap[i]? = some x := by simpa using hx
      simp [Array.getD_eq_getD_getElem?, this]
    rw [this]; exact ev x
  case makeMap t r =>
    have key : ∃ k e, kd E t = some (.map k e) ∧ v = .map p ∧ h' = ins h (Ent.map false []) ∧ (r = none ∨ ∃ x k n, r = some x ∧ F.eval x = .int k n) := by
      split at ho
      · rename_i k e hk hr
        cases ho
        refine ⟨k, e, hk, rfl, rfl, .inl ?_⟩
        cases r with
        | none => rfl
        | some x => cases hr
      · rename_i k e ik n hk hr
        cases ho
        refine ⟨k, e, hk, rfl, rfl, .inr ?_⟩
        cases r with
        | none => cases hr
        | some x => exact ⟨x, ik, n, rfl, by simpa using hr⟩
      · cases ho
    obtain ⟨k, e, hk, rfl, rfl, hr⟩ := key
    have hu := hE.kind hk
    simp only [kindOK] at hu
    have hw : (w.alloc (.map #[] 0)).heap = w.heap.push (.map #[] 0) := rfl
    have g := H.new hi (w' := w.alloc (.map #[] 0)) (by rw [hw]; simp) (fun j hj => by rw [hw, Array.getElem?_push, if_neg (Nat.ne_of_lt hj)]) rfl rfl rfl (loc := .map false w.heap.size) (fun j hj => by simp only [Loc.block, Option.some.injEq] at hj; omega) (e := .map false []) (by simp)
      (fun _ => .map (upd_self ρ p _) ⟨H.base_le, #[], 0, by rw [hw]; simp, rfl, fun i k v hi => by simp at hi⟩)
    refine ⟨.map (some w.heap.size), _, _, .inl (run_pureV _ ?_), .map (upd_self ρ p _), g.1, g.2⟩
    rcases hr with rfl | ⟨x, ik, n, rfl, hx⟩
    · rfl
    · have hx' := ev x
      rw [hx] at hx'
      have := hx'.int_inv
      simp only [Option.map_some, Instr.makeMap, Sem.run_bind, run_underlying hu, Result.andThen_ok, this, asInt, asIntOf, Sem.run_pure]
      rfl
  case makeSlice t n c =>
    have hn := ev n
    have hc := ev c
    split at ho
    case h_2 => cases ho
    rename_i e k1 n' k2 c' hk hn' hc'
    rw [hn'] at hn
    rw [hc'] at hc
    simp only [Option.bind_eq_some_iff] at ho
    obtain ⟨ei, hei, ho⟩ := ho
    split at ho
    · cases ho
    rename_i hcnd
    simp only [not_or, Decidable.not_not, Bool.not_eq_false] at hcnd
    cases ho
    obtain ⟨r, w', ρ', g1, g2, g3, g4⟩ := makeSlice_run (P := P) hE H hi hk hei (k1 := k1) (k2 := k2) (Nat.pos_of_ne_zero hcnd.1) hcnd.2.1 hcnd.2.2.1 hcnd.2.2.2.1 hcnd.2.2.2.2.1 hcnd.2.2.2.2.2.1 hcnd.2.2.2.2.2.2
    rw [← hn.int_inv, ← hc.int_inv] at g1
    exact ⟨r, w', ρ', .inl (run_pureV _ g1), g2, g3, g4⟩
  case slice t x lo hi' mx =>
    simp only [Option.map_eq_some_iff, Prod.mk.injEq] at ho
    obtain ⟨u, hu, rfl, rfl⟩ := ho
    obtain ⟨r, g1, g2⟩ := slice_run hE H hu (ev x) (optOp_rel hf lo).1 (optOp_rel hf lo).2 (optOp_rel hf hi').1 (optOp_rel hf hi').2 (optOp_rel hf mx).1 (optOp_rel hf mx).2
    exact ⟨r, w, ρ, .inl (run_pureV _ g1), g2, H, .refl ρ w⟩
  case fieldAddr t x j =>
    simp only [Option.map_eq_some_iff, Prod.mk.injEq] at ho
    obtain ⟨u, hu, rfl, rfl⟩ := ho
    obtain ⟨r, g1, g2⟩ := fieldAddr_run hE hu (ev x)
    exact ⟨r, w, ρ, .inl (run_pureV _ g1), g2, H, .refl ρ w⟩
  case field t x j =>
    simp only [Option.map_eq_some_iff, Prod.mk.injEq] at ho
    obtain ⟨u, hu, rfl, rfl⟩ := ho
    obtain ⟨r, g1, g2⟩ := field_run hE hu (ev x)
    exact ⟨r, w, ρ, .inl (run_pureV _ g1), g2, H, .refl ρ w⟩
  case indexAddr t x i =>
    simp only [Option.map_eq_some_iff, Prod.mk.injEq] at ho
    obtain ⟨u, hu, rfl, rfl⟩ := ho
    obtain ⟨r, g1, g2⟩ := indexAddr_run hE H hu (ev x) (ev i)
    exact ⟨r, w, ρ, .inl (run_pureV _ g1), g2, H, .refl ρ w⟩
  case index t x i =>
    simp only [Option.map_eq_some_iff, Prod.mk.injEq] at ho
    obtain ⟨u, hu, rfl, rfl⟩ := ho
    obtain ⟨r, g1, g2⟩ := index_run hE hu (ev x) (ev i)
    exact ⟨r, w, ρ, .inl (run_pureV _ g1), g2, H, .refl ρ w⟩
  case lookup t x k ok =>
    simp only [Option.map_eq_some_iff, Prod.mk.injEq] at ho
    obtain ⟨u, hu, rfl, rfl⟩ := ho
    obtain ⟨r, g1, g2⟩ := lookup_run hE H hu (ev x) (ev k)
    exact ⟨r, w, ρ, .inl (run_pureV _ g1), g2, H, .refl ρ w⟩
  case mapUpdate t m k x =>
    simp only [Option.map_eq_some_iff, Prod.mk.injEq] at ho
    obtain ⟨h2, hh, rfl, rfl⟩ := ho
    obtain ⟨w', g1, g2, g3⟩ := mapUpdate_run hE H hh (ev m) (ev k) (ev x)
    exact ⟨undef, w', ρ, .inr ⟨run_pureU _ g1, rfl⟩, undef_rel, g2, g3⟩
  case extract x i =>
    have hx := ev x
    split at ho
    case h_2 => cases ho
    rename_i vs hvs
    rw [hvs] at hx
    simp only [Option.map_eq_some_iff, Prod.mk.injEq] at ho
    obtain ⟨u, hu, rfl, rfl⟩ := ho
    obtain ⟨cs, hc, hlen, hr⟩ := hx.tup_inv
    have hlt : i < cs.size := by rw [← hlen]; exact (List.getElem?_eq_some_iff.1 hu).1
    refine ⟨cs.getD i undef, w, ρ, .inl (run_pureV _ ?_), hr i u hu, H, .refl ρ w⟩
    simp only [hc, Instr.extract, Array.getElem?_eq_getElem hlt, Sem.run_pure]
    simp [Array.getD_eq_getD_getElem?, hlt]
  case call c =>
    obtain ⟨callee, args, argTypes⟩ := c
    cases callee <;> simp only at ho <;> try (cases ho; done)
    rename_i b
    obtain ⟨r, w', ρ', g1, g2, g3, g4⟩ := builtin_run hE H hf hi ty (args.map fun | .const _ => true | _ => false) ho
    exact ⟨r, w', ρ', .inl (by simp only [execOp, resolve, Sem.run_bind, Sem.run_pure, Result.andThen_ok, invoke]; exact g1), g2, g3, g4⟩
end
end Go.Abs
