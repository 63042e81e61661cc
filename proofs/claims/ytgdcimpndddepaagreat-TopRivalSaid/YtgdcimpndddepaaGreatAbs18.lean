/- Calls: what is given, what comes back. -/
import Derived.Test.YtgdcimpndddepaaGreatAbs17
namespace Go.Abs
noncomputable section
variable {P : Program} {E : Env} {w : World} {N : Nat → Prop} {ρ : RMap} {base : Nat} {h : Heap}

theorem closed_rel {M : Nat → Prop} {ρ' : RMap} : ∀ {d : Nat} {v : AV} {c : Value}, closed? d v = true → VRel w M ρ v c → VRel w M ρ' v c := by
  intro d
  induction d with
  | zero => intro v c hf; cases hf
  | succ d ih =>
    intro v c hf hv
    cases v <;> simp only [closed?, Bool.false_eq_true] at hf
    case bool => rw [hv.bool_inv]; exact .bool _
    case int => rw [hv.int_inv]; exact .int _ _
    case str => rw [hv.str_inv]; exact .str _
    case nilptr => cases hv; exact .nilptr
    case iptr => cases hv with | iptr val hm hlt hc hv => exact .iptr val hm hlt hc hv
    case nil => cases hv; exact .nil
    case emp => cases hv; exact .emp _
    case lst es =>
      cases hv with
      | lst0 a cap => exact .lst0 a cap
      | lst val hn hcap hM hlt hs hc hv => exact .lst val hn hcap hM hlt hs hc hv
    case agg cs =>
      obtain ⟨vs, rfl, hn, hr⟩ := hv.agg_inv
      refine .agg hn fun i c hi => ih ?_ (hr i c hi)
      exact List.all_eq_true.1 hf c (List.mem_of_getElem? hi)
    case tup cs =>
      obtain ⟨vs, rfl, hn, hr⟩ := hv.tup_inv
      refine .tup hn fun i c hi => ih ?_ (hr i c hi)
      exact List.all_eq_true.1 hf c (List.mem_of_getElem? hi)
    case func f cap =>
      have : cap = [] := by simpa using hf
      subst this
      cases hv with
      | func hn hr => exact .func hn fun i c hi => by simp at hi
    case nilfunc => cases hv; exact .nilfunc
    case nilmap => cases hv; exact .nilmap
    case iface t v => cases hv with | iface h => exact .iface (ih hf h)
    case niliface => cases hv; exact .niliface

theorem mapM_get {α β : Type} {f : α → Option β} : ∀ {l : List α} {r : List β}, l.mapM f = some r → r.length = l.length ∧ ∀ (i : Nat) (b : β), r[i]? = some b → ∃ a, l[i]? = some a ∧ f a = some b
  | [], r, h => by simp at h; subst h; exact ⟨rfl, fun i b hb => by simp at hb⟩
  | a :: l, r, h => by
    simp only [List.mapM_cons, Option.bind_eq_bind, Option.bind_eq_some_iff, Option.pure_def, Option.some.injEq] at h
    obtain ⟨b, hb, c, hc, rfl⟩ := h
    obtain ⟨h1, h2⟩ := mapM_get hc
    refine ⟨by simp [h1], fun i x hx => ?_⟩
    cases i with
    | zero => simp only [List.getElem?_cons_zero, Option.some.injEq] at hx; subst hx; exact ⟨a, rfl, hb⟩
    | succ i => simpa using h2 i x (by simpa using hx)
theorem VRel.slice_len {M : Nat → Prop} {b g s n : Nat} {c : Value} (hr : VRel w M ρ (.ref b g s n) c) : ∃ a k, c = .slice a n k := by
  cases hr with
  | ref => exact ⟨_, _, rfl⟩
  | refEnd => exact ⟨_, _, rfl⟩
  | refVirt => exact ⟨_, _, rfl⟩
  | refOld => exact ⟨_, _, rfl⟩
/-- The cells of a snapped element. -/
theorem snap_cells {fr : SM} {d : Nat} {e a : AV} (hs : snap fr d h e = some a) : a.cells.length = e.cells.length ∧ ∀ (j : Nat) (c : AV), a.cells[j]? = some c → ∃ c0 d', d' ≤ d ∧ e.cells[j]? = some c0 ∧ snap fr d' h c0 = some c := by
  cases d with
  | zero => cases hs
  | succ d =>
    by_cases ha : ∃ cs, e = .agg cs
    · obtain ⟨cs, rfl⟩ := ha
      simp only [snap, Option.map_eq_some_iff] at hs
      obtain ⟨es, hes, rfl⟩ := hs
      obtain ⟨h1, h2⟩ := mapM_get hes
      refine ⟨h1, fun j c hj => ?_⟩
      obtain ⟨c0, h3, h4⟩ := h2 j c hj
      exact ⟨c0, d, Nat.le_succ d, h3, h4⟩
    · have he : e.cells = [e] := by cases e <;> first | rfl | exact absurd ⟨_, rfl⟩ ha
      have hac : a.cells = [a] := by
        cases e <;> simp only [snap] at hs <;> try (cases hs; done)
        case agg => exact absurd ⟨_, rfl⟩ ha
        case ref b g s n =>
          cases n with
          | zero => cases hs; rfl
          | succ n =>
            simp only at hs
            split at hs
            · split at hs
              · simp only [Option.map_eq_some_iff] at hs; obtain ⟨_, _, rfl⟩ := hs; rfl
              · cases hs
            · cases hs
        case tup => simp only [Option.map_eq_some_iff] at hs; obtain ⟨_, _, rfl⟩ := hs; rfl
        case iface => simp only [Option.map_eq_some_iff] at hs; obtain ⟨_, _, rfl⟩ := hs; rfl
        case func f cap => split at hs <;> first | (cases hs; rfl) | cases hs
        case lst es => split at hs <;> first | (cases hs; rfl) | cases hs
        case iptr e o => split at hs <;> first | (cases hs; rfl) | cases hs
        all_goals (cases hs; rfl)
      rw [he, hac]
      refine ⟨rfl, fun j c hj => ?_⟩
      cases j with
      | zero =>
        simp only [List.getElem?_cons_zero, Option.some.injEq] at hj; subst hj
        exact ⟨e, d + 1, Nat.le_refl _, rfl, hs⟩
      | succ j => simp at hj
theorem snap_rel (H : HRel N base ρ h w) {fr : SM} {M' : Nat → Prop} (hsub : fr ≠ .own → ∀ k, M' k → Mut N ρ k) (hrow : ∀ b ro l, ρ b = some (.row ro l) → base ≤ l.cb → fr.row ro = true → ¬ M' l.cb) : ∀ (d : Nat) {v a : AV} {c : Value}, snap fr d h v = some a → VRel w (Mut N ρ) ρ v c → VRel w M' RMap.empty a c := by
  have sm : fr ≠ .own → ∀ {v : AV} {c : Value}, VRel w (Mut N ρ) RMap.empty v c → VRel w M' RMap.empty v c := fun hf _ _ hv => hv.mono (fun _ _ _ => rfl) (Nat.le_refl _) (fun k _ hk => hsub hf k hk) (.refl _)
  intro d
  induction d using Nat.strongRecOn with
  | _ d ih =>
    intro v a c hs hv
    cases d with
    | zero => cases hs
    | succ d =>
      have ihd := fun {v a : AV} {c : Value} => ih d (Nat.lt_succ_self d) (v := v) (a := a) (c := c)
      cases v <;> simp only [snap] at hs <;> try (cases hs; done)
      case bool => cases hs; rw [hv.bool_inv]; exact .bool _
      case int => cases hs; rw [hv.int_inv]; exact .int _ _
      case str => cases hs; rw [hv.str_inv]; exact .str _
      case nilptr => cases hs; cases hv; exact .nilptr
      case iptr e o =>
        have hf : fr ≠ .own := fun h => by subst h; cases hs
        have hs : a = .iptr e o := by cases fr <;> simp_all
        subst hs
        cases hv with
        | iptr val hm hlt hc hv => exact .iptr val (fun hk => hm (hsub hf _ hk)) hlt hc fun j c hj => sm hf (hv j c hj)
      case nil => cases hs; cases hv; exact .nil
      case emp => cases hs; cases hv; exact .emp _
      case lst es =>
        cases es with
        | nil =>
          have hs : a = .lst [] := by cases fr <;> simp_all
          subst hs
          cases hv with
          | lst0 a cap => exact .lst0 a cap
          | lst val hn hcap hm hlt hs hc hv => subst hn; exact .lst0 _ _
        | cons e0 es =>
          have hf : fr ≠ .own := fun h => by subst h; cases hs
          have hs : a = .lst (e0 :: es) := by cases fr <;> simp_all
          subst hs
          cases hv with
          | lst val hn hcap hm hlt hs hc hv => exact .lst val hn hcap (fun hk => hm (hsub hf _ hk)) hlt hs hc fun i j e c hi hj => sm hf (hv i j e c hi hj)
      case ref b g s n =>
        cases n with
        | zero =>
          cases hs
          obtain ⟨a, k, rfl⟩ := hv.slice_len
          exact .lst0 a k
        | succ n =>
          simp only at hs
          split at hs
          case h_2 => cases hs
          rename_i ro sz es hb
          split at hs
          case isFalse => cases hs
          rename_i hc
          obtain ⟨hlen, hro⟩ := hc
          simp only [Option.map_eq_some_iff] at hs
          obtain ⟨es', hes, rfl⟩ := hs
          rcases H.row hb with ⟨l, hl1, hl2, hl3, hr⟩ | ⟨hl1, rfl, _, _⟩
          · rcases VRel.slice_old hl1 (by omega) hv with ⟨rfl, hv2⟩ | ⟨_, _, h0, _⟩
            case inr => cases h0
            have hfits := hr.fits
            obtain ⟨m1, m2⟩ := mapM_get hes
            have hsn : s + (n + 1) ≤ l.cur := by omega
            have hel : ∀ (i : Nat) (e : AV), es'[i]? = some e → ∃ e0, es[s + i]? = some e0 ∧ snap fr d h e0 = some e := fun i e hi => by
              obtain ⟨e0, h1, h2⟩ := m2 i e hi
              rw [List.getElem?_take] at h1
              split at h1
              · rw [List.getElem?_drop] at h1; exact ⟨e0, h1, h2⟩
              · cases h1
            have hlies : Lies ρ b l.cb := ⟨_, hl1, rfl⟩
            have hnot : ¬ M' l.cb := hrow b ro l hl1 hr.base_le hro
            have hcells : ∀ (i j : Nat) (e c : AV), es'[i]? = some e → e.cells[j]? = some c → ∃ u, w.cell? ⟨l.cb, l.co + s * l.sz + i * l.sz + j, none⟩ = some u ∧ VRel w M' RMap.empty c u := fun i j e c hi hj => by
              obtain ⟨e0, h1, h2⟩ := hel i e hi
              obtain ⟨_, h3⟩ := snap_cells h2
              obtain ⟨c0, d', h4, h5, h6⟩ := h3 j c hj
              obtain ⟨u, h7, h8⟩ := hr.cell (s + i) j e0 c0 h1 h5
              refine ⟨u, ?_, ih d' (by omega) h6 h8⟩
              rw [← h7, Nat.add_mul]
              congr 2
              omega
            refine .lst (sz := l.sz) (fun i j => (w.cell? ⟨l.cb, l.co + s * l.sz + i * l.sz + j, none⟩).getD undef) ?_ (by omega) hnot (H.lies hlies).2 (fun i e hi => ?_) (fun i j e c hi hj => ?_) (fun i j e c hi hj => ?_)
            · rw [m1, List.length_take, List.length_drop]; omega
            · obtain ⟨e0, h1, h2⟩ := hel i e hi
              rw [(snap_cells h2).1]; exact hr.size _ _ h1
            · obtain ⟨u, h1, _⟩ := hcells i j e c hi hj
              simp only [h1, Option.getD_some]
            · obtain ⟨u, h1, h2⟩ := hcells i j e c hi hj
              simp only [h1, Option.getD_some]; exact h2
          · obtain ⟨_, _, _, h0⟩ := VRel.slice_virt hl1 hv
            cases h0
      case agg cs =>
        simp only [Option.map_eq_some_iff] at hs
        obtain ⟨es, hes, rfl⟩ := hs
        obtain ⟨h1, h2⟩ := mapM_get hes
        obtain ⟨vs, rfl, hn, hr⟩ := hv.agg_inv
        refine .agg (by omega) fun i c hi => ?_
        obtain ⟨c0, h3, h4⟩ := h2 i c hi
        exact ihd h4 (hr i c0 h3)
      case tup cs =>
        simp only [Option.map_eq_some_iff] at hs
        obtain ⟨es, hes, rfl⟩ := hs
        obtain ⟨h1, h2⟩ := mapM_get hes
        obtain ⟨vs, rfl, hn, hr⟩ := hv.tup_inv
        refine .tup (by omega) fun i c hi => ?_
        obtain ⟨c0, h3, h4⟩ := h2 i c hi
        exact ihd h4 (hr i c0 h3)
      case func f cap =>
        split at hs
        · cases hs
          cases hv with
          | func hn hr => exact .func hn fun i c hi => by simp at hi
        · cases hs
      case nilfunc => cases hs; cases hv; exact .nilfunc
      case nilmap => cases hs; cases hv; exact .nilmap
      case iface t v =>
        simp only [Option.map_eq_some_iff] at hs
        obtain ⟨e, he, rfl⟩ := hs
        cases hv with
        | iface hv => exact .iface (ihd he hv)
      case niliface => cases hs; cases hv; exact .niliface

/-! ### Freezing -/
theorem HRel.freezeRow (H : HRel N base ρ h w) {b : Nat} {ro : Bool} {sz : Nat} {es : List AV} (hb : h[b]? = some (.row ro sz es)) (hne : 0 < es.length) : ∃ ρ', HRel N base ρ' (h.set b (.row true sz es)) w ∧ Adv ρ w ρ' w := by
  cases ro with
  | true => rw [set_self hb]; exact ⟨ρ, H, .refl ρ w⟩
  | false =>
    rcases H.row hb with ⟨l, hl1, hl2, hl3, hr⟩ | ⟨hl1, rfl, _, _⟩
    case inr => simp at hne
    have hadv : Adv ρ w (upd ρ b (.row true l)) w := by
      refine ⟨fun k loc hk => ?_, Nat.le_refl _, fun _ _ _ => rfl, fun k hk ho => ?_, rfl, rfl, rfl⟩
      · by_cases hkb : k = b
        · subst hkb; rw [hl1] at hk; cases hk; rw [upd_self]; exact .frozen l
        · rw [upd_ne ρ _ hkb, hk]; exact .same loc
      · obtain ⟨k', loc, h1, h2⟩ := ho
        by_cases hkb : k' = b
        · subst hkb; rw [upd_self] at h1; cases h1; exact h2.elim
        · rw [upd_ne ρ _ hkb] at h1; exact ⟨k', loc, h1, h2⟩
    refine ⟨_, H.step b hadv (fun k hk => upd_ne ρ _ hk) (fun k hk => .inl (set_other hk)) (fun _ _ _ => rfl) ⟨_, set_get hb, by simp, ?_⟩ (fun k hk => .inl ?_), hadv⟩
    · subst hl3
      refine .row (upd_self ρ b _) hl2 ⟨hr.pos, hr.fits, hr.base_le, hr.block, hr.size, fun i j e c hi hj => ?_⟩
      obtain ⟨u, h1, h2⟩ := hr.cell i j e c hi hj
      exact ⟨u, h1, h2.adv hadv⟩
    · obtain ⟨loc, h1, h2⟩ := hk
      rw [upd_self] at h1; cases h1
      exact ⟨_, hl1, h2⟩
theorem fold_freeze {α : Type} {f : Heap → α → Option Heap} (hf : ∀ h a h' ρ, f h a = some h' → HRel N base ρ h w → ∃ ρ', HRel N base ρ' h' w ∧ Adv ρ w ρ' w) : ∀ {l : List α} {h h' : Heap} {ρ : RMap}, l.foldlM f h = some h' → HRel N base ρ h w → ∃ ρ', HRel N base ρ' h' w ∧ Adv ρ w ρ' w
  | [], h, h', ρ, hl, H => by simp only [List.foldlM_nil, Option.pure_def, Option.some.injEq] at hl; subst hl; exact ⟨ρ, H, .refl ρ w⟩
  | a :: l, h, h', ρ, hl, H => by
    simp only [List.foldlM_cons, Option.bind_eq_bind, Option.bind_eq_some_iff] at hl
    obtain ⟨h1, h2, h3⟩ := hl
    obtain ⟨ρ1, g1, g2⟩ := hf _ _ _ _ h2 H
    obtain ⟨ρ2, g3, g4⟩ := fold_freeze hf h3 g1
    exact ⟨ρ2, g3, g2.trans g4⟩
theorem freeze_rel : ∀ {d : Nat} {v : AV} {h h' : Heap} {ρ : RMap}, freeze d v h = some h' → HRel N base ρ h w → ∃ ρ', HRel N base ρ' h' w ∧ Adv ρ w ρ' w := by
  intro d
  induction d with
  | zero => intro v h h' ρ hf; cases hf
  | succ d ih =>
    intro v h h' ρ hf H
    unfold freeze at hf
    split at hf
    · split at hf
      · cases hf; exact ⟨ρ, H, .refl ρ w⟩
      · split at hf
        case h_2 => cases hf
        rename_i hb
        split at hf
        case isFalse => cases hf
        rename_i hc
        obtain ⟨ρ1, g1, g2⟩ := H.freezeRow hb (by omega)
        obtain ⟨ρ2, g3, g4⟩ := fold_freeze (f := fun h v => freeze d v h) (fun h a h' ρ => ih) hf g1
        exact ⟨ρ2, g3, g2.trans g4⟩
    · exact fold_freeze (f := fun h v => freeze d v h) (fun h a h' ρ => ih) hf H
    · exact fold_freeze (f := fun h v => freeze d v h) (fun h a h' ρ => ih) hf H
    · exact ih hf H
    · cases hf; exact ⟨ρ, H, .refl ρ w⟩
end
end Go.Abs
