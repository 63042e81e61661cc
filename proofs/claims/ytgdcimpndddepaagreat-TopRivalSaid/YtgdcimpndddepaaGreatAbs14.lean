/- What is done over a heap with a place left free is done over the heap with the place taken. -/
import Derived.Test.YtgdcimpndddepaaGreatAbs13
namespace Go.Abs
noncomputable section
variable {E : Env} {h h' : Heap} {q : Nat} {e : Ent}

theorem get_mono (hq : h[q]? = some .gone) {b : Nat} {x : Ent} (hb : h[b]? = some x) (hx : x ≠ .gone) : (h.set q e)[b]? = some x := by
  have : b ≠ q := fun hbq => by subst hbq; rw [hq] at hb; cases hb; exact hx rfl
  rw [set_other this, hb]
theorem len_mono : (h.set q e).length = h.length := by simp
theorem set_mono (hq : h[q]? = some .gone) {b : Nat} {x y : Ent} (hb : h[b]? = some x) (hx : x ≠ .gone) : (h.set q e).set b y = (h.set b y).set q e := by
  have : b ≠ q := fun hbq => by subst hbq; rw [hq] at hb; cases hb; exact hx rfl
  exact List.set_comm _ _ (Ne.symm this)
theorem loadP_mono (hq : h[q]? = some .gone) {a : Bool} {sz : Nat} {p v : AV} (hl : loadP h a sz p = some v) : loadP (h.set q e) a sz p = some v := by
  unfold loadP at hl ⊢
  split at hl
  · split at hl
    case h_2 => cases hl
    rename_i hb
    simp only [get_mono hq hb (by simp)]
    exact hl
  · exact hl
  · cases hl
theorem storeP_mono (hq : h[q]? = some .gone) {sz : Nat} {p v : AV} (hs : storeP h sz p v = some h') : storeP (h.set q e) sz p v = some (h'.set q e) := by
  unfold storeP at hs ⊢
  split at hs
  · split at hs
    case h_2 => cases hs
    rename_i hb
    simp only [get_mono hq hb (by simp)]
    split at hs
    case isFalse => cases hs
    rename_i hc
    rw [if_pos hc]
    simp only [Option.map_eq_some_iff] at hs ⊢
    obtain ⟨x, hx, rfl⟩ := hs
    exact ⟨x, hx, set_mono hq hb (by simp)⟩
  · cases hs
theorem items_mono (hq : h[q]? = some .gone) {sz : Nat} {x : AV} {es : List AV} (hi : items h sz x = some es) : items (h.set q e) sz x = some es := by
  unfold items at hi ⊢
  split at hi <;> try exact hi
  split at hi
  case h_2 => cases hi
  rename_i hb
  simp only [get_mono hq hb (by simp)]
  exact hi
theorem newsA_mono (hq : h[q]? = some .gone) {sz : Nat} {x : AV} {es : List AV} (hi : newsA h sz x = some es) : newsA (h.set q e) sz x = some es := by
  unfold newsA at hi ⊢
  split at hi
  · exact hi
  · exact items_mono hq hi
theorem mapM_mono {α β : Type} {f g : α → Option β} (hfg : ∀ a b, f a = some b → g a = some b) : ∀ {l : List α} {r : List β}, l.mapM f = some r → l.mapM g = some r
  | [], r, h => by simpa using h
  | a :: l, r, h => by
    simp only [List.mapM_cons, Option.bind_eq_bind, Option.bind_eq_some_iff, Option.pure_def] at h ⊢
    obtain ⟨b, hb, c, hc, hr⟩ := h
    exact ⟨b, hfg a b hb, c, mapM_mono hfg hc, hr⟩
theorem snap_mono {fr : SM} (hq : h[q]? = some .gone) : ∀ {d : Nat} {v a : AV}, snap fr d h v = some a → snap fr d (h.set q e) v = some a := by
  intro d
  induction d with
  | zero => intro v a hs; cases hs
  | succ d ih =>
    intro v a hs
    unfold snap at hs ⊢
    split at hs
    · split at hs
      · exact hs
      · split at hs
        case h_2 => cases hs
        rename_i hb
        simp only [get_mono hq hb (by simp)]
        split at hs
        case isFalse => cases hs
        rename_i hc
        rw [if_pos hc]
        simp only [Option.map_eq_some_iff] at hs ⊢
        obtain ⟨es, hes, rfl⟩ := hs
        exact ⟨es, mapM_mono (fun a b => ih) hes, rfl⟩
    · simp only [Option.map_eq_some_iff] at hs ⊢
      obtain ⟨es, hes, rfl⟩ := hs
      exact ⟨es, mapM_mono (fun a b => ih) hes, rfl⟩
    · simp only [Option.map_eq_some_iff] at hs ⊢
      obtain ⟨es, hes, rfl⟩ := hs
      exact ⟨es, mapM_mono (fun a b => ih) hes, rfl⟩
    · exact hs
    · exact hs
    · simp only [Option.map_eq_some_iff] at hs ⊢
      obtain ⟨es, hes, rfl⟩ := hs
      exact ⟨es, ih hes, rfl⟩
    all_goals exact hs
theorem foldlM_set {α : Type} {f : Heap → α → Option Heap} (hf : ∀ h a h', f h a = some h' → h[q]? = some .gone → f (h.set q e) a = some (h'.set q e) ∧ h'[q]? = some .gone) : ∀ {l : List α} {h h' : Heap}, l.foldlM f h = some h' → h[q]? = some .gone →
    l.foldlM f (h.set q e) = some (h'.set q e) ∧ h'[q]? = some .gone
  | [], h, h', hl, hq => by simp only [List.foldlM_nil, Option.pure_def, Option.some.injEq] at hl; subst hl; exact ⟨rfl, hq⟩
  | a :: l, h, h', hl, hq => by
    simp only [List.foldlM_cons, Option.bind_eq_bind, Option.bind_eq_some_iff] at hl ⊢
    obtain ⟨h1, h2, h3⟩ := hl
    obtain ⟨g1, g2⟩ := hf _ _ _ h2 hq
    obtain ⟨g3, g4⟩ := foldlM_set hf h3 g2
    exact ⟨⟨_, g1, g3⟩, g4⟩
theorem gone_set (hq : h[q]? = some .gone) {b : Nat} {x y : Ent} (hb : h[b]? = some x) (hx : x ≠ .gone) : (h.set b y)[q]? = some .gone := by
  have : q ≠ b := fun hbq => by subst hbq; rw [hq] at hb; cases hb; exact hx rfl
  rw [set_other this, hq]
theorem freeze_mono : ∀ {d : Nat} {v : AV} {h h' : Heap}, freeze d v h = some h' → h[q]? = some .gone → freeze d v (h.set q e) = some (h'.set q e) ∧ h'[q]? = some .gone := by
  intro d
  induction d with
  | zero => intro v h h' hs; cases hs
  | succ d ih =>
    intro v h h' hs hq
    unfold freeze at hs ⊢
    split at hs
    · split at hs
      · cases hs; exact ⟨rfl, hq⟩
      · split at hs
        case h_2 => cases hs
        rename_i hb
        simp only [get_mono hq hb (by simp)]
        split at hs
        case isFalse => cases hs
        rename_i hc
        rw [if_pos hc, set_mono hq hb (by simp)]
        exact foldlM_set (f := fun h v => freeze d v h) (fun h a h' => ih) hs (gone_set hq hb (by simp))
    · exact foldlM_set (f := fun h v => freeze d v h) (fun h a h' => ih) hs hq
    · exact foldlM_set (f := fun h v => freeze d v h) (fun h a h' => ih) hs hq
    · exact ih hs hq
    · cases hs; exact ⟨rfl, hq⟩

/-- A place for new entries that is not q. -/
structure InsMono (q : Nat) (e : Ent) (p : Nat) (ins : Heap → Ent → Heap) : Prop where
  comm : ∀ (h : Heap) (x : Ent), h[q]? = some .gone → ins (h.set q e) x = (ins h x).set q e
theorem snoc_mono {p : Nat} : InsMono q e p snoc := ⟨fun h x hq => by
  have hlt : q < h.length := (List.getElem?_eq_some_iff.1 hq).1
  simp only [snoc]
  rw [List.set_append_left _ _ hlt]⟩
theorem setAt_mono {p : Nat} (hp : p ≠ q) : InsMono q e p (fun h x => h.set p x) := ⟨fun h x _ => List.set_comm _ _ (Ne.symm hp)⟩

theorem appendA_mono (hq : h[q]? = some .gone) {p : Nat} {ins : Heap → Ent → Heap} (hi : InsMono q e p ins) {t xt : TypeId} {s x v : AV} (ha : appendA E t xt h p ins s x = some (v, h')) : appendA E t xt (h.set q e) p ins s x = some (v, h'.set q e) := by
  unfold appendA at ha ⊢
  split at ha
  case h_2 => cases ha
  split at ha
  · cases ha
  rename_i hnot
  rw [if_neg hnot]
  split at ha
  · cases ha
  split at ha
  · cases ha
  rename_i hz
  simp only [if_neg hz]
  simp only [Option.bind_eq_some_iff] at ha ⊢
  obtain ⟨new, hnew, ha⟩ := ha
  refine ⟨new, newsA_mono hq hnew, ?_⟩
  split at ha
  · split at ha
    case isFalse => cases ha
    rename_i hc
    cases ha
    simp only [if_pos hc, hi.comm h _ hq]
  · split at ha
    case isFalse => cases ha
    rename_i hc
    cases ha
    simp only [if_pos hc, hi.comm h _ hq]
  · split at ha
    case h_2 => cases ha
    rename_i hb
    simp only [get_mono hq hb (by simp)]
    split at ha
    case isFalse => cases ha
    rename_i hc
    simp only [if_pos hc]
    split at ha
    · rename_i hc2
      cases ha
      simp only [if_pos hc2, set_mono hq hb (by simp)]
    · rename_i hc2
      split at ha
      case isFalse => cases ha
      rename_i hc3
      cases ha
      simp only [if_neg hc2, if_pos hc3, set_mono hq hb (by simp)]
  · cases ha
theorem copyA_mono (hq : h[q]? = some .gone) {t : TypeId} {d x v : AV} (ha : copyA E t h d x = some (v, h')) : copyA E t (h.set q e) d x = some (v, h'.set q e) := by
  unfold copyA at ha ⊢
  split at ha
  case h_2 => cases ha
  split at ha
  · cases ha
  split at ha
  · cases ha
  rename_i hz
  simp only [if_neg hz]
  simp only [Option.bind_eq_some_iff] at ha ⊢
  obtain ⟨new, hnew, ha⟩ := ha
  refine ⟨new, newsA_mono hq hnew, ?_⟩
  split at ha
  · cases ha; rfl
  · cases ha; rfl
  · split at ha
    case h_2 => cases ha
    rename_i hb
    simp only [get_mono hq hb (by simp)]
    split at ha
    case isFalse => cases ha
    rename_i hc
    cases ha
    simp only [if_pos hc, set_mono hq hb (by simp)]
  · cases ha
theorem clearA_mono (hq : h[q]? = some .gone) {t : TypeId} {x v : AV} (ha : clearA E t h x = some (v, h')) : clearA E t (h.set q e) x = some (v, h'.set q e) := by
  unfold clearA at ha ⊢
  split at ha
  case h_2 => cases ha
  split at ha
  case h_2 => cases ha
  rename_i hei hb
  simp only [get_mono hq hb (by simp), hei]
  split at ha
  case isFalse => cases ha
  rename_i hc
  cases ha
  simp only [if_pos hc, set_mono hq hb (by simp)]
theorem entriesA_mono (hq : h[q]? = some .gone) {x : AV} {es : List (AV × AV)} (ha : entriesA h x = some es) : entriesA (h.set q e) x = some es := by
  unfold entriesA at ha ⊢
  split at ha
  · exact ha
  · split at ha
    case h_2 => cases ha
    rename_i hb
    simp only [get_mono hq hb (by simp)]
    exact ha
  · cases ha
theorem lookupA_mono (hq : h[q]? = some .gone) {t : TypeId} {x k v : AV} {ok : Bool} (ha : lookupA E t h x k ok = some v) : lookupA E t (h.set q e) x k ok = some v := by
  unfold lookupA at ha ⊢
  split at ha
  case h_2 => cases ha
  split at ha
  case h_2 => cases ha
  rename_i h1 h2
  split at ha
  case isFalse => cases ha
  rename_i hc
  simp only [h1, h2, if_pos hc]
  simp only [Option.bind_eq_some_iff] at ha ⊢
  obtain ⟨es, hes, ha⟩ := ha
  exact ⟨es, entriesA_mono hq hes, ha⟩
theorem mapUpdateA_mono (hq : h[q]? = some .gone) {t : TypeId} {m k v : AV} (ha : mapUpdateA E t h m k v = some h') : mapUpdateA E t (h.set q e) m k v = some (h'.set q e) := by
  unfold mapUpdateA at ha ⊢
  split at ha
  case h_2 => cases ha
  split at ha
  case h_2 => cases ha
  rename_i h1
  split at ha
  case isFalse => cases ha
  rename_i hc
  split at ha
  case h_2 => cases ha
  rename_i hb
  simp only [h1, if_pos hc, get_mono hq hb (by simp)]
  simp only [Option.map_eq_some_iff] at ha ⊢
  obtain ⟨r, hr, rfl⟩ := ha
  refine ⟨r, hr, ?_⟩
  cases r with
  | none => exact set_mono hq hb (by simp)
  | some p => exact set_mono hq hb (by simp)
theorem lenA_mono (hq : h[q]? = some .gone) {k : TK} {x : AV} {n : Int} (ha : lenA h k x = some n) : lenA (h.set q e) k x = some n := by
  unfold lenA at ha ⊢
  split at ha <;> try exact ha
  split at ha
  case h_2 => cases ha
  rename_i hb
  simp only [get_mono hq hb (by simp)]
  exact ha
theorem convA_mono (hq : h[q]? = some .gone) {s d : TypeId} {x v : AV} (ha : convA E s d h x = some (v, h')) : convA E s d (h.set q e) x = some (v, h'.set q e) := by
  unfold convA at ha ⊢
  split at ha
  · cases ha; rfl
  · cases ha; rfl
  · split at ha
    case h_2 => cases ha
    rename_i hei
    split at ha
    case isFalse => cases ha
    rename_i hc
    cases ha
    simp only [if_pos hc]
  · split at ha
    case h_2 => cases ha
    simp only [Option.bind_eq_some_iff, Option.map_eq_some_iff, Prod.mk.injEq] at ha ⊢
    obtain ⟨es, hes, bs, hbs, rfl, rfl⟩ := ha
    exact ⟨es, items_mono hq hes, bs, hbs, rfl, rfl⟩
  · cases ha
theorem sliceA_mono (hq : h[q]? = some .gone) {t : TypeId} {x v : AV} {lo hi mx : Option AV} (ha : sliceA E t h x lo hi mx = some v) : sliceA E t (h.set q e) x lo hi mx = some v := by
  cases x
  case ref b g s n =>
    simp only [sliceA] at ha ⊢
    cases hk : kd E t with
    | none => simp only [hk] at ha; cases ha
    | some k =>
      simp only [hk] at ha
      cases k <;> try (cases ha; done)
      rename_i e1
      dsimp only at ha ⊢
      cases hei : E.ti e1 with
      | none => simp only [hei] at ha; cases ha
      | some ei =>
        simp only [hei] at ha
        cases mx with
        | some m => exact ha
        | none =>
          dsimp only at ha ⊢
          cases hb : h[b]? with
          | none => simp only [hb] at ha; cases ha
          | some x =>
            cases x <;> simp only [hb] at ha <;> try (cases ha; done)
            rw [get_mono hq hb (by simp)]
            exact ha
  all_goals
    rcases hk : kd E t with _ | k
    · simp only [sliceA, hk] at ha; cases ha
    · cases k <;> simp only [sliceA, hk] at ha ⊢ <;> first
        | exact ha
        | (cases ha; done)
        | (split at ha <;> first | exact ha | (cases ha; done) | (rename_i hei; simp only [hei]; exact ha))
theorem indexAddrA_mono (hq : h[q]? = some .gone) {t : TypeId} {x i v : AV} (ha : indexAddrA E t h x i = some v) : indexAddrA E t (h.set q e) x i = some v := by
  unfold indexAddrA at ha ⊢
  split at ha
  case h_2 => cases ha
  split at ha
  · split at ha
    case h_2 => cases ha
    rename_i h1 hb
    simp only [h1, get_mono hq hb (by simp)]
    exact ha
  · exact ha
  · exact ha
  · cases ha
theorem builtinA_mono (hq : h[q]? = some .gone) {p : Nat} {ins : Heap → Ent → Heap} (hi : InsMono q e p ins) {b : Builtin} {ts : Array TypeId} {xs : List AV} {v : AV} (ha : builtinA E h p ins b ts xs = some (v, h')) : builtinA E (h.set q e) p ins b ts xs = some (v, h'.set q e) := by
  unfold builtinA at ha ⊢
  split at ha
  · rename_i hts hxs
    simp only [Option.bind_eq_some_iff, Option.map_eq_some_iff, Prod.mk.injEq] at ha ⊢
    obtain ⟨k, hk, n, hn, rfl, rfl⟩ := ha
    exact ⟨k, hk, n, lenA_mono hq hn, rfl, rfl⟩
  · exact appendA_mono hq hi ha
  · exact copyA_mono hq ha
  · exact clearA_mono hq ha
  · simp only [Option.map_eq_some_iff, Prod.mk.injEq] at ha ⊢
    obtain ⟨k, hk, rfl, rfl⟩ := ha
    exact ⟨k, hk, rfl, rfl⟩
  · simp only [Option.map_eq_some_iff, Prod.mk.injEq] at ha ⊢
    obtain ⟨k, hk, rfl, rfl⟩ := ha
    exact ⟨k, hk, rfl, rfl⟩
  · cases ha
end
end Go.Abs
