/- Stores, append, copy, clear. -/
import Derived.Test.YtgdcimpndddepaaGreatAbs5
import Derived.Laws.Append
import Derived.Laws.AppendOwnNone
namespace Go.Abs
noncomputable section
variable {P : Program} {E : Env} {w : World} {N : Nat → Prop} {ρ : RMap} {base : Nat} {h : Heap}

/-! ### Cells of elements -/
theorem mul_add_lt {i n j s : Nat} (hi : i < n) (hj : j < s) : i * s + j < n * s := by
  have : (i + 1) * s ≤ n * s := Nat.mul_le_mul_right _ hi
  rw [Nat.add_mul] at this
  omega
theorem mul_add_inj {i i' j j' s : Nat} (hj : j < s) (hj' : j' < s) (h : i * s + j = i' * s + j') : i = i' ∧ j = j' := by
  have hs : 0 < s := by omega
  have h1 : (i * s + j) / s = i := by rw [Nat.mul_comm, Nat.mul_add_div hs, Nat.div_eq_of_lt hj]; rfl
  have h2 : (i' * s + j') / s = i' := by rw [Nat.mul_comm, Nat.mul_add_div hs, Nat.div_eq_of_lt hj']; rfl
  have : i = i' := by rw [← h1, ← h2, h]
  subst this
  exact ⟨rfl, by omega⟩
/-- The cells of the elements, one after another. -/
def flat (es : List AV) : List AV := es.flatMap AV.cells
theorem flat_length {es : List AV} {sz : Nat} (hs : ∀ (i : Nat) (e : AV), es[i]? = some e → e.cells.length = sz) : (flat es).length = es.length * sz := by
  induction es with
  | nil => simp [flat]
  | cons e r ih =>
    have h0 := hs 0 e (by simp)
    have := ih fun i e h => hs (i + 1) e (by simpa using h)
    simp only [flat, List.flatMap_cons, List.length_append, List.length_cons] at this ⊢
    rw [this, h0, Nat.add_mul]; omega
theorem flat_get {es : List AV} {sz : Nat} (hs : ∀ (i : Nat) (e : AV), es[i]? = some e → e.cells.length = sz) : ∀ (i j : Nat) (e c : AV), es[i]? = some e → e.cells[j]? = some c → (flat es)[i * sz + j]? = some c := by
  induction es with
  | nil => intro i j e c h; simp at h
  | cons x r ih =>
    intro i j e c hi hj
    have h0 := hs 0 x (by simp)
    simp only [flat, List.flatMap_cons]
    cases i with
    | zero =>
      simp only [List.getElem?_cons_zero, Option.some.injEq] at hi; subst hi
      have : j < x.cells.length := (List.getElem?_eq_some_iff.1 hj).1
      rw [Nat.zero_mul, Nat.zero_add, List.getElem?_append_left this, hj]
    | succ i =>
      simp only [List.getElem?_cons_succ] at hi
      rw [List.getElem?_append_right (by rw [h0, Nat.add_mul]; omega), h0]
      have e1 : (i + 1) * sz + j - sz = i * sz + j := by rw [Nat.add_mul]; omega
      rw [e1]
      exact ih (fun i e h => hs (i + 1) e (by simpa using h)) i j e c hi hj
theorem row_cells {M : Nat → Prop} {es : List AV} {sz cb off : Nat} (hpos : 0 < sz) (hs : ∀ (i : Nat) (e : AV), es[i]? = some e → e.cells.length = sz)
    (hc : ∀ (i j : Nat) (e c : AV), es[i]? = some e → e.cells[j]? = some c → ∃ v, w.cell? ⟨cb, off + i * sz + j, none⟩ = some v ∧ VRel w M ρ c v) :
    ∃ news : List Value, news.length = es.length * sz ∧ (∀ (k : Nat) (u : Value), news[k]? = some u → w.cell? ⟨cb, off + k, none⟩ = some u) ∧
      (∀ (i j : Nat) (e c : AV), es[i]? = some e → e.cells[j]? = some c → VRel w M ρ c (news.getD (i * sz + j) undef)) := by
  refine ⟨(List.range (es.length * sz)).map fun k => (w.cell? ⟨cb, off + k, none⟩).getD undef, by simp, fun k u hk => ?_, fun i j e c hi hj => ?_⟩
  · simp only [List.getElem?_map, Option.map_eq_some_iff] at hk
    obtain ⟨k', hk', rfl⟩ := hk
    have hlt : k < es.length * sz := by have := (List.getElem?_eq_some_iff.1 hk').1; simpa using this
    have : k' = k := by rw [List.getElem?_range hlt] at hk'; simpa using hk'.symm
    subst this
    have hi : k' / sz < es.length := (Nat.div_lt_iff_lt_mul hpos).2 hlt
    have he := List.getElem?_eq_getElem hi
    have hj : k' % sz < es[k' / sz].cells.length := by rw [hs _ _ he]; exact Nat.mod_lt _ hpos
    obtain ⟨v, hv, _⟩ := hc _ _ _ _ he (List.getElem?_eq_getElem hj)
    have e1 : off + k' / sz * sz + k' % sz = off + k' := by rw [Nat.add_assoc, Nat.mul_comm, Nat.div_add_mod]
    rw [e1] at hv
    simp [hv]
  · obtain ⟨v, hv, hr⟩ := hc i j e c hi hj
    have hlt : i * sz + j < es.length * sz := mul_add_lt (List.getElem?_eq_some_iff.1 hi).1 (by rw [← hs i e hi]; exact (List.getElem?_eq_some_iff.1 hj).1)
    have : ((List.range (es.length * sz)).map fun k => (w.cell? ⟨cb, off + k, none⟩).getD undef).getD (i * sz + j) undef = v := by
      simp [List.getD_eq_getElem?_getD, hlt, ← Nat.add_assoc, hv]
    rw [this]; exact hr
/-- A slice whose elements are told: its form, and its cells. -/
theorem items_run (H : HRel N base ρ h w) {sz : Nat} {x : AV} {es : List AV} {cx : Value} (hpos : 0 < sz) (hx : items h sz x = some es) (hr : VRel w (Mut N ρ) ρ x cx) :
    ∃ (a : Option Addr) (cap : Nat) (news : List Value), cx = .slice a es.length cap ∧ news.length = es.length * sz ∧ (∀ (i : Nat) (e : AV), es[i]? = some e → e.cells.length = sz) ∧
      (∀ (i j : Nat) (e c : AV), es[i]? = some e → e.cells[j]? = some c → VRel w (Mut N ρ) ρ c (news.getD (i * sz + j) undef)) ∧
      (es ≠ [] → ∃ cb off, a = some ⟨cb, off, none⟩ ∧ ∀ (k : Nat) (u : Value), news[k]? = some u → w.cell? ⟨cb, off + k, none⟩ = some u) := by
  have empty : ∀ (a : Option Addr) (cap : Nat), cx = .slice a 0 cap → es = [] → ∃ (a : Option Addr) (cap : Nat) (news : List Value), cx = .slice a es.length cap ∧ news.length = es.length * sz ∧ (∀ (i : Nat) (e : AV), es[i]? = some e → e.cells.length = sz) ∧
      (∀ (i j : Nat) (e c : AV), es[i]? = some e → e.cells[j]? = some c → VRel w (Mut N ρ) ρ c (news.getD (i * sz + j) undef)) ∧
      (es ≠ [] → ∃ cb off, a = some ⟨cb, off, none⟩ ∧ ∀ (k : Nat) (u : Value), news[k]? = some u → w.cell? ⟨cb, off + k, none⟩ = some u) := by
    intro a cap hc he
    subst he
    exact ⟨a, cap, [], hc, by simp, fun i e hi => by simp at hi, fun i j e c hi => by simp at hi, fun h => absurd rfl h⟩
  cases x with
  | nil => simp only [items, Option.some.injEq] at hx; cases hr; exact empty none 0 rfl hx.symm
  | emp => simp only [items, Option.some.injEq] at hx; cases hr; exact empty _ 0 rfl hx.symm
  | lst l =>
    simp only [items] at hx
    split at hx
    · rename_i hall
      simp only [Option.some.injEq] at hx; subst hx
      have hall' : ∀ (i : Nat) (e : AV), l[i]? = some e → e.cells.length = sz := fun i e hi => by
        have := List.all_eq_true.1 hall e (List.mem_of_getElem? hi)
        simpa using this
      cases hr with
      | lst0 a cap => exact empty a cap rfl rfl
      | @lst _ sz' es cb off n cap val hn hcap hM hlt hs hc hv =>
        subst hn
        by_cases hl : l = []
        · subst hl; exact empty _ cap rfl rfl
        · have : sz' = sz := by
            cases l with
            | nil => exact absurd rfl hl
            | cons e r => rw [← hs 0 e (by simp), hall' 0 e (by simp)]
          subst this
          obtain ⟨news, h1, h2, h3⟩ := row_cells (w := w) (ρ := ρ) (M := Mut N ρ) (off := off) (cb := cb) hpos hall' (fun i j e c hi hj => ⟨val i j, hc i j e c hi hj, (hv i j e c hi hj).mono (fun _ _ _ => rfl) (Nat.le_refl _) (fun _ _ h => h) (fun _ _ h => by cases h)⟩)
          exact ⟨_, cap, news, rfl, h1, hall', h3, fun _ => ⟨cb, off, rfl, h2⟩⟩
    · cases hx
  | ref b g s n =>
    simp only [items] at hx
    cases hb : h[b]? with
    | none => simp [hb] at hx
    | some ent =>
      cases ent with
      | map ro es => simp [hb] at hx
      | gone => simp [hb] at hx
      | row ro z es0 =>
        simp only [hb] at hx
        split at hx
        · rename_i hz
          obtain ⟨rfl, hg⟩ := hz
          simp only [Option.some.injEq] at hx
          rcases H.row hb with ⟨l, hl1, hl2, hl3, hrow⟩ | ⟨hl1, rfl, _, _⟩
          · subst hl3
            have hget : ∀ (i : Nat) (e : AV), es[i]? = some e → es0[s + i]? = some e := fun i e hi => by
              rw [← hx, List.getElem?_take] at hi
              split at hi
              · rwa [List.getElem?_drop] at hi
              · cases hi
            have hsz : ∀ (i : Nat) (e : AV), es[i]? = some e → e.cells.length = l.sz := fun i e hi => hrow.size _ _ (hget i e hi)
            obtain ⟨news, h1, h2, h3⟩ := row_cells (w := w) (ρ := ρ) (M := Mut N ρ) (off := l.co + s * l.sz) (cb := l.cb) hpos hsz (fun i j e c hi hj => by
              have := hrow.cell (s + i) j e c (hget i e hi) hj
              rwa [Nat.add_mul, ← Nat.add_assoc] at this)
            cases hr with
            | @ref _ _ _ _ ro' l' hq hn hc =>
              rw [hl1] at hq; cases hq
              have hlen : es.length = n := by rw [← hx]; simp; omega
              refine ⟨_, _, news, by rw [hlen], h1, hsz, h3, fun _ => ⟨_, _, rfl, h2⟩⟩
            | @refEnd _ _ _ ro' l' a hq hs hc =>
              rw [hl1] at hq; cases hq
              exact empty a 0 rfl (by rw [← hx]; simp)
            | refVirt a hq => rw [hl1] at hq; cases hq
            | refOld a cap hq hlt => rw [hl1] at hq; cases hq; omega
          · cases hr with
            | ref hq => rw [hl1] at hq; cases hq
            | refEnd a hq => rw [hl1] at hq; cases hq
            | refVirt a hq => exact empty a 0 rfl (by rw [← hx]; simp)
            | refOld a cap hq => rw [hl1] at hq; cases hq
        · cases hx
  | _ => simp [items] at hx

/-! ### Stores -/
theorem one_of_all {M : Nat → Prop} {vs : List AV} {us : Array Value} (ho : vs.all AV.one = true) (hn : vs.length = us.size) (hv : ∀ (i : Nat) (c : AV), vs[i]? = some c → VRel w M ρ c (us.getD i undef)) : ∀ u ∈ us.toList, u.oneCell' = true := by
  intro u hu
  obtain ⟨i, hi, rfl⟩ := List.getElem_of_mem hu
  have hi' : i < vs.length := by rw [hn]; simpa using hi
  have h1 := hv i _ (List.getElem?_eq_getElem hi')
  have h2 := List.all_eq_true.1 ho _ (List.getElem_mem hi')
  have h3 := h1.one h2
  have h4 : i < us.size := by rw [← hn]; exact hi'
  simpa [Array.getD_eq_getD_getElem?, h4] using h3
theorem cells_rel {M : Nat → Prop} {v : AV} {c : Value} (hv : VRel w M ρ v c) (ht : ∀ cs, v ≠ .tup cs) (hu : v ≠ .unk) : v.cells.length = c.cells.size ∧ ∀ (i : Nat) (x : AV), v.cells[i]? = some x → VRel w M ρ x (c.cells.getD i undef) := by
  have single : ∀ {v : AV} {c : Value}, VRel w M ρ v c → v.cells = [v] → c.cells = #[c] → v.cells.length = c.cells.size ∧ ∀ (i : Nat) (x : AV), v.cells[i]? = some x → VRel w M ρ x (c.cells.getD i undef) := by
    intro v c h h1 h2
    rw [h1, h2]
    refine ⟨rfl, fun i x hx => ?_⟩
    cases i with
    | zero => simp only [List.getElem?_cons_zero, Option.some.injEq] at hx; subst hx; simpa using h
    | succ i => simp at hx
  cases hv with
  | agg hn hv => exact ⟨hn, hv⟩
  | tup hn hv => exact absurd rfl (ht _)
  | unk v => exact absurd rfl hu
  | bool b => exact single (.bool b) rfl rfl
  | int k n => exact single (.int k n) rfl rfl
  | str s => exact single (.str s) rfl rfl
  | nilptr => exact single .nilptr rfl rfl
  | ptr h => exact single (.ptr h) rfl rfl
  | ptrOld a h1 h2 => exact single (.ptrOld a h1 h2) rfl rfl
  | iptr val h1 h2 h3 h4 => exact single (.iptr val h1 h2 h3 h4) rfl rfl
  | nil => exact single .nil rfl rfl
  | emp a => exact single (.emp a) rfl rfl
  | lst0 a c => exact single (.lst0 a c) rfl rfl
  | lst val h1 h2 h3 h4 h5 h6 h7 => exact single (.lst val h1 h2 h3 h4 h5 h6 h7) rfl rfl
  | ref h1 h2 h3 => exact single (.ref h1 h2 h3) rfl rfl
  | refEnd a h1 h2 h3 => exact single (.refEnd a h1 h2 h3) rfl rfl
  | refVirt a h1 => exact single (.refVirt a h1) rfl rfl
  | refOld a c h1 h2 h3 h4 => exact single (.refOld a c h1 h2 h3 h4) rfl rfl
  | func h1 h2 => exact single (.func h1 h2) rfl rfl
  | nilfunc => exact single .nilfunc rfl rfl
  | map h1 => exact single (.map h1) rfl rfl
  | nilmap => exact single .nilmap rfl rfl
  | iface h1 => exact single (.iface h1) rfl rfl
  | niliface => exact single .niliface rfl rfl
theorem setE1_get {e' x : AV} {o : Nat} {vs : List AV} (hx : x.cells = [x]) (hm : setE1 o vs = some e') : o + vs.length ≤ x.cells.length ∧ e'.cells.length = x.cells.length ∧
    ∀ j, e'.cells[j]? = if j < o then x.cells[j]? else if j < o + vs.length then vs[j - o]? else x.cells[j]? := by
  unfold setE1 at hm
  split at hm
  · cases hm
  · rename_i v hv
    cases hm
    have hv' : e'.cells = [e'] ∨ ∃ cs, e' = .agg cs := by cases e' <;> first | exact .inl rfl | exact .inr ⟨_, rfl⟩
    rcases hv' with hv' | ⟨cs, rfl⟩
    · rw [hx, hv']
      refine ⟨by simp, rfl, fun j => ?_⟩
      cases j <;> simp
    · exact absurd rfl (hv cs)
  · cases hm
theorem setE_get {e e' : AV} {o : Nat} {vs : List AV} (h : setE e o vs = some e') : o + vs.length ≤ e.cells.length ∧ e'.cells.length = e.cells.length ∧
    ∀ j, e'.cells[j]? = if j < o then e.cells[j]? else if j < o + vs.length then vs[j - o]? else e.cells[j]? := by
  cases e with
  | agg cs =>
    simp only [setE] at h
    split at h
    · rename_i ho
      cases h
      exact ⟨ho, splice_length cs o vs ho, fun j => splice_get cs o vs ho j⟩
    · cases h
  | tup cs => simp [setE] at h
  | _ => exact setE1_get rfl h
theorem take_splice_get (cur : List Value) (o : Nat) (vs : List Value) (ho : o + vs.length ≤ cur.length) (k : Nat) : (cur.take o ++ vs ++ cur.drop (o + vs.length))[k]? = if k < o then cur[k]? else if k < o + vs.length then vs[k - o]? else cur[k]? := by
  have h1 : (cur.take o).length = o := by simp; omega
  by_cases hi : k < o
  · rw [if_pos hi, List.append_assoc, List.getElem?_append_left (by omega), List.getElem?_take, if_pos hi]
  · rw [if_neg hi, List.append_assoc, List.getElem?_append_right (by omega), h1]
    by_cases hi2 : k < o + vs.length
    · rw [if_pos hi2, List.getElem?_append_left (by omega)]
    · rw [if_neg hi2, List.getElem?_append_right (by omega), List.getElem?_drop]
      congr 1; omega
/-- Cells of a row, as its memory holds them. -/
theorem RowAt.getD {M : Nat → Prop} {l : RowLoc} {es : List AV} {cells : Array Value} {t : TypeId} (hr : RowAt w M ρ base l es) (hb : w.heap[l.cb]? = some (.cells cells t (0, 0))) (i j : Nat) (e c : AV) (hi : es[i]? = some e) (hj : e.cells[j]? = some c) :
    VRel w M ρ c (cells.getD (l.co + i * l.sz + j) undef) ∧ l.co + i * l.sz + j < cells.size := by
  obtain ⟨v, hv, hrel⟩ := hr.cell i j e c hi hj
  rw [cell_of_row w l.cb _ cells t (0, 0) hb] at hv
  have := (Array.getElem?_eq_some_iff.1 hv).1
  exact ⟨by simpa [Array.getD_eq_getD_getElem?, hv] using hrel, this⟩
theorem store_run (hE : EnvOK P E) (H : HRel N base ρ h w) {t : TypeId} {i : TI} (ht : E.ti t = some i) {p v : AV} {cp cv : Value} {h' : Heap} (hs : storeP h i.size p v = some h') (hp : VRel w (Mut N ρ) ρ p cp) (hv : VRel w (Mut N ρ) ρ v cv) :
    ∃ w', (Instr.storeAt t cp cv).run P w = .ok () w' ∧ HRel N base ρ h' w' ∧ Adv ρ w ρ w' := by
  cases p with
  | ptr b g i' o =>
    simp only [storeP] at hs
    cases hb : h[b]? with
    | none => simp [hb] at hs
    | some ent =>
      cases ent with
      | map ro es => simp [hb] at hs
      | gone => simp [hb] at hs
      | row ro sz es =>
        cases ro with
        | true => simp [hb] at hs
        | false =>
          simp only [hb] at hs
          split at hs
          · rename_i hg
            obtain ⟨hg, hsz, hone⟩ := hg
            simp only [Option.map_eq_some_iff, Option.bind_eq_some_iff] at hs
            obtain ⟨e', ⟨e, he, hset⟩, rfl⟩ := hs
            obtain ⟨hso, hsl, hsg⟩ := setE_get hset
            rcases H.row hb with ⟨l, hl1, hl2, hl3, hr⟩ | ⟨hl1, rfl, _, _⟩
            case inr => simp at he
            have hcp : cp = .pointer (some ⟨l.cb, l.co + i' * l.sz + o, none⟩) := by
              cases hp with
              | ptr hx => rw [hl1] at hx; cases hx; rfl
              | ptrOld a hx hlt => rw [hl1] at hx; cases hx; omega
            subst hcp
            obtain ⟨cells, ty, hblk, hfit⟩ := hr.block
            have hnt : ∀ cs, v ≠ .tup cs := fun cs hc => by subst hc; simp [AV.cells, AV.one] at hone
            have hnu : v ≠ .unk := fun hc => by subst hc; simp [AV.cells, AV.one] at hone
            obtain ⟨hvn, hvc⟩ := cells_rel hv hnt hnu
            have hei : i' < es.length := (List.getElem?_eq_some_iff.1 he).1
            have hesz := hr.size i' e he
            have hcap := hr.fits
            have hbound : l.co + i' * l.sz + o + v.cells.length ≤ cells.size := by
              have := mul_add_lt (i := i') (n := l.cap) (j := l.sz - 1) (s := l.sz) (by omega) (by have := hr.pos; omega)
              omega
            have hst := run_storeCells_at P l.cb (l.co + i' * l.sz + o) ty cv.cells.toList 0 cells w hblk (by simp only [Array.length_toList, Nat.add_zero]; rw [← hvn]; exact hbound) (one_of_all hone hvn hvc)
            simp only [Nat.add_zero] at hst
            have hk := hE.ti t i ht
            refine ⟨_, by
              simp only [Instr.storeAt, Instr.sureAddr, storeVar, Sem.run_bind, Sem.run_pure, Result.andThen_ok, hk.size]
              rw [if_neg (by rw [← hvn, hsz]; simp)]
              exact hst, ?_⟩
            have key := H.writeRow hb hl1 hblk (cells' := (cells.toList.take (l.co + i' * l.sz + o) ++ cv.cells.toList ++ cells.toList.drop (l.co + i' * l.sz + o + cv.cells.toList.length)).toArray)
              (by simp only [List.size_toArray, List.length_append, List.length_take, List.length_drop, Array.length_toList]; omega)
              (es' := es.set i' e') (by simp) (by simpa using hr.fits)
              (fun j x hj => by
                rw [List.getElem?_set] at hj
                split at hj
                · rename_i hij; subst hij
                  cases hj; rw [hsl]; exact hesz
                · exact hr.size j x hj)
              (fun j q x c hj hq => by
                have hgetD : ∀ k, (cells.toList.take (l.co + i' * l.sz + o) ++ cv.cells.toList ++ cells.toList.drop (l.co + i' * l.sz + o + cv.cells.toList.length)).toArray.getD k undef =
                    ((if k < l.co + i' * l.sz + o then cells.toList[k]? else if k < l.co + i' * l.sz + o + cv.cells.toList.length then cv.cells.toList[k - (l.co + i' * l.sz + o)]? else cells.toList[k]?).getD undef) := fun k => by
                  rw [← take_splice_get cells.toList _ cv.cells.toList (by simp only [Array.length_toList]; omega) k]
                  simp [Array.getD_eq_getD_getElem?]
                rw [hgetD]
                have hlen : cv.cells.toList.length = v.cells.length := by simp [hvn]
                rw [hlen]
                rw [List.getElem?_set] at hj
                have hqs : q < l.sz := by
                  have hx : x.cells.length = l.sz := by
                    split at hj
                    · rename_i hij; subst hij
                      cases hj; rw [hsl]; exact hesz
                    · exact hr.size j x hj
                  rw [← hx]; exact (List.getElem?_eq_some_iff.1 hq).1
                by_cases hij : i' = j
                · subst hij
                  rw [if_pos rfl, if_pos hei] at hj
                  cases hj
                  rw [hsg q] at hq
                  by_cases h1 : q < o
                  · rw [if_pos h1] at hq
                    rw [if_pos (by omega)]
                    have := (hr.getD hblk i' q e c he hq).1
                    simpa [Array.getD_eq_getD_getElem?] using this
                  · rw [if_neg h1] at hq
                    rw [if_neg (by omega)]
                    by_cases h2 : q < o + v.cells.length
                    · rw [if_pos h2] at hq
                      rw [if_pos (by omega)]
                      have := hvc _ c hq
                      have e1 : l.co + i' * l.sz + q - (l.co + i' * l.sz + o) = q - o := by omega
                      rw [e1]
                      simpa [Array.getD_eq_getD_getElem?] using this
                    · rw [if_neg h2] at hq
                      rw [if_neg (by omega)]
                      have := (hr.getD hblk i' q e c he hq).1
                      simpa [Array.getD_eq_getD_getElem?] using this
                · rw [if_neg hij] at hj
                  have hold := (hr.getD hblk j q x c hj hq).1
                  have hne : ∀ m, m < l.sz → l.co + j * l.sz + q ≠ l.co + i' * l.sz + m := fun m hm he => by
                    have := mul_add_inj hqs hm (i := j) (i' := i') (by omega)
                    exact hij this.1.symm
                  have hcase : ¬ (¬ (l.co + j * l.sz + q < l.co + i' * l.sz + o) ∧ l.co + j * l.sz + q < l.co + i' * l.sz + o + v.cells.length) := fun ⟨h1, h2⟩ => by
                    refine hne (l.co + j * l.sz + q - (l.co + i' * l.sz)) (by omega) (by omega)
                  by_cases h1 : l.co + j * l.sz + q < l.co + i' * l.sz + o
                  · rw [if_pos h1]; simpa [Array.getD_eq_getD_getElem?] using hold
                  · rw [if_neg h1, if_neg (fun h2 => hcase ⟨h1, h2⟩)]
                    simpa [Array.getD_eq_getD_getElem?] using hold)
            have hsame : upd ρ b (.row false { l with cur := (es.set i' e').length }) = ρ := upd_same (by rw [hl1]; simp [← hl2])
            rw [hsame] at key
            exact key
          · cases hs
  | _ => simp [storeP] at hs

/-! ### Elements overwritten -/
theorem over_get (es new : List AV) (q : Nat) (hq : q ≤ es.length) (i : Nat) : (es.take q ++ new ++ es.drop (q + new.length))[i]? = if i < q then es[i]? else if i < q + new.length then new[i - q]? else es[i]? := by
  have h1 : (es.take q).length = q := by simp; omega
  by_cases hi : i < q
  · rw [if_pos hi, List.append_assoc, List.getElem?_append_left (by omega), List.getElem?_take, if_pos hi]
  · rw [if_neg hi, List.append_assoc, List.getElem?_append_right (by omega), h1]
    by_cases hi2 : i < q + new.length
    · rw [if_pos hi2, List.getElem?_append_left (by omega)]
    · rw [if_neg hi2, List.getElem?_append_right (by omega), List.getElem?_drop]
      congr 1; omega
theorem over_length (es new : List AV) (q : Nat) (hq : q ≤ es.length) : (es.take q ++ new ++ es.drop (q + new.length)).length = if q + new.length ≤ es.length then es.length else q + new.length := by
  simp only [List.length_append, List.length_take, List.length_drop]
  split <;> omega
theorem HRel.overwrite (H : HRel N base ρ h w) {b sz : Nat} {es : List AV} (hb : h[b]? = some (.row false sz es)) {l : RowLoc} (hl : ρ b = some (.row false l)) {cells : Array Value} {t : TypeId}
    (hblk : w.heap[l.cb]? = some (.cells cells t (0, 0))) {q : Nat} {new : List AV} (hq : q ≤ es.length) (hcap : q + new.length ≤ l.cap) {news : List Value} (hn : news.length = new.length * l.sz)
    (hs : ∀ (i : Nat) (e : AV), new[i]? = some e → e.cells.length = l.sz)
    (hc : ∀ (i j : Nat) (e c : AV), new[i]? = some e → e.cells[j]? = some c → VRel w (Mut N ρ) ρ c (news.getD (i * l.sz + j) undef)) :
    HRel N base (upd ρ b (.row false { l with cur := (es.take q ++ new ++ es.drop (q + new.length)).length })) (h.set b (.row false sz (es.take q ++ new ++ es.drop (q + new.length))))
      (w.setRow l.cb (cells.toList.take (l.co + q * l.sz) ++ news ++ cells.toList.drop (l.co + q * l.sz + news.length)).toArray) ∧
    Adv ρ w (upd ρ b (.row false { l with cur := (es.take q ++ new ++ es.drop (q + new.length)).length }))
      (w.setRow l.cb (cells.toList.take (l.co + q * l.sz) ++ news ++ cells.toList.drop (l.co + q * l.sz + news.length)).toArray) := by
  rcases H.row hb with ⟨l2, h1, h2, h3, hr⟩ | ⟨h1, _⟩
  case inr => rw [h1] at hl; cases hl
  rw [h1] at hl; cases hl
  obtain ⟨cells0, t0, hblk0, hfit⟩ := hr.block
  rw [hblk] at hblk0; cases hblk0
  have hmul : (q + new.length) * l.sz ≤ l.cap * l.sz := Nat.mul_le_mul_right _ hcap
  rw [Nat.add_mul, ← hn] at hmul
  have hbound : l.co + q * l.sz + news.length ≤ cells.toList.length := by simp only [Array.length_toList]; omega
  have hfits := hr.fits
  have hlen := over_length es new q hq
  refine H.writeRow hb h1 hblk (by simp only [List.size_toArray, List.length_append, List.length_take, List.length_drop, Array.length_toList] at *; omega) (by rw [hlen]; split <;> omega) (by rw [hlen]; split <;> omega)
    (fun i e hi => ?_) (fun i j e c hi hj => ?_)
  · rw [over_get es new q hq] at hi
    split at hi
    · exact hr.size i e hi
    · split at hi
      · exact hs _ e hi
      · exact hr.size i e hi
  · have hsz : e.cells.length = l.sz := by
      rw [over_get es new q hq] at hi
      split at hi
      · exact hr.size i e hi
      · split at hi
        · exact hs _ e hi
        · exact hr.size i e hi
    have hjs : j < l.sz := by rw [← hsz]; exact (List.getElem?_eq_some_iff.1 hj).1
    have hgetD : ∀ k, (cells.toList.take (l.co + q * l.sz) ++ news ++ cells.toList.drop (l.co + q * l.sz + news.length)).toArray.getD k undef =
        ((if k < l.co + q * l.sz then cells.toList[k]? else if k < l.co + q * l.sz + news.length then news[k - (l.co + q * l.sz)]? else cells.toList[k]?).getD undef) := fun k => by
      rw [← take_splice_get cells.toList _ news hbound k]
      simp [Array.getD_eq_getD_getElem?]
    rw [hgetD]
    rw [over_get es new q hq] at hi
    by_cases h4 : i < q
    · rw [if_pos h4] at hi
      have := mul_add_lt h4 hjs
      rw [if_pos (by omega)]
      simpa [Array.getD_eq_getD_getElem?] using (hr.getD hblk i j e c hi hj).1
    · rw [if_neg h4] at hi
      have e1 : i * l.sz = q * l.sz + (i - q) * l.sz := by rw [← Nat.add_mul]; congr 1; omega
      rw [if_neg (by omega)]
      by_cases h5 : i < q + new.length
      · rw [if_pos h5] at hi
        have h6 := mul_add_lt (i := i - q) (n := new.length) (by omega) hjs
        rw [if_pos (by omega)]
        have e2 : l.co + i * l.sz + j - (l.co + q * l.sz) = (i - q) * l.sz + j := by omega
        rw [e2]
        simpa [List.getD_eq_getElem?_getD] using hc (i - q) j e c hi hj
      · rw [if_neg h5] at hi
        have h6 : new.length * l.sz ≤ (i - q) * l.sz := Nat.mul_le_mul_right _ (by omega)
        rw [if_neg (by omega)]
        simpa [Array.getD_eq_getD_getElem?] using (hr.getD hblk i j e c hi hj).1
end
end Go.Abs
