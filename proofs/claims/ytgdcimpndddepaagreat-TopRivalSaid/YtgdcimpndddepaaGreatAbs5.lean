/- Operations that read memory, and what is built of parts. -/
import Derived.Test.YtgdcimpndddepaaGreatAbs4
import Derived.Laws.NewBlocks
namespace Go.Abs
noncomputable section
variable {P : Program} {E : Env} {w : World} {N : Nat → Prop} {ρ : RMap} {base : Nat} {h : Heap}

/-! ### What stands in a row -/
theorem HRel.row {b : Nat} {ro : Bool} {sz : Nat} {es : List AV} (H : HRel N base ρ h w) (hb : h[b]? = some (.row ro sz es)) :
    (∃ l, ρ b = some (.row ro l) ∧ l.cur = es.length ∧ l.sz = sz ∧ RowAt w (Mut N ρ) ρ base l es) ∨ (ρ b = some .virt ∧ es = [] ∧ ro = false ∧ 0 < sz) := by
  cases H.ent b _ hb (by simp) with
  | row h1 h2 h3 => exact .inl ⟨_, h1, h2, rfl, h3⟩
  | virt h1 h2 => exact .inr ⟨h1, rfl, rfl, h2⟩
theorem HRel.mapAt {b : Nat} {ro : Bool} {es : List (AV × AV)} (H : HRel N base ρ h w) (hb : h[b]? = some (.map ro es)) : ∃ r, ρ b = some (.map ro r) ∧ MapAt w (Mut N ρ) ρ base r es := by
  cases H.ent b _ hb (by simp) with
  | map h1 h2 => exact ⟨_, h1, h2⟩
theorem addr_add (cb off : Nat) (n : Nat) : (⟨cb, off, none⟩ : Addr).add n = ⟨cb, off + n, none⟩ := by
  unfold Addr.add
  split <;> simp_all
/-- A run of cells that are told. -/
theorem run_loadVar_cells (hE : EnvOK P E) {t : TypeId} {i : TI} (ht : E.ti t = some i) {e v : AV} {o cb off : Nat}
    (hc : ∀ (j : Nat) (c : AV), e.cells[j]? = some c → ∃ u, w.cell? ⟨cb, off + j, none⟩ = some u ∧ VRel w (Mut N ρ) ρ c u) (hl : loadE i.k.isAgg i.size e o = some v) :
    ∃ r, (loadVar t ⟨cb, off + o, none⟩).run P w = .ok r w ∧ VRel w (Mut N ρ) ρ v r := by
  have hk := hE.ti t i ht
  unfold loadVar
  simp only [Sem.run_bind, hk.kind.agg, Result.andThen_ok]
  unfold loadE at hl
  cases ha : i.k.isAgg with
  | false =>
    simp only [ha, cond_false] at hl
    obtain ⟨u, hu, hr⟩ := hc o v hl
    exact ⟨u, by simp [hu], hr⟩
  | true =>
    simp only [ha, cond_true] at hl
    cases e with
    | agg cs =>
      have key : ∀ (oo : Nat) (xs : List AV), xs.length = i.size → (∀ (j : Nat) (c : AV), xs[j]? = some c → cs[oo + j]? = some c) → ∃ r, (loadCells ⟨cb, off + oo, none⟩ i.size).run P w = .ok r w ∧ VRel w (Mut N ρ) ρ (.agg xs) (.agg r) := by
        intro oo xs hx hget
        let f : Nat → Value := fun j => (w.cell? ⟨cb, off + oo + j, none⟩).getD undef
        have hf : ∀ j, j < i.size → w.cell? ((⟨cb, off + oo, none⟩ : Addr).add j) = some (f j) := by
          intro j hj
          rw [addr_add]
          obtain ⟨u, hu, _⟩ := hc (oo + j) (xs[j]'(by omega)) (hget j _ (by simp [hx ▸ hj]))
          simp only [Nat.add_assoc] at hu ⊢
          simp only [f, Nat.add_assoc, hu, Option.getD_some]
        refine ⟨_, run_loadCells w _ i.size f hf, .agg (by simp [hx]) fun j c hj => ?_⟩
        have hlt : j < i.size := by rw [← hx]; exact (List.getElem?_eq_some_iff.1 hj).1
        obtain ⟨u, hu, hr⟩ := hc (oo + j) c (hget j c hj)
        simp only [← Nat.add_assoc] at hu
        have : ((List.range i.size).map f).toArray.getD j undef = u := by
          simp [Array.getD_eq_getD_getElem?, hlt, f, hu]
        rw [this]; exact hr
      simp only at hl
      split at hl
      · rename_i h0
        obtain ⟨rfl, hsz⟩ := h0
        cases hl
        obtain ⟨r, hr, hv⟩ := key 0 cs hsz (fun j c hj => by simpa using hj)
        simp only [Nat.add_zero] at hr
        exact ⟨_, by simp [hk.size, hr], hv⟩
      · split at hl
        · rename_i ho
          cases hl
          obtain ⟨r, hr, hv⟩ := key o ((cs.drop o).take i.size) (by simp; omega) (fun j c hj => by
            rw [List.getElem?_take] at hj
            split at hj
            · rwa [List.getElem?_drop] at hj
            · cases hj)
          exact ⟨_, by simp [hk.size, hr], hv⟩
        · cases hl
    | _ => simp at hl
theorem load_run (hE : EnvOK P E) (H : HRel N base ρ h w) {t : TypeId} {i : TI} (ht : E.ti t = some i) {p v : AV} {cp : Value} (hl : loadP h i.k.isAgg i.size p = some v) (hp : VRel w (Mut N ρ) ρ p cp) :
    ∃ r, (Instr.loadAt t cp).run P w = .ok r w ∧ VRel w (Mut N ρ) ρ v r := by
  cases p with
  | ptr b g i' o =>
    simp only [loadP] at hl
    cases hb : h[b]? with
    | none => simp [hb] at hl
    | some ent =>
      cases ent with
      | row ro sz es =>
        simp only [hb] at hl
        split at hl
        · rename_i hg
          rcases H.row hb with ⟨l, hl1, hl2, hl3, hr⟩ | ⟨hl1, rfl, _, _⟩
          · cases he : es[i']? with
            | none => simp [he] at hl
            | some e =>
              simp only [he, Option.bind_some] at hl
              have hcell : ∀ (j : Nat) (c : AV), e.cells[j]? = some c → ∃ u, w.cell? ⟨l.cb, l.co + i' * l.sz + j, none⟩ = some u ∧ VRel w (Mut N ρ) ρ c u := fun j c hj => hr.cell i' j e c he hj
              obtain ⟨r, hrun, hv⟩ := run_loadVar_cells hE ht hcell hl
              refine ⟨r, ?_, hv⟩
              cases hp with
              | ptr hx =>
                rw [hl1] at hx; cases hx
                simpa [Instr.loadAt, Instr.sureAddr] using hrun
              | ptrOld a hx hlt =>
                rw [hl1] at hx; cases hx
                omega
          · simp at hl
        · cases hl
      | map ro es => simp [hb] at hl
      | gone => simp [hb] at hl
  | iptr e o =>
    simp only [loadP] at hl
    cases hp with
    | iptr val hM hlt hc hv =>
      have hcell : ∀ (j : Nat) (c : AV), e.cells[j]? = some c → ∃ u, w.cell? ⟨_, _ + j, none⟩ = some u ∧ VRel w (Mut N ρ) ρ c u := fun j c hj =>
        ⟨val j, hc j c hj, (hv j c hj).mono (fun _ _ _ => rfl) (Nat.le_refl _) (fun _ _ h => h) (fun _ _ h => by cases h)⟩
      obtain ⟨r, hrun, hv⟩ := run_loadVar_cells hE ht hcell hl
      exact ⟨r, by simpa [Instr.loadAt, Instr.sureAddr] using hrun, hv⟩
  | _ => simp [loadP] at hl

/-! ### Built of parts -/
theorem splice_get (l : List AV) (o : Nat) (vs : List AV) (ho : o + vs.length ≤ l.length) (i : Nat) : (splice l o vs)[i]? = if i < o then l[i]? else if i < o + vs.length then vs[i - o]? else l[i]? := by
  unfold splice
  have h1 : (l.take o).length = o := by simp; omega
  by_cases hi : i < o
  · rw [if_pos hi, List.append_assoc, List.getElem?_append_left (by omega), List.getElem?_take, if_pos hi]
  · rw [if_neg hi, List.append_assoc, List.getElem?_append_right (by omega), h1]
    by_cases hi2 : i < o + vs.length
    · rw [if_pos hi2, List.getElem?_append_left (by omega)]
    · rw [if_neg hi2, List.getElem?_append_right (by omega), List.getElem?_drop]
      congr 1; omega
theorem splice_length (l : List AV) (o : Nat) (vs : List AV) (ho : o + vs.length ≤ l.length) : (splice l o vs).length = l.length := by
  simp [splice]; omega

/-! ### What is written -/
def upd (ρ : RMap) (p : Nat) (loc : Loc) : RMap := fun b => if b = p then some loc else ρ b
theorem upd_self (ρ : RMap) (p : Nat) (loc : Loc) : upd ρ p loc p = some loc := by simp [upd]
theorem upd_ne (ρ : RMap) {p b : Nat} (loc : Loc) (h : b ≠ p) : upd ρ p loc b = ρ b := by simp [upd, h]
/-- Where a new entry may be put. -/
structure InsOK (h : Heap) (p : Nat) (ins : Heap → Ent → Heap) : Prop where
  free : h[p]? = none ∨ h[p]? = some .gone
  put : ∀ e, (ins h e)[p]? = some e
  other : ∀ e b, b ≠ p → (ins h e)[b]? = h[b]? ∨ (h[b]? = none ∧ (ins h e)[b]? = some .gone)
/-- A new entry, its memory (if it has any) new. -/
theorem HRel.new (H : HRel N base ρ h w) {p : Nat} {ins : Heap → Ent → Heap} (hi : InsOK h p ins) {w' : World} (hsz : w.heap.size ≤ w'.heap.size)
    (keep : ∀ k, k < w.heap.size → w'.heap[k]? = w.heap[k]?) (h1 : w'.os = w.os) (h2 : w'.tape = w.tape) (h3 : w'.output = w.output) {loc : Loc} (hnew : ∀ k, loc.block = some k → w.heap.size ≤ k) {e : Ent} (he : e ≠ .gone)
    (hrel : Adv ρ w (upd ρ p loc) w' → EntRel w' (Mut N (upd ρ p loc)) (upd ρ p loc) base p e) : HRel N base (upd ρ p loc) (ins h e) w' ∧ Adv ρ w (upd ρ p loc) w' := by
  have hp : ρ p = none := H.out p hi.free
  have hadv : Adv ρ w (upd ρ p loc) w' := by
    refine ⟨fun b l hb => ?_, hsz, fun k hk _ => keep k hk, fun k hk ho => ?_, h1, h2, h3⟩
    · have hbp : b ≠ p := fun h => by rw [h, hp] at hb; cases hb
      rw [upd_ne ρ loc hbp, hb]; exact .same l
    · obtain ⟨b, l, hb, hl⟩ := ho
      by_cases hbp : b = p
      · subst hbp; rw [upd_self] at hb; cases hb
        have := hnew k (Loc.owns_lies hl); omega
      · rw [upd_ne ρ loc hbp] at hb; exact ⟨b, l, hb, hl⟩
  refine ⟨H.step p hadv (fun b hb => upd_ne ρ loc hb) (fun b hb => hi.other e b hb) (fun k hk _ => keep k hk) ⟨e, hi.put e, he, hrel hadv⟩ (fun k hk => .inr ?_), hadv⟩
  obtain ⟨l, hl, hlk⟩ := hk
  rw [upd_self] at hl; cases hl
  exact hnew k hlk
theorem heap_drewN (w : World) : w.drew.heap = w.heap := rfl
/-- A new row: the cells of its elements stand at the head of a new block. -/
theorem HRel.newRow (H : HRel N base ρ h w) {p : Nat} {ins : Heap → Ent → Heap} (hi : InsOK h p ins) {w' : World} {cells : Array Value} {t : TypeId} {sz cap : Nat} {es : List AV}
    (hw : w'.heap = w.heap.push (.cells cells t (0, 0))) (h1 : w'.os = w.os) (h2 : w'.tape = w.tape) (h3 : w'.output = w.output) (hpos : 0 < sz) (hcap : es.length ≤ cap) (hsz : cap * sz ≤ cells.size)
    (hes : ∀ (i : Nat) (e : AV), es[i]? = some e → e.cells.length = sz)
    (hc : ∀ (i j : Nat) (e c : AV), es[i]? = some e → e.cells[j]? = some c → VRel w (Mut N ρ) ρ c (cells.getD (i * sz + j) undef)) :
    HRel N base (upd ρ p (.row false ⟨es.length, w.heap.size, 0, cap, sz⟩)) (ins h (.row false sz es)) w' ∧ Adv ρ w (upd ρ p (.row false ⟨es.length, w.heap.size, 0, cap, sz⟩)) w' ∧
    ∀ s n, s + n ≤ es.length → VRel w' (Mut N (upd ρ p (.row false ⟨es.length, w.heap.size, 0, cap, sz⟩))) (upd ρ p (.row false ⟨es.length, w.heap.size, 0, cap, sz⟩)) (.ref p es.length s n) (.slice (some ⟨w.heap.size, s * sz, none⟩) n (cap - s)) := by
  have hblock : w'.heap[w.heap.size]? = some (.cells cells t (0, 0)) := by rw [hw]; simp
  have hkeep : ∀ k, k < w.heap.size → w'.heap[k]? = w.heap[k]? := fun k hk => by rw [hw, Array.getElem?_push, if_neg (Nat.ne_of_lt hk)]
  have key := H.new hi (w' := w') (by rw [hw]; simp) hkeep h1 h2 h3 (loc := .row false ⟨es.length, w.heap.size, 0, cap, sz⟩) (by simp [Loc.block]) (e := .row false sz es) (by simp) (fun hadv => by
    refine EntRel.row (l := ⟨es.length, w.heap.size, 0, cap, sz⟩) (upd_self ρ p _) rfl ⟨hpos, hcap, H.base_le, ⟨cells, t, hblock, by simpa using hsz⟩, hes, fun i j e c hi hj => ?_⟩
    have hlt : i * sz + j < cells.size := by
      have hi' : i < es.length := (List.getElem?_eq_some_iff.1 hi).1
      have hj' : j < sz := by rw [← hes i e hi]; exact (List.getElem?_eq_some_iff.1 hj).1
      have : (i + 1) * sz ≤ cap * sz := Nat.mul_le_mul_right _ (by omega)
      rw [Nat.add_mul] at this
      omega
    refine ⟨cells.getD (i * sz + j) undef, ?_, (hc i j e c hi hj).adv hadv⟩
    rw [cell_of_row w' w.heap.size _ cells t (0, 0) hblock]
    simp [Array.getD_eq_getD_getElem?, hlt])
  refine ⟨key.1, key.2, fun s n hsn => ?_⟩
  have := VRel.ref (w := w') (M := Mut N (upd ρ p (.row false ⟨es.length, w.heap.size, 0, cap, sz⟩))) (ρ := upd ρ p (.row false ⟨es.length, w.heap.size, 0, cap, sz⟩)) (b := p) (s := s) (n := n) (l := ⟨es.length, w.heap.size, 0, cap, sz⟩) (upd_self ρ p _) hsn hcap
  simpa using this
theorem upd_same {ρ : RMap} {p : Nat} {loc : Loc} (h : ρ p = some loc) : upd ρ p loc = ρ := by
  funext b
  unfold upd
  split
  · rename_i hb; rw [hb, h]
  · rfl
theorem set_get {h : Heap} {b : Nat} {e0 e : Ent} (hb : h[b]? = some e0) : (h.set b e)[b]? = some e := by
  have := (List.getElem?_eq_some_iff.1 hb).1
  simp [this]
theorem set_other {h : Heap} {b k : Nat} {e : Ent} (hk : k ≠ b) : (h.set b e)[k]? = h[k]? := by
  rw [List.getElem?_set]; simp [Ne.symm hk]
/-- A row's memory is written; it may have become longer. -/
theorem HRel.writeRow (H : HRel N base ρ h w) {b sz : Nat} {es : List AV} (hb : h[b]? = some (.row false sz es)) {l : RowLoc} (hl : ρ b = some (.row false l)) {cells cells' : Array Value} {t : TypeId}
    (hblk : w.heap[l.cb]? = some (.cells cells t (0, 0))) (hsize : cells'.size = cells.size) {es' : List AV} (hle : es.length ≤ es'.length) (hcap : es'.length ≤ l.cap)
    (hes : ∀ (i : Nat) (e : AV), es'[i]? = some e → e.cells.length = l.sz)
    (hc : ∀ (i j : Nat) (e c : AV), es'[i]? = some e → e.cells[j]? = some c → VRel w (Mut N ρ) ρ c (cells'.getD (l.co + i * l.sz + j) undef)) :
    HRel N base (upd ρ b (.row false { l with cur := es'.length })) (h.set b (.row false sz es')) (w.setRow l.cb cells') ∧ Adv ρ w (upd ρ b (.row false { l with cur := es'.length })) (w.setRow l.cb cells') := by
  rcases H.row hb with ⟨l2, h1, h2, h3, hr⟩ | ⟨h1, _⟩
  case inr => rw [h1] at hl; cases hl
  rw [h1] at hl; cases hl
  have hadv : Adv ρ w (upd ρ b (.row false { l with cur := es'.length })) (w.setRow l.cb cells') := by
    refine ⟨fun q loc hq => ?_, by simp, fun k hk hn => setRow_other w l.cb k cells' fun he => hn ⟨b, _, h1, he.symm⟩, fun k hk ho => ?_, rfl, rfl, rfl⟩
    · by_cases hqb : q = b
      · subst hqb
        rw [h1] at hq; cases hq
        rw [upd_self]
        rcases Nat.lt_or_ge l.cur es'.length with hlt | hge
        · exact .grown hlt
        · have : es'.length = l.cur := by omega
          rw [this]; exact .same _
      · rw [upd_ne ρ _ hqb, hq]; exact .same loc
    · obtain ⟨q, loc, hq, hlo⟩ := ho
      by_cases hqb : q = b
      · subst hqb; rw [upd_self] at hq; cases hq; exact ⟨q, _, h1, hlo⟩
      · rw [upd_ne ρ _ hqb] at hq; exact ⟨q, loc, hq, hlo⟩
  have hnew : (w.setRow l.cb cells').heap[l.cb]? = some (.cells cells' t (0, 0)) := setRow_heap w l.cb cells cells' t (0, 0) hblk
  obtain ⟨cells0, t0, hblk0, hsz0⟩ := hr.block
  rw [hblk] at hblk0; cases hblk0
  refine ⟨H.step b hadv (fun q hq => upd_ne ρ _ hq) (fun q hq => .inl (set_other hq)) (fun k hk hn => setRow_other w l.cb k cells' fun he => hn ⟨_, h1, by simp [Loc.block, he]⟩) ⟨_, set_get hb, by simp, ?_⟩ (fun k hk => .inl ?_), hadv⟩
  · subst h3
    refine EntRel.row (l := { l with cur := es'.length }) (upd_self ρ b _) rfl ⟨hr.pos, hcap, hr.base_le, ⟨cells', t, hnew, by rw [hsize]; exact hsz0⟩, hes, fun i j e c hi hj => ?_⟩
    have hlt : l.co + i * l.sz + j < cells'.size := by
      have hi' : i < es'.length := (List.getElem?_eq_some_iff.1 hi).1
      have hj' : j < l.sz := by rw [← hes i e hi]; exact (List.getElem?_eq_some_iff.1 hj).1
      have : (i + 1) * l.sz ≤ l.cap * l.sz := Nat.mul_le_mul_right _ (by omega)
      rw [Nat.add_mul] at this
      omega
    refine ⟨cells'.getD (l.co + i * l.sz + j) undef, ?_, (hc i j e c hi hj).adv hadv⟩
    show (w.setRow l.cb cells').cell? ⟨l.cb, l.co + i * l.sz + j, none⟩ = _
    rw [cell_of_row (w.setRow l.cb cells') l.cb _ cells' t (0, 0) hnew]
    simp [Array.getD_eq_getD_getElem?, hlt]
  · obtain ⟨loc, hloc, hk⟩ := hk
    rw [upd_self] at hloc; cases hloc
    exact ⟨_, h1, hk⟩
/-- A row moves into a new block, and becomes longer. -/
theorem HRel.moveRow (H : HRel N base ρ h w) {b sz : Nat} {es : List AV} (hb : h[b]? = some (.row false sz es)) {w' : World} {cells : Array Value} {t : TypeId} {cap : Nat} {es' : List AV}
    (hw : w'.heap = w.heap.push (.cells cells t (0, 0))) (h1 : w'.os = w.os) (h2 : w'.tape = w.tape) (h3 : w'.output = w.output) (hlt : es.length < es'.length) (hcap : es'.length ≤ cap) (hsz : cap * sz ≤ cells.size)
    (hes : ∀ (i : Nat) (e : AV), es'[i]? = some e → e.cells.length = sz)
    (hc : ∀ (i j : Nat) (e c : AV), es'[i]? = some e → e.cells[j]? = some c → VRel w (Mut N ρ) ρ c (cells.getD (i * sz + j) undef)) :
    HRel N base (upd ρ b (.row false ⟨es'.length, w.heap.size, 0, cap, sz⟩)) (h.set b (.row false sz es')) w' ∧ Adv ρ w (upd ρ b (.row false ⟨es'.length, w.heap.size, 0, cap, sz⟩)) w' := by
  have hold : (∃ l, ρ b = some (.row false l) ∧ l.cur = es.length ∧ 0 < sz) ∨ (ρ b = some .virt ∧ 0 < sz) := by
    rcases H.row hb with ⟨l2, h1, h2, h3, hr⟩ | ⟨h1, _, _, h2⟩
    · exact .inl ⟨l2, h1, h2, by rw [← h3]; exact hr.pos⟩
    · exact .inr ⟨h1, h2⟩
  have hpos : 0 < sz := by rcases hold with ⟨_, _, _, h⟩ | ⟨_, h⟩ <;> exact h
  have hblock : w'.heap[w.heap.size]? = some (.cells cells t (0, 0)) := by rw [hw]; simp
  have hkeep : ∀ k, k < w.heap.size → w'.heap[k]? = w.heap[k]? := fun k hk => by rw [hw, Array.getElem?_push, if_neg (Nat.ne_of_lt hk)]
  have hadv : Adv ρ w (upd ρ b (.row false ⟨es'.length, w.heap.size, 0, cap, sz⟩)) w' := by
    refine ⟨fun q loc hq => ?_, by rw [hw]; simp, fun k hk _ => hkeep k hk, fun k hk ho => ?_, h1, h2, h3⟩
    · by_cases hqb : q = b
      · subst hqb
        rw [upd_self]
        rcases hold with ⟨l, h1, h2, _⟩ | ⟨h1, _⟩
        · rw [h1] at hq; cases hq
          exact .grown (by simpa [h2] using hlt)
        · rw [h1] at hq; cases hq
          exact .laid (by simp; omega)
      · rw [upd_ne ρ _ hqb, hq]; exact .same loc
    · obtain ⟨q, loc, hq, hlo⟩ := ho
      by_cases hqb : q = b
      · subst hqb; rw [upd_self] at hq; cases hq
        simp only [Loc.owns] at hlo; omega
      · rw [upd_ne ρ _ hqb] at hq; exact ⟨q, loc, hq, hlo⟩
  refine ⟨H.step b hadv (fun q hq => upd_ne ρ _ hq) (fun q hq => .inl (set_other hq)) (fun k hk _ => hkeep k hk) ⟨_, set_get hb, by simp, ?_⟩ (fun k hk => .inr ?_), hadv⟩
  · refine EntRel.row (l := ⟨es'.length, w.heap.size, 0, cap, sz⟩) (upd_self ρ b _) rfl ⟨hpos, hcap, H.base_le, ⟨cells, t, hblock, by simpa using hsz⟩, hes, fun i j e c hi hj => ?_⟩
    have hl' : i * sz + j < cells.size := by
      have hi' : i < es'.length := (List.getElem?_eq_some_iff.1 hi).1
      have hj' : j < sz := by rw [← hes i e hi]; exact (List.getElem?_eq_some_iff.1 hj).1
      have : (i + 1) * sz ≤ cap * sz := Nat.mul_le_mul_right _ (by omega)
      rw [Nat.add_mul] at this
      omega
    refine ⟨cells.getD (i * sz + j) undef, ?_, (hc i j e c hi hj).adv hadv⟩
    rw [cell_of_row w' w.heap.size _ cells t (0, 0) hblock]
    simp [Array.getD_eq_getD_getElem?, hl']
  · obtain ⟨l, hl, hlk⟩ := hk
    rw [upd_self] at hl; cases hl
    simp only [Loc.block, Option.some.injEq] at hlk; omega
/-- An empty row that has no memory yet. -/
theorem HRel.newVirt (H : HRel N base ρ h w) {p : Nat} {ins : Heap → Ent → Heap} (hi : InsOK h p ins) {sz : Nat} (hsz : 0 < sz) :
    HRel N base (upd ρ p .virt) (ins h (.row false sz [])) w ∧ Adv ρ w (upd ρ p .virt) w :=
  H.new hi (Nat.le_refl _) (fun _ _ => rfl) rfl rfl rfl (loc := .virt) (fun k hk => by simp [Loc.block] at hk) (by simp) (fun _ => .virt (upd_self ρ p _) hsz)
end
end Go.Abs
