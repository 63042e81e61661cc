/- What is made: parts put together, new variables, slices, maps. -/
import Derived.Test.YtgdcimpndddepaaGreatAbs8
namespace Go.Abs
noncomputable section
variable {P : Program} {E : Env} {w : World} {N : Nat → Prop} {ρ : RMap} {base : Nat} {h : Heap}

theorem solid_rel {M : Nat → Prop} {v : AV} {c : Value} (hv : VRel w M ρ v c) (hs : v.solid = true) : v.cells.length = c.cells.size ∧ ∀ (i : Nat) (x : AV), v.cells[i]? = some x → VRel w M ρ x (c.cells.getD i undef) :=
  cells_rel hv (fun cs h => by subst h; simp [AV.solid] at hs) (fun h => by subst h; simp [AV.solid] at hs)
inductive All2 {α β : Type} (R : α → β → Prop) : List α → List β → Prop
  | nil : All2 R [] []
  | cons {a : α} {b : β} {l : List α} {m : List β} (h : R a b) (r : All2 R l m) : All2 R (a :: l) (b :: m)
/-! ### Parts -/
theorem fold_set (off : Nat) : ∀ (l : List Value) (s : Nat) (arr : Array Value),
    ((l.zipIdx s).foldl (fun cs (x : Value × Nat) => cs.setIfInBounds (off + x.2) x.1) arr).size = arr.size ∧
    ∀ k, ((l.zipIdx s).foldl (fun cs (x : Value × Nat) => cs.setIfInBounds (off + x.2) x.1) arr)[k]? = if off + s ≤ k ∧ k < off + s + l.length ∧ k < arr.size then l[k - (off + s)]? else arr[k]? := by
  intro l
  induction l with
  | nil => intro s arr; refine ⟨rfl, fun k => ?_⟩; rw [if_neg (by simp; omega)]; rfl
  | cons v r ih =>
    intro s arr
    simp only [List.zipIdx_cons, List.foldl_cons]
    obtain ⟨h1, h2⟩ := ih (s + 1) (arr.setIfInBounds (off + s) v)
    refine ⟨by rw [h1]; simp, fun k => ?_⟩
    rw [h2 k]
    simp only [Array.size_setIfInBounds, List.length_cons]
    by_cases hk : k = off + s
    · subst hk
      rw [if_neg (by omega)]
      by_cases hlt : off + s < arr.size
      · rw [if_pos (by omega)]
        simp [hlt]
      · rw [if_neg (by omega)]
        simp [hlt]
    · by_cases hc : off + (s + 1) ≤ k ∧ k < off + (s + 1) + r.length ∧ k < arr.size
      · rw [if_pos hc, if_pos (by omega)]
        have e1 : k - (off + s) = (k - (off + (s + 1))) + 1 := by omega
        rw [e1, List.getElem?_cons_succ]
      · rw [if_neg hc, if_neg (by omega), Array.getElem?_setIfInBounds_ne (by omega)]
theorem fill_run {M : Nat → Prop} {pa pc : Nat → Option (Nat × Nat)} (hp : ∀ i r, pa i = some r → pc i = some r) : ∀ {ps : List (Nat × AV)} {cps : List (Nat × Value)} {cs cs' : List AV} {arr : Array Value},
    (All2 (fun (x : Nat × AV) (y : Nat × Value) => x.1 = y.1 ∧ VRel w M ρ x.2 y.2) ps cps) → cs.length = arr.size → (∀ (i : Nat) (x : AV), cs[i]? = some x → VRel w M ρ x (arr.getD i undef)) → fillA pa cs ps = some cs' →
    ∃ arr', Instr.fill pc arr cps = some arr' ∧ cs'.length = arr'.size ∧ cs'.length = cs.length ∧ ∀ (i : Nat) (x : AV), cs'[i]? = some x → VRel w M ρ x (arr'.getD i undef) := by
  intro ps
  induction ps with
  | nil =>
    intro cps cs cs' arr hf hn hv h
    cases hf
    simp only [fillA, Option.some.injEq] at h; subst h
    exact ⟨arr, rfl, hn, rfl, hv⟩
  | cons x r ih =>
    intro cps cs cs' arr hf hn hv h
    cases hf with
    | cons hxy hr =>
      rename_i y cr
      obtain ⟨i, v⟩ := x
      obtain ⟨i', c⟩ := y
      obtain ⟨rfl, hvc⟩ := hxy
      simp only at hvc
      simp only [fillA] at h
      cases hpl : pa i with
      | none => simp [hpl] at h
      | some os =>
        obtain ⟨off, size⟩ := os
        simp only [hpl] at h
        split at h
        case isFalse => cases h
        rename_i hc
        obtain ⟨h1, h2, h3⟩ := hc
        obtain ⟨hcn, hcv⟩ := solid_rel hvc h3
        obtain ⟨f1, f2⟩ := fold_set off c.cells.toList 0 arr
        simp only [Nat.add_zero, Array.length_toList] at f1 f2
        have harr : c.cells.zipIdx.foldl (fun cs x => cs.setIfInBounds (off + x.2) x.1) arr = (c.cells.toList.zipIdx 0).foldl (fun cs (x : Value × Nat) => cs.setIfInBounds (off + x.2) x.1) arr := by
          rw [← Array.foldl_toList, Array.toList_zipIdx]
        obtain ⟨arr', g1, g2, g3, g4⟩ := ih (cs := splice cs off v.cells) (arr := c.cells.zipIdx.foldl (fun cs x => cs.setIfInBounds (off + x.2) x.1) arr) hr
          (by rw [splice_length cs off v.cells (by omega), harr, f1, hn]) (fun k x hk => by
            rw [splice_get cs off v.cells (by omega)] at hk
            have hlt : k < cs.length := by
              split at hk
              · exact (List.getElem?_eq_some_iff.1 hk).1
              · split at hk
                · omega
                · exact (List.getElem?_eq_some_iff.1 hk).1
            rw [harr, Array.getD_eq_getD_getElem?, f2 k]
            by_cases h4 : off ≤ k ∧ k < off + c.cells.size ∧ k < arr.size
            · rw [if_pos h4]
              rw [if_neg (by omega), if_pos (by omega)] at hk
              have := hcv _ _ hk
              simpa [Array.getD_eq_getD_getElem?] using this
            · rw [if_neg h4]
              have : cs[k]? = some x := by
                split at hk
                · exact hk
                · split at hk
                  · exfalso; apply h4; omega
                  · exact hk
              simpa [Array.getD_eq_getD_getElem?] using hv k x this) h
        refine ⟨arr', ?_, g2, by rw [g3, splice_length cs off v.cells (by omega)], g4⟩
        simp only [Instr.fill, hp i _ hpl]
        rw [if_neg (by simp; omega)]
        exact g1
theorem flat_set {sz : Nat} : ∀ {es : List AV}, (∀ (i : Nat) (e : AV), es[i]? = some e → e.cells.length = sz) → ∀ {i : Nat} {v : AV}, i < es.length → v.cells.length = sz → flat (es.set i v) = splice (flat es) (i * sz) v.cells := by
  intro es hs i v hi hv
  have hs' : ∀ (j : Nat) (e : AV), (es.set i v)[j]? = some e → e.cells.length = sz := fun j e hj => by
    rw [List.getElem?_set] at hj
    split at hj
    · cases hj; exact hv
    · exact hs j e hj
  have hl := flat_length hs
  have hl' := flat_length hs'
  simp only [List.length_set] at hl'
  have hb : i * sz + v.cells.length ≤ (flat es).length := by
    rw [hl, hv]
    have : (i + 1) * sz ≤ es.length * sz := Nat.mul_le_mul_right _ hi
    rw [Nat.add_mul] at this; omega
  apply List.ext_getElem?
  intro k
  rw [splice_get (flat es) (i * sz) v.cells hb]
  by_cases hk : k < es.length * sz
  · have hpos : 0 < sz := by
      rcases Nat.eq_zero_or_pos sz with h | h
      · subst h; simp at hk
      · exact h
    have hdiv : k / sz < es.length := (Nat.div_lt_iff_lt_mul hpos).2 hk
    have hmod : k % sz < sz := Nat.mod_lt _ hpos
    have hke : k / sz * sz + k % sz = k := by rw [Nat.mul_comm, Nat.div_add_mod]
    have old := List.getElem?_eq_getElem hdiv
    have oldc := List.getElem?_eq_getElem (show k % sz < es[k / sz].cells.length by rw [hs _ _ old]; exact hmod)
    have hold := flat_get hs (k / sz) (k % sz) _ _ old oldc
    rw [hke] at hold
    by_cases hki : k / sz = i
    · have hnew : (es.set i v)[i]? = some v := by simp [hi]
      have hvc := List.getElem?_eq_getElem (show k % sz < v.cells.length by omega)
      have := flat_get hs' i (k % sz) _ _ hnew hvc
      rw [← hki, hke] at this
      rw [← hki, this, if_neg (by omega), if_pos (by omega)]
      have e1 : k - k / sz * sz = k % sz := by omega
      rw [e1, hvc]
    · have hnew : (es.set i v)[k / sz]? = some es[k / sz] := by rw [List.getElem?_set_ne (Ne.symm hki)]; exact old
      have := flat_get hs' (k / sz) (k % sz) _ _ hnew oldc
      rw [hke] at this
      rw [this]
      by_cases h1 : k < i * sz
      · rw [if_pos h1, hold]
      · rw [if_neg h1]
        have h2 : ¬ k < i * sz + v.cells.length := fun h2 => by
          apply hki
          exact (mul_add_inj hmod (show k - i * sz < sz by omega) (i := k / sz) (i' := i) (by omega)).1
        rw [if_neg h2, hold]
  · rw [List.getElem?_eq_none (by omega), if_neg (by omega), if_neg (by omega), List.getElem?_eq_none (by omega)]
theorem fillS_fillA {sz : Nat} : ∀ {ps : List (Nat × AV)} {es es' : List AV}, (∀ (i : Nat) (e : AV), es[i]? = some e → e.cells.length = sz) → fillS sz es ps = some es' →
    fillA (fun i => some (i * sz, sz)) (flat es) ps = some (flat es') ∧ es'.length = es.length ∧ ∀ (i : Nat) (e : AV), es'[i]? = some e → e.cells.length = sz := by
  intro ps
  induction ps with
  | nil => intro es es' hs h; simp only [fillS, Option.some.injEq] at h; subst h; exact ⟨rfl, rfl, hs⟩
  | cons x r ih =>
    intro es es' hs h
    obtain ⟨i, v⟩ := x
    simp only [fillS] at h
    split at h
    case isFalse => cases h
    rename_i hc
    obtain ⟨h1, h2, h3⟩ := hc
    have hs' : ∀ (j : Nat) (e : AV), (es.set i v)[j]? = some e → e.cells.length = sz := fun j e hj => by
      rw [List.getElem?_set] at hj
      split at hj
      · cases hj; exact h1
      · exact hs j e hj
    obtain ⟨g1, g2, g3⟩ := ih hs' h
    refine ⟨?_, by rw [g2]; simp, g3⟩
    simp only [fillA]
    have hb : i * sz + sz ≤ (flat es).length := by
      rw [flat_length hs]
      have : (i + 1) * sz ≤ es.length * sz := Nat.mul_le_mul_right _ h2
      rw [Nat.add_mul] at this; omega
    rw [if_pos ⟨h1, hb, h3⟩, ← flat_set hs h2 h1]
    exact g1
theorem sub_rel {M : Nat → Prop} {F : Frm} {a : Act} (hf : FRel w M ρ F a.tmps) (ps : Array (Nat × Operand)) :
    All2 (fun (x : Nat × AV) (y : Nat × Value) => x.1 = y.1 ∧ VRel w M ρ x.2 y.2) (sub F ps) (ps.map fun (i, x) => (i, a.eval x)).toList := by
  unfold sub
  rw [Array.toList_map]
  generalize ps.toList = l
  induction l with
  | nil => exact .nil
  | cons x r ih => exact .cons ⟨rfl, eval_rel hf x.2⟩ ih
theorem zero_run (hE : EnvOK P E) {t : TypeId} {i : TI} (ht : E.ti t = some i) : ∃ z, (∀ w, (zeroValue t).run P w = .ok z w) ∧ z.cells.size = i.size ∧ ∀ (w : World) (M : Nat → Prop) (ρ : RMap), VRel w M ρ i.zero z := by
  obtain ⟨inf, h1, h2, h3, z, hz, hzo, hzs⟩ := (hE.ti t i ht).info
  exact ⟨z, fun w => by simp [zeroValue, typeInfo, h1, hz], hzs, fun w M ρ => by rw [← hzo]; exact ofConst_rel z⟩
theorem mapM_sizes (fields : Array Field) (w : World) (hs : ∀ f ∈ fields.toList, ∃ s, (sizeOf f.type).run P w = .ok s w ∧ s = P.cellsOf f.type) :
    (fields.mapM fun f => (do pure (f.offset, ← sizeOf f.type) : Sem (Nat × Nat))).run P w = .ok (fields.map fun f => (f.offset, P.cellsOf f.type)) w := by
  have key : ∀ (l : List Field), (∀ f ∈ l, ∃ s, (sizeOf f.type).run P w = .ok s w ∧ s = P.cellsOf f.type) → (l.mapM fun f => (do pure (f.offset, ← sizeOf f.type) : Sem (Nat × Nat))).run P w = .ok (l.map fun f => (f.offset, P.cellsOf f.type)) w := by
    intro l
    induction l with
    | nil => intro _; simp
    | cons f r ih =>
      intro hs
      obtain ⟨s, h1, h2⟩ := hs f (by simp)
      simp only [List.mapM_cons, Sem.run_bind, h1, Result.andThen_ok, Sem.run_pure, ih fun g hg => hs g (by simp [hg]), List.map_cons, h2]
  rw [Array.mapM_eq_mapM_toList]
  simp only [Sem.run_map, key fields.toList hs, Result.andThen_ok]
  congr 1
  apply Array.ext'
  simp

/-! ### What is made -/
theorem build_run (hE : EnvOK P E) {M : Nat → Prop} {F : Frm} {a : Act} (hf : FRel w M ρ F a.tmps) {t : TypeId} {i : TI} (ht : E.ti t = some i) {ps : Array (Nat × Operand)} {v : AV}
    (hb : (match i.k, i.zero with
      | .struct fs, .agg z => if fs.all (fun f => (E.ti f.type).isSome) = true then (fillA (fun j => fs[j]?.map fun f => (f.off, f.size)) z (sub F ps)).map fun cs => AV.agg cs else none
      | .array _ e, .agg z => (E.ti e).bind fun ei => (fillA (fun j => some (j * ei.size, ei.size)) z (sub F ps)).map fun cs => AV.agg cs
      | _, _ => none) = some v) :
    ∃ r, (Instr.build t (ps.map fun (i, x) => (i, a.eval x))).run P w = .ok r w ∧ VRel w M ρ v r := by
  obtain ⟨z, hz, hzs, hzr⟩ := zero_run hE ht
  have hko := (hE.ti t i ht).kind
  have hsub := sub_rel hf ps
  split at hb
  · rename_i fs zl hk hzero
    rw [hk] at hko
    obtain ⟨fields, hu, rfl⟩ := hko
    split at hb
    case isFalse => cases hb
    rename_i hall
    simp only [Option.map_eq_some_iff] at hb
    obtain ⟨cs, hcs, rfl⟩ := hb
    have hzr' := hzr w M ρ
    rw [hzero] at hzr'
    obtain ⟨zs, rfl, hzn, hzv⟩ := hzr'.agg_inv
    obtain ⟨arr, g1, g2, g3, g4⟩ := fill_run (ρ := ρ) (M := M) (pc := fun j => (fields.map fun f => (f.offset, P.cellsOf f.type))[j]?) (fun j r hj => by
      simp only [List.getElem?_map, Option.map_map, Option.map_eq_some_iff] at hj
      obtain ⟨fd, hfd, rfl⟩ := hj
      simp only [Array.getElem?_toList] at hfd
      simp [hfd]) hsub hzn hzv hcs
    have hm := mapM_sizes (P := P) fields w (fun f hf => by
      have := List.all_eq_true.1 hall ⟨f.offset, f.type, P.cellsOf f.type, f.name == "_"⟩ (List.mem_map.2 ⟨f, hf, rfl⟩)
      simp only [Option.isSome_iff_exists] at this
      obtain ⟨fi, hfi⟩ := this
      exact ⟨fi.size, (hE.ti _ _ hfi).size w, (size_of_cellsOf hE hfi).symm⟩)
    refine ⟨.agg arr, ?_, .agg g2 g4⟩
    simp only [Instr.build, Sem.run_bind, hz, Result.andThen_ok, run_underlying hu, hm]
    have g1' : Instr.fill (fun j => (fields.map fun f => (f.offset, P.cellsOf f.type))[j]?) (Value.agg zs).cells (ps.map fun (i, x) => (i, a.eval x)).toList = some arr := g1
    rw [g1']
    rfl
  · rename_i n e zl hk hzero
    rw [hk] at hko
    simp only [kindOK] at hko
    simp only [Option.bind_eq_some_iff, Option.map_eq_some_iff] at hb
    obtain ⟨ei, hei, cs, hcs, rfl⟩ := hb
    have hzr' := hzr w M ρ
    rw [hzero] at hzr'
    obtain ⟨zs, rfl, hzn, hzv⟩ := hzr'.agg_inv
    obtain ⟨arr, g1, g2, g3, g4⟩ := fill_run (ρ := ρ) (M := M) (pc := fun j => some (j * ei.size, ei.size)) (fun j r hj => hj) hsub hzn hzv hcs
    refine ⟨.agg arr, ?_, .agg g2 g4⟩
    simp only [Instr.build, Sem.run_bind, hz, Result.andThen_ok, run_underlying hko, (hE.ti e ei hei).size]
    have g1' : Instr.fill (fun j => some (j * ei.size, ei.size)) (Value.agg zs).cells (ps.map fun (i, x) => (i, a.eval x)).toList = some arr := g1
    rw [g1']
    rfl
  · cases hb
/-- A variable of its own. -/
theorem newVar_run (H : HRel N base ρ h w) {p : Nat} {ins : Heap → Ent → Heap} (hi : InsOK h p ins) {t : TypeId} {sz : Nat} {v : AV} {c : Value} (hv : VRel w (Mut N ρ) ρ v c) (hs : v.solid = true) (hsz : v.cells.length = sz) (hpos : 0 < sz) :
    ∃ w' ρ', (newVar t c).run P w = .ok ⟨w.heap.size, 0, none⟩ w' ∧ VRel w' (Mut N ρ') ρ' (.ptr p 1 0 0) (.pointer (some ⟨w.heap.size, 0, none⟩)) ∧ HRel N base ρ' (ins h (.row false sz [v])) w' ∧ Adv ρ w ρ' w' := by
  obtain ⟨hcn, hcv⟩ := solid_rel hv hs
  have key := H.newRow hi (w' := w.alloc (.cells c.cells t)) (cells := c.cells) (t := t) (sz := sz) (cap := 1) (es := [v]) rfl rfl rfl rfl hpos (by simp) (by rw [← hcn, hsz]; omega)
    (fun i e hi => by
      cases i with
      | zero => simp only [List.getElem?_cons_zero, Option.some.injEq] at hi; subst hi; exact hsz
      | succ i => simp at hi)
    (fun i j e x hi hj => by
      cases i with
      | zero =>
        simp only [List.getElem?_cons_zero, Option.some.injEq] at hi; subst hi
        rw [Nat.zero_mul, Nat.zero_add]
        exact hcv j x hj
      | succ i => simp at hi)
  refine ⟨_, _, rfl, ?_, key.1, key.2.1⟩
  have := VRel.ptr (w := w.alloc (.cells c.cells t)) (M := Mut N (upd ρ p (.row false ⟨1, w.heap.size, 0, 1, sz⟩))) (b := p) (ro := false) (i := 0) (o := 0) (l := ⟨1, w.heap.size, 0, 1, sz⟩) (upd_self ρ p _)
  simpa using this
theorem rel_of_flat {M : Nat → Prop} {es : List AV} {sz : Nat} {arr : Array Value} (hs : ∀ (i : Nat) (e : AV), es[i]? = some e → e.cells.length = sz) (hv : ∀ (i : Nat) (x : AV), (flat es)[i]? = some x → VRel w M ρ x (arr.getD i undef)) :
    ∀ (i j : Nat) (e c : AV), es[i]? = some e → e.cells[j]? = some c → VRel w M ρ c (arr.getD (i * sz + j) undef) := fun i j e c hi hj => hv _ c (flat_get hs i j e c hi hj)
theorem zeros_rel {M : Nat → Prop} {z : AV} {c : Value} (hv : VRel w M ρ z c) (hs : z.solid = true) {sz : Nat} (hsz : z.cells.length = sz) (_hpos : 0 < sz) (n : Nat) :
    ∀ (i j : Nat) (e x : AV), (List.replicate n z)[i]? = some e → e.cells[j]? = some x → VRel w M ρ x (((Array.range (n * sz)).map (c.cells[· % c.cells.size]!)).getD (i * sz + j) undef) := by
  intro i j e x hi hj
  obtain ⟨hcn, hcv⟩ := solid_rel hv hs
  rw [List.getElem?_replicate] at hi
  split at hi
  case isFalse => cases hi
  rename_i hin
  cases hi
  have hjs : j < sz := by rw [← hsz]; exact (List.getElem?_eq_some_iff.1 hj).1
  have hlt := mul_add_lt hin hjs
  have hcs : c.cells.size = sz := by rw [← hcn, hsz]
  have := hcv j x hj
  have e1 : ((Array.range (n * sz)).map (c.cells[· % c.cells.size]!)).getD (i * sz + j) undef = c.cells.getD j undef := by
    have hj2 : j < c.cells.size := by omega
    have hm : (i * sz + j) % sz = j := by rw [Nat.mul_comm, Nat.mul_add_mod, Nat.mod_eq_of_lt hjs]
    simp [Array.getD_eq_getD_getElem?, hlt, hcs, hm, hjs]
  rw [e1]; exact this
theorem makeSlice_run (hE : EnvOK P E) (H : HRel N base ρ h w) {p : Nat} {ins : Heap → Ent → Heap} (hi : InsOK h p ins) {t e : TypeId} (hk : kd E t = some (.slice e)) {ei : TI} (hei : E.ti e = some ei) {k1 k2 : IntKind} {n c : Int}
    (hpos : 0 < ei.size) (hz1 : ei.zero.cells.length = ei.size) (hz2 : ei.zero.solid = true) (h0 : 0 ≤ n) (h1 : n ≤ c) (h2 : c * ei.bytes ≤ 140737488355328) (h3 : c ≤ 140737488355328) :
    ∃ r w' ρ', (Instr.makeSlice t (.int k1 n) (.int k2 c)).run P w = .ok r w' ∧ VRel w' (Mut N ρ') ρ' (.ref p n.toNat 0 n.toNat) r ∧ HRel N base ρ' (ins h (.row false ei.size (List.replicate n.toNat ei.zero))) w' ∧ Adv ρ w ρ' w' := by
  have hu := hE.kind hk
  simp only [kindOK] at hu
  obtain ⟨inf, hinf, hsz, hby, _⟩ := (hE.ti e ei hei).info
  obtain ⟨z, hz, hzs, hzr⟩ := zero_run hE hei
  have wn : IntKind.i64.wrap n = n := by simp [IntKind.wrap, IntKind.bits, IntKind.signed]; omega
  have wc : IntKind.i64.wrap c = c := by simp [IntKind.wrap, IntKind.bits, IntKind.signed]; omega
  have hcn : n.toNat ≤ c.toNat := by omega
  have key := H.newRow hi (w' := w.alloc (.cells ((Array.range (c.toNat * ei.size)).map (z.cells[· % z.cells.size]!)) e)) (t := e) (sz := ei.size) (cap := c.toNat) (es := List.replicate n.toNat ei.zero) rfl rfl rfl rfl hpos (by rw [List.length_replicate]; exact hcn) (by simp)
    (fun i x hi => by rw [List.getElem?_replicate] at hi; split at hi <;> cases hi; exact hz1)
    (fun i j x y hx hy => by
      refine zeros_rel (hzr w _ ρ) hz2 hz1 hpos c.toNat i j x y ?_ hy
      rw [List.getElem?_replicate] at hx ⊢
      split at hx
      · rw [if_pos (by omega)]; exact hx
      · cases hx)
  refine ⟨.slice (some ⟨w.heap.size, 0, none⟩) n.toNat c.toNat, _, _, ?_, ?_, key.1, key.2.1⟩
  · have hb1 : ¬ (c < 0) := by omega
    have hb2 : ¬ (281474976710656 < (inf.bytes : Int) * c) := by rw [hby, Int.mul_comm]; omega
    have hb3 : ¬ (n < 0) := by omega
    have hb4 : ¬ (c < n) := by omega
    simp only [Instr.makeSlice, Sem.run_bind, run_underlying hu, Result.andThen_ok, asInt, asIntOf, Sem.run_pure, typeInfo, run_program, hinf, wn, wc]
    simp only [Sem.run_ite, Sem.run_bind, Sem.run_pure, Result.andThen_ok]
    rw [if_neg (by simp [hb1, hb2, hb3, hb4])]
    simp only [run_askRoom, Result.andThen_ok, (hE.ti e ei hei).size, Sem.run_bind, hz]
    by_cases hc0 : c.toNat * ei.size = 0
    · have e0 : (Array.range (c.toNat * ei.size)).map (z.cells[· % z.cells.size]!) = #[] := by rw [hc0]; simp
      rw [e0]
      have e1 : (Array.range 0).map (fun _ => (default : Value)) = #[] := by simp
      simp [hc0, newRow]
      rw [e1]
    · simp only [hc0, if_false, Result.andThen_ok]
      simp [newRow]
  · have := key.2.2 0 n.toNat (by simp)
    simpa using this
theorem buildSlice_run (hE : EnvOK P E) (H : HRel N base ρ h w) {F : Frm} {a : Act} (hf : FRel w (Mut N ρ) ρ F a.tmps) {p : Nat} {ins : Heap → Ent → Heap} (hi : InsOK h p ins) {t e : TypeId} (hk : kd E t = some (.slice e)) {ei : TI} (hei : E.ti e = some ei)
    {n : Nat} {ps : Array (Nat × Operand)} {es : List AV} (hpos : 0 < ei.size) (hz1 : ei.zero.cells.length = ei.size) (hz2 : ei.zero.solid = true) (hn : ¬ n * ei.size > 16777216) (hfill : fillS ei.size (List.replicate n ei.zero) (sub F ps) = some es) :
    ∃ r w' ρ', (Instr.buildSlice t n (ps.map fun (i, x) => (i, a.eval x))).run P w = .ok r w' ∧ VRel w' (Mut N ρ') ρ' (.ref p n 0 n) r ∧ HRel N base ρ' (ins h (.row false ei.size es)) w' ∧ Adv ρ w ρ' w' := by
  have hu := hE.kind hk
  simp only [kindOK] at hu
  obtain ⟨z, hz, hzs, hzr⟩ := zero_run hE hei
  have hrep : ∀ (i : Nat) (x : AV), (List.replicate n ei.zero)[i]? = some x → x.cells.length = ei.size := fun i x hi => by
    rw [List.getElem?_replicate] at hi; split at hi <;> cases hi; exact hz1
  obtain ⟨g1, g2, g3⟩ := fillS_fillA hrep hfill
  simp only [List.length_replicate] at g2
  have hflat : (flat (List.replicate n ei.zero)).length = n * ei.size := by rw [flat_length hrep]; simp
  obtain ⟨arr, f1, f2, f3, f4⟩ := fill_run (ρ := ρ) (M := Mut N ρ) (pc := fun i => some (i * ei.size, ei.size)) (fun i r hr => hr) (sub_rel hf ps) (arr := (Array.range (n * ei.size)).map (z.cells[· % z.cells.size]!)) (by rw [hflat]; simp) (fun k x hk => by
    have hlt : k < n * ei.size := by rw [← hflat]; exact (List.getElem?_eq_some_iff.1 hk).1
    have hdiv : k / ei.size < n := (Nat.div_lt_iff_lt_mul hpos).2 hlt
    have hmod := Nat.mod_lt k hpos
    have hke : k / ei.size * ei.size + k % ei.size = k := by rw [Nat.mul_comm, Nat.div_add_mod]
    have h1 : (List.replicate n ei.zero)[k / ei.size]? = some ei.zero := by rw [List.getElem?_replicate, if_pos hdiv]
    have h2 := List.getElem?_eq_getElem (show k % ei.size < ei.zero.cells.length by omega)
    have h3 := flat_get hrep _ _ _ _ h1 h2
    rw [hke, hk] at h3
    cases h3
    have := zeros_rel (hzr w (Mut N ρ) ρ) hz2 hz1 hpos n _ _ _ _ h1 h2
    rwa [hke] at this) g1
  have hfl : (flat es).length = n * ei.size := by rw [flat_length g3, g2]
  have key := H.newRow hi (w' := w.alloc (.cells arr e)) (cells := arr) (t := e) (sz := ei.size) (cap := n) (es := es) rfl rfl rfl rfl hpos (by rw [g2]; exact Nat.le_refl _) (by rw [← f2, hfl]; exact Nat.le_refl _) g3 (rel_of_flat g3 f4)
  refine ⟨.slice (some ⟨w.heap.size, 0, none⟩) n n, _, _, ?_, ?_, key.1, key.2.1⟩
  · have hn' : ¬ (16777216 < n * ei.size) := hn
    simp only [Instr.buildSlice, Sem.run_bind, run_underlying hu, Result.andThen_ok, (hE.ti e ei hei).size, Sem.run_ite, Sem.run_pure]
    rw [if_neg (by simpa using hn')]
    have f1' : Instr.fill (fun i => some (i * ei.size, ei.size)) ((Array.range (n * ei.size)).map (z.cells[· % z.cells.size]!)) (ps.map fun (i, x) => (i, a.eval x)).toList = some arr := f1
    by_cases hc0 : n * ei.size = 0
    · simp only [hc0, if_true, Result.andThen_ok]
      have : (Array.range 0).map (fun x => (#[] : Array Value)[x % (#[] : Array Value).size]!) = (Array.range (n * ei.size)).map (z.cells[· % z.cells.size]!) := by rw [hc0]; simp
      rw [this, f1']
      simp [newRow]
    · simp only [hc0, if_false, Sem.run_bind, hz, Result.andThen_ok, Sem.run_pure]
      rw [f1']
      simp [newRow]
  · have := key.2.2 0 n (by rw [g2]; omega)
    rw [g2] at this
    simpa [g2] using this
end
end Go.Abs
