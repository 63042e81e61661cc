/- TopHeard: tables, Align. -/
import Derived.Test.YtoechcjloppghaaGreatHD
open Go Go.Proofs Go.Abs
namespace Heard
/-! ### Tables -/
def rowE (m : Nat) (f : Nat → Int) : List AV := (List.range m).map fun j => .int .i64 (f j)
def refsE (b n m : Nat) : List AV := (List.range n).map fun i => .ref (b + i) m 0 m
def upd (T : Nat → Nat → Int) (i j : Nat) (v : Int) : Nat → Nat → Int := fun x y => if x = i ∧ y = j then v else T x y
theorem rowE_length (m : Nat) (f : Nat → Int) : (rowE m f).length = m := by simp [rowE]
theorem refsE_length (b n m : Nat) : (refsE b n m).length = n := by simp [refsE]
theorem rowE_get (m : Nat) (f : Nat → Int) (j : Nat) (hj : j < m) : (rowE m f)[j]? = some (.int .i64 (f j)) := by simp [rowE, hj]
theorem refsE_get (b n m i : Nat) (hi : i < n) : (refsE b n m)[i]? = some (.ref (b + i) m 0 m) := by simp [refsE, hi]
theorem rowE_set (m : Nat) (f : Nat → Int) (j : Nat) (v : Int) : (rowE m f).set j (.int .i64 v) = rowE m (fun y => if y = j then v else f y) := by
  apply List.ext_getElem?
  intro k
  rw [List.getElem?_set]
  by_cases h : j = k
  · subst h
    by_cases hj : j < m
    · simp [rowE, hj]
    · simp [rowE, hj]
  · by_cases hk : k < m
    · simp [h, rowE, hk, Ne.symm h]
    · simp [h, rowE, hk]
/-- A table of n rows of m numbers: its rows lie at b, behind the list of their places. -/
structure Tab (h : Heap) (b n m : Nat) (T : Nat → Nat → Int) : Prop where
  refs : h[b]? = some (.row false 1 (refsE (b + 1) n m))
  rows : ∀ i, i < n → h[b + 1 + i]? = some (.row false 1 (rowE m (T i)))
variable {h : Heap} {b n m : Nat} {T : Nat → Nat → Int}
theorem k40 : kd env 40 = some (.slice 23) := by simp [kd]
theorem Tab.i1 (hT : Tab h b n m T) (i : Int) (h0 : 0 ≤ i) (h1 : i < n) : indexAddrA env 40 h (.ref b n 0 n) (.int .i64 i) = some (.ptr b n i.toNat 0) := by
  unfold indexAddrA
  simp only [k40, envti, ti23, hT.refs, h0, h1, refsE_length, and_self, if_true, Nat.zero_add]
theorem Tab.l1 (hT : Tab h b n m T) (i : Nat) (h1 : i < n) : loadP h false 1 (.ptr b n i 0) = some (.ref (b + 1 + i) m 0 m) := by
  unfold loadP
  simp only [hT.refs, refsE_length, if_true, refsE_get _ _ _ _ h1, Option.bind_some]
  rfl
theorem Tab.i2 (hT : Tab h b n m T) (i : Nat) (hi : i < n) (j : Int) (h0 : 0 ≤ j) (h1 : j < m) : indexAddrA env 23 h (.ref (b + 1 + i) m 0 m) (.int .i64 j) = some (.ptr (b + 1 + i) m j.toNat 0) := by
  unfold indexAddrA
  simp only [k23, envti, ti3, hT.rows i hi, h0, h1, rowE_length, and_self, if_true, Nat.zero_add]
theorem Tab.l2 (hT : Tab h b n m T) (i j : Nat) (hi : i < n) (hj : j < m) : loadP h false 1 (.ptr (b + 1 + i) m j 0) = some (.int .i64 (T i j)) := by
  unfold loadP
  simp only [hT.rows i hi, rowE_length, if_true, rowE_get _ _ _ hj, Option.bind_some]
  rfl
theorem Tab.st (hT : Tab h b n m T) (i j : Nat) (hi : i < n) (hj : j < m) (v : Int) : storeP h 1 (.ptr (b + 1 + i) m j 0) (.int .i64 v) = some (h.set (b + 1 + i) (.row false 1 (rowE m (fun y => if y = j then v else T i y)))) := by
  unfold storeP
  simp only [hT.rows i hi, rowE_length, cells_int, List.length_cons, List.length_nil, List.all_cons, one_int, List.all_nil, Bool.and_self, and_self, if_true, rowE_get _ _ _ hj, Option.bind_some]
  simp [setE, setE1, rowE_set]
theorem Tab.set (hT : Tab h b n m T) (i j : Nat) (hi : i < n) (hj : j < m) (v : Int) : Tab (h.set (b + 1 + i) (.row false 1 (rowE m (fun y => if y = j then v else T i y)))) b n m (upd T i j v) := by
  have hlt : b + 1 + i < h.length := by
    have := hT.rows i hi
    exact (List.getElem?_eq_some_iff.1 this).1
  refine ⟨?_, fun k hk => ?_⟩
  · rw [List.getElem?_set_ne (by omega)]; exact hT.refs
  · by_cases hki : k = i
    · subst hki
      rw [List.getElem?_set_self hlt]
      congr 3
      funext y
      simp [upd]
    · rw [List.getElem?_set_ne (by omega), hT.rows k hk]
      congr 3
      funext y
      simp [upd, hki]
theorem Tab.other (hT : Tab h b n m T) (c : Nat) (e : Ent) (hc : c < b ∨ b + n < c) : Tab (h.set c e) b n m T := by
  refine ⟨?_, fun k hk => ?_⟩
  · rw [List.getElem?_set_ne (by omega)]; exact hT.refs
  · rw [List.getElem?_set_ne (by omega)]; exact hT.rows k hk
theorem Tab.app (hT : Tab h b n m T) (t : Heap) : Tab (h ++ t) b n m T := by
  refine ⟨?_, fun k hk => ?_⟩
  · rw [List.getElem?_append_left (List.getElem?_eq_some_iff.1 hT.refs).1]; exact hT.refs
  · rw [List.getElem?_append_left (List.getElem?_eq_some_iff.1 (hT.rows k hk)).1]; exact hT.rows k hk
/-- A table as a value. -/
def tabL (n m : Nat) (T : Nat → Nat → Int) : List AV := (List.range n).map fun i => .lst (rowE m (T i))
theorem rowE_ints (m : Nat) (f : Nat → Int) : rowE m f = ints ((List.range m).map f) := by simp [rowE, ints]
theorem Tab.snap {M : SM} (hM : M ≠ .frz) (hT : Tab h b n m T) (d : Nat) : snap M (d + 3) h (.ref b n 0 n) = some (.lst (tabL n m T)) := by
  refine snap_rowM hM hT.refs (refsE_length _ _ _) ?_
  have key : ∀ (l : List Nat), (∀ i ∈ l, i < n) → (l.map fun i => AV.ref (b + 1 + i) m 0 m).mapM (Go.Abs.snap M (d + 2) h) = some (l.map fun i => .lst (rowE m (T i))) := by
    intro l
    induction l with
    | nil => intro _; rfl
    | cons i l ih =>
      intro hl
      have h1 : Go.Abs.snap M (d + 2) h (.ref (b + 1 + i) m 0 m) = some (.lst (rowE m (T i))) := by
        have := hT.rows i (hl i List.mem_cons_self)
        rw [rowE_ints] at this ⊢
        exact snap_rints (d := d) hM this (by simp)
      simp only [List.map_cons, List.mapM_cons, h1, ih fun j hj => hl j (List.mem_cons_of_mem _ hj)]
      rfl
  exact key (List.range n) fun i hi => List.mem_range.1 hi
end Heard

open Go Go.Proofs Go.Abs
namespace Heard
theorem idx40 {H : Heap} {b n : Nat} {ro : Bool} {es : List AV} (hb : H[b]? = some (.row ro 1 es)) (hl : es.length = n) (i : Nat) (hi : i < n) : indexAddrA env 40 H (.ref b n 0 n) (.int .i64 i) = some (.ptr b n i 0) := by
  unfold indexAddrA
  have h1 : (i : Int) < n := by omega
  simp only [k40, envti, ti23, hb, hl, h1, Int.natCast_nonneg, and_self, if_true, Nat.zero_add, Int.toNat_natCast]
theorem idx23 {H : Heap} {b n : Nat} {ro : Bool} {es : List AV} (hb : H[b]? = some (.row ro 1 es)) (hl : es.length = n) (i : Nat) (hi : i < n) : indexAddrA env 23 H (.ref b n 0 n) (.int .i64 i) = some (.ptr b n i 0) := by
  unfold indexAddrA
  have h1 : (i : Int) < n := by omega
  simp only [k23, envti, ti3, hb, hl, h1, Int.natCast_nonneg, and_self, if_true, Nat.zero_add, Int.toNat_natCast]
theorem ldP {H : Heap} {b n i : Nat} {ro : Bool} {es : List AV} {v : AV} (hb : H[b]? = some (.row ro 1 es)) (hl : es.length = n) (hi : es[i]? = some v) (hv : v.cells = [v]) : loadP H false 1 (.ptr b n i 0) = some v := by
  unfold loadP
  simp only [hb, hl, if_true, hi, Option.bind_some, loadE, hv, cond_false]
  rfl
theorem stP {H : Heap} {b n i : Nat} {es : List AV} {v w : AV} (hb : H[b]? = some (.row false 1 es)) (hl : es.length = n) (hi : es[i]? = some w) (hw : setE w 0 [v] = some v) (hv : v.cells = [v]) (h1 : v.one = true) : storeP H 1 (.ptr b n i 0) v = some (H.set b (.row false 1 (es.set i v))) := by
  unfold storeP
  simp [-setE, hb, hl, hi, hv, h1, hw]
set_option maxHeartbeats 2000000 in
set_option maxRecDepth 100000 in
theorem table_inner (G : Heap) (b k n m i : Nat) (x : Int) (es : List AV) (hb : G[b]? = some (.row false 1 es)) (hl : es.length = n) (hi : i < n) (he : es[i]? = some (.ref k m 0 m)) (hk : k < G.length) (hkb : k ≠ b) (hm : m < 2 ^ 40) (Q : Out → Prop) : ∀ (r j : Nat) (sl : List (Nat × AV)), j + r = m →
    ∀ A B C, getS sl (.tup []) 1 = A → getS sl (.tup []) 15 = B → getS sl (.tup []) 16 = C →
    getS sl (.tup []) 2 = .int .i64 x → getS sl (.tup []) 7 = .ref b n 0 n → getS sl (.tup []) 8 = .int .i64 i → getS sl (.tup []) 30 = .int .i64 m → getS sl (.tup []) 31 = .int .i64 j →
    (∀ sl', getS sl' (.tup []) 1 = A → getS sl' (.tup []) 15 = B → getS sl' (.tup []) 16 = C → getS sl' (.tup []) 2 = .int .i64 x → getS sl' (.tup []) 7 = .ref b n 0 n → Q (.exit 2 ⟨44, .tup [], sl', []⟩ (G.set k (.row false 1 (rowE m fun _ => x))))) →
    Gives (loopL env (lp Tryz.f22 1) ⟨44, .tup [], sl, []⟩ (G.set k (.row false 1 (rowE m fun y => if y < j then x else 0)))) Q := by
  intro r
  induction r with
  | zero =>
    intro j sl hj A B C gA gB gC g2 g7 g8 g30 g31 q
    obtain rfl : j = m := by omega
    refine gives_loop ?_
    simp (disch := omega) [lp, Tryz.f22, loops, g30, g31]
    have hrow : rowE j (fun y => if y < j then x else 0) = rowE j fun _ => x := List.map_congr_left fun y hy => by simp [List.mem_range.1 hy]
    rw [hrow]
    exact q _ (by simp [gA]) (by simp [gB]) (by simp [gC]) (by simp [g2]) (by simp [g7])
  | succ r ih =>
    intro j sl hj A B C gA gB gC g2 g7 g8 g30 g31 q
    refine gives_loop ?_
    have b1 : (G.set k (.row false 1 (rowE m fun y => if y < j then x else 0)))[b]? = some (.row false 1 es) := by rw [List.getElem?_set_ne hkb]; exact hb
    have b2 : (G.set k (.row false 1 (rowE m fun y => if y < j then x else 0)))[k]? = some (.row false 1 (rowE m fun y => if y < j then x else 0)) := List.getElem?_set_self hk
    have e1 := idx40 b1 hl i hi
    have e2 := ldP b1 hl he rfl
    have e3 := idx23 b2 (rowE_length _ _) j (by omega)
    have e4 := stP (v := .int .i64 x) b2 (rowE_length _ _) (rowE_get _ _ j (by omega)) rfl rfl rfl
    have hs : (G.set k (.row false 1 (rowE m fun y => if y < j then x else 0))).set k (.row false 1 ((rowE m fun y => if y < j then x else 0).set j (.int .i64 x))) = G.set k (.row false 1 (rowE m fun y => if y < j + 1 then x else 0)) := by
      rw [List.set_set, rowE_set]
      congr 2
      exact List.map_congr_left fun y hy => by
        by_cases h1 : y = j
        · simp [h1]
        · by_cases h2 : y < j
          · have : y < j + 1 := by omega
            simp [h1, h2, this]
          · have : ¬ y < j + 1 := by omega
            simp [h1, h2, this]
    rw [hs] at e4
    have hc : (j : Int) < m := by omega
    have ih1 := fun sl h => ih (j + 1) sl h
    clear ih
    generalize G.set k (.row false 1 (rowE m fun y => if y < j then x else 0)) = H at *
    generalize G.set k (.row false 1 (rowE m fun y => if y < j + 1 then x else 0)) = H' at *
    simp (disch := omega) [-loadP, -storeP, lp, Tryz.f22, loops, gA, g2, g7, g8, g30, g31, e1, e2, e3, e4, hc, wrapI, decT]
    exact ih1 _ (by omega) A B C (by simp [gA]) (by simp [gB]) (by simp [gC]) (by simp [g2]) (by simp [g7]) (by simp [g8]) (by simp [g30]) (by simp) q
/-- A heap that goes on from another one. -/
def Pre (h H : Heap) : Prop := ∀ (k : Nat) (e : Ent), h[k]? = some e → H[k]? = some e
theorem Pre.refl (h : Heap) : Pre h h := fun _ _ h => h
theorem Pre.trans {a b c : Heap} (h : Pre a b) (g : Pre b c) : Pre a c := fun k e x => g k e (h k e x)
theorem Pre.app (h t : Heap) : Pre h (h ++ t) := fun k e x => by
  rw [List.getElem?_append_left (List.getElem?_eq_some_iff.1 x).1]; exact x
theorem Pre.len {h H : Heap} (p : Pre h H) : h.length ≤ H.length := by
  rcases Nat.eq_zero_or_pos h.length with h0 | h0
  · omega
  · have h1 : h.length - 1 < h.length := by omega
    have h2 := p _ _ (List.getElem?_eq_getElem h1)
    have := (List.getElem?_eq_some_iff.1 h2).1
    omega
theorem Tab.pre {h H : Heap} {b n m : Nat} {T : Nat → Nat → Int} (hT : Tab h b n m T) (p : Pre h H) : Tab H b n m T := ⟨p _ _ hT.refs, fun i hi => p _ _ (hT.rows i hi)⟩
theorem replicate_rowE (m : Nat) : List.replicate m (AV.int .i64 0) = rowE m fun y => if y < 0 then 0 else 0 := by
  simp [rowE, List.map_const']
/-- The first rows of a table are there. -/
structure Tab0 (H : Heap) (b n m i : Nat) (x : Int) (es : List AV) : Prop where
  row : H[b]? = some (.row false 1 es)
  len : es.length = n
  done : ∀ k, k < i → es[k]? = some (.ref (b + 1 + k) m 0 m)
  rest : ∀ k, i ≤ k → k < n → es[k]? = some .nil
  rows : ∀ k, k < i → H[b + 1 + k]? = some (.row false 1 (rowE m fun _ => x))
  size : H.length = b + 1 + i
set_option maxHeartbeats 2000000 in
set_option maxRecDepth 100000 in
theorem table_outer (h0 : Heap) (b n m : Nat) (x : Int) (hbl : h0.length < b) (hm : m < 2 ^ 30) (hn : n < 2 ^ 30) (bv : List Int) (hbv : bv.length + 1 = m) (Q : Out → Prop) : ∀ (r i : Nat) (es : List AV) (H : Heap) (sl : List (Nat × AV)), i + r = n → Tab0 H b n m i x es → Pre h0 H →
    getS sl (.tup []) 1 = .lst (ints bv) → getS sl (.tup []) 15 = .int .i64 n → getS sl (.tup []) 16 = .int .i64 i →
    getS sl (.tup []) 2 = .int .i64 x → getS sl (.tup []) 7 = .ref b n 0 n →
    (∀ sl' H' es', getS sl' (.tup []) 7 = .ref b n 0 n → Tab0 H' b n m n x es' → Pre h0 H' → Q (.exit 0 ⟨44, .tup [], sl', []⟩ H')) →
    Gives (loopL env (lp Tryz.f22 0) ⟨44, .tup [], sl, []⟩ H) Q := by
  intro r
  induction r with
  | zero =>
    intro i es H sl hi hT hp g1 g15 g16 g2 g7 q
    obtain rfl : i = n := by omega
    refine gives_loop ?_
    simp (disch := omega) [lp, Tryz.f22, loops, g15, g16]
    exact q _ _ es (by simp [g7]) hT hp
  | succ r ih =>
    intro i es H sl hi hT hp g1 g15 g16 g2 g7 q
    refine gives_loop ?_
    have hsz := hT.size
    have hlt : b < H.length := (List.getElem?_eq_some_iff.1 hT.row).1
    have hc : (i : Int) < n := by omega
    have b1 : (H ++ [Ent.row false 1 (List.replicate m (.int .i64 0))])[b]? = some (.row false 1 es) := by rw [List.getElem?_append_left hlt]; exact hT.row
    have b2 : (H ++ [Ent.row false 1 (List.replicate m (.int .i64 0))])[H.length]? = some (.row false 1 (List.replicate m (.int .i64 0))) := get_app0 H _
    have e1 := idx40 b1 hT.len i (by omega)
    have e2 := stP (v := .ref H.length m 0 m) b1 hT.len (hT.rest i (Nat.le_refl _) (by omega)) rfl rfl rfl
    have hm1 : IntKind.i64.wrap ((bv.length : Int) + 1) = m := by rw [wrapI (by omega) (by omega)]; omega
    have hm0 : (0 : Int) ≤ m ∧ (m : Int) ≤ m ∧ (m : Int) * 8 ≤ 140737488355328 ∧ (m : Int) ≤ 140737488355328 := by omega
    have b3 : ((H ++ [Ent.row false 1 (List.replicate m (.int .i64 0))]).set b (.row false 1 (es.set i (.ref H.length m 0 m))))[b]? = some (.row false 1 (es.set i (.ref H.length m 0 m))) := List.getElem?_set_self (by simp; omega)
    have hl3 : (es.set i (.ref H.length m 0 m)).length = n := by rw [List.length_set]; exact hT.len
    have he3 : (es.set i (.ref H.length m 0 m))[i]? = some (.ref H.length m 0 m) := List.getElem?_set_self (by rw [hT.len]; omega)
    have e3 := idx40 b3 hl3 i (by omega)
    have e4 := ldP b3 hl3 he3 rfl
    have hset : ((H ++ [Ent.row false 1 (List.replicate m (.int .i64 0))]).set b (.row false 1 (es.set i (.ref H.length m 0 m)))) = ((H ++ [Ent.row false 1 (List.replicate m (.int .i64 0))]).set b (.row false 1 (es.set i (.ref H.length m 0 m)))).set H.length (.row false 1 (rowE m fun y => if y < 0 then x else 0)) := by
      have hr : rowE m (fun y => if y < 0 then x else 0) = List.replicate m (.int .i64 0) := by simp [rowE, List.map_const']
      rw [hr]
      symm
      apply List.ext_getElem?
      intro k
      by_cases hk : H.length = k
      · subst hk
        rw [List.getElem?_set_self (by simp), List.getElem?_set_ne (by omega), b2]
      · rw [List.getElem?_set_ne hk]
    have hTn : ∀ G, G = ((H ++ [Ent.row false 1 (List.replicate m (.int .i64 0))]).set b (.row false 1 (es.set i (.ref H.length m 0 m)))).set H.length (.row false 1 (rowE m fun _ => x)) → Tab0 G b n m (i + 1) x (es.set i (.ref H.length m 0 m)) ∧ Pre h0 G := by
      intro G hG
      refine ⟨⟨?_, hl3, fun k hk => ?_, fun k hk hk2 => ?_, fun k hk => ?_, ?_⟩, fun k e hke => ?_⟩
      · rw [hG, List.getElem?_set_ne (by omega)]; exact b3
      · by_cases hki : k = i
        · subst hki; rw [he3, hsz]
        · rw [List.getElem?_set_ne (by omega)]; exact hT.done k (by omega)
      · rw [List.getElem?_set_ne (by omega)]; exact hT.rest k (by omega) hk2
      · by_cases hki : k = i
        · subst hki; rw [hG, ← hsz, List.getElem?_set_self (by simp)]
        · rw [hG, List.getElem?_set_ne (by omega), List.getElem?_set_ne (by omega), List.getElem?_append_left (by omega)]; exact hT.rows k (by omega)
      · rw [hG]; simp; omega
      · have h1 := hp k e hke
        have h2 := (List.getElem?_eq_some_iff.1 hke).1
        rw [hG, List.getElem?_set_ne (by omega), List.getElem?_set_ne (by omega), List.getElem?_append_left (by omega)]; exact h1
    have hsa : (H ++ [Ent.row false 1 (List.replicate m (.int .i64 0))]).set b (.row false 1 (es.set i (.ref H.length m 0 m))) = H.set b (.row false 1 (es.set i (.ref H.length m 0 m))) ++ [Ent.row false 1 (List.replicate m (.int .i64 0))] := List.set_append_left _ _ hlt
    rw [hsa] at e2 e3 e4 b3 hTn hset
    have hm8 : ¬ 140737488355328 < (m : Int) * 8 := by omega
    have hm9 : ¬ 140737488355328 < (m : Int) := by omega
    simp (disch := omega) [-loadP, -storeP, lp, Tryz.f22, loops, g1, g2, g7, g15, g16, hm1, hm8, hm9, hc, e1, e2, e3, e4]
    generalize hx : loopL env _ _ _ = L
    apply gives_cut hx
    clear hx
    rw [hset]
    generalize hG : H.set b (.row false 1 (es.set i (.ref H.length m 0 m))) ++ [Ent.row false 1 (List.replicate m (.int .i64 0))] = G at *
    have hGl : G.length = H.length + 1 := by rw [← hG]; simp
    refine table_inner G b H.length n m i x _ b3 hl3 (by omega) he3 (by omega) (by omega) (by omega) _ m 0 _ (by omega) (.lst (ints bv)) (.int .i64 n) (.int .i64 i) (by simp [g1]) (by simp [g15]) (by simp [g16]) (by simp [g2]) (by simp [g7]) (by simp) (by simp) (by simp) (fun sl' k1 k15 k16 k2 k7 => ?_)
    obtain ⟨t1, t2⟩ := hTn _ rfl
    simp (disch := omega) [k16, wrapI]
    exact ih (i + 1) _ _ _ (by omega) t1 t2 (by simp [k1]) (by simp [k15]) (by simp) (by simp [k2]) (by simp [k7]) q
set_option maxHeartbeats 2000000 in
set_option maxRecDepth 100000 in
/-- A table is made. -/
theorem table_ok (a b : List Int) (x : Int) (ha : a.length ≤ 96) (hb : b.length ≤ 96) (h : Heap) :
    Gives (callL env 22 [.lst (ints a), .lst (ints b), .int .i64 x] h) fun r => r.1 = .ref (h.length + 1) (a.length + 1) 0 (a.length + 1) ∧ Tab r.2 (h.length + 1) (a.length + 1) (b.length + 1) (fun _ _ => x) ∧ Pre h r.2 := by
  apply gives_call
  have e1 : IntKind.i64.wrap ((a.length : Int) + 1) = ((a.length + 1 : Nat) : Int) := by rw [wrapI (by omega) (by omega)]; omega
  have hm8 : ¬ 140737488355328 < ((a.length + 1 : Nat) : Int) * 24 := by omega
  have hm9 : ¬ 140737488355328 < ((a.length + 1 : Nat) : Int) := by omega
  have hm7 : (0 : Int) ≤ ((a.length + 1 : Nat) : Int) := by omega
  have hm6 : ¬ ((a.length + 1 : Nat) : Int) < 0 := by omega
  generalize hN : a.length + 1 = N at *
  have hT : Tab0 (h ++ [Ent.row false 1 [], Ent.row false 1 (List.replicate N .nil)]) (h.length + 1) N (b.length + 1) 0 x (List.replicate N .nil) := by
    refine ⟨?_, by simp, fun k hk => by omega, fun k _ hk => by simp [hk], fun k hk => by omega, by simp⟩
    rw [get_app]; rfl
  simp (disch := omega) [Tryz.f22, e1, hm8, hm9, hm7, hm6]
  generalize hx : loopL env _ _ _ = L
  apply gives_cut hx
  clear hx
  refine table_outer h (h.length + 1) N (b.length + 1) x (by omega) (by omega) (by omega) b rfl _ N 0 _ _ _ (by omega) hT (Pre.app _ _) (by simp) (by simp) (by simp) (by simp) (by simp) (fun sl' H' es' k7 t1 t2 => ?_)
  simp [k7]
  refine ⟨⟨?_, fun i hi => t1.rows i hi⟩, t2⟩
  rw [t1.row]
  congr 2
  apply List.ext_getElem?
  intro k
  by_cases hk : k < N
  · rw [t1.done k hk, refsE_get _ _ _ _ hk]
  · rw [List.getElem?_eq_none (by rw [t1.len]; omega), List.getElem?_eq_none (by rw [refsE_length]; omega)]
theorem c22 (a b : List Int) (x : Int) (ha : a.length ≤ 96) (hb : b.length ≤ 96) (h : Heap) :
    ∃ H, callN env (callL env) 22 [.lst (ints a), .lst (ints b), .int .i64 x] h = some (.ref (h.length + 1) (a.length + 1) 0 (a.length + 1), H) ∧ Tab H (h.length + 1) (a.length + 1) (b.length + 1) (fun _ _ => x) ∧ Pre h H := by
  obtain ⟨r, hr, h1, h2, h3⟩ := gives_iff.1 (table_ok a b x ha hb h)
  refine ⟨r.2, ?_, h2, h3⟩
  have g1 : env.nat 22 = none := rfl
  have g2 : env.cm 22 = .full := rfl
  unfold callN
  simp only [g1, g2, hr, ← h1]
end Heard

open Go Go.Proofs Go.Abs
namespace Heard
theorem upd_upd (T : Nat → Nat → Int) (i j : Nat) (v w : Int) : upd (upd T i j v) i j w = upd T i j w := by
  funext x y
  simp only [upd]
  split <;> simp_all
theorem upd_same (T : Nat → Nat → Int) (i j : Nat) (v : Int) : upd T i j v i j = v := by simp [upd]
theorem upd_ne (T : Nat → Nat → Int) (i j k l : Nat) (v : Int) (h : ¬ (k = i ∧ l = j)) : upd T i j v k l = T k l := by simp only [upd]; rw [if_neg h]
theorem step_ne {a b : List Int} {i j e : Nat} (h : (stepP a b i j e).2.2 = true) : ¬ ((stepP a b i j e).1 = i ∧ (stepP a b i j e).2.1 = j) := by
  match e with
  | 0 | 1 | 2 | 3 | 4 => simp [stepP]
  | e + 5 => simp [stepP] at h
/-- The least way on from a place, and its first edit. -/
def relC (a b : List Int) (T : Nat → Nat → Int) (i j : Nat) : Nat → Nat → Int × Nat → Int × Nat
  | 0, _, x => x
  | k + 1, e, x => if (stepP a b i j e).2.2 = true ∧ cst e + T (stepP a b i j e).1 (stepP a b i j e).2.1 < x.1 then relC a b T i j k (e + 1) (cst e + T (stepP a b i j e).1 (stepP a b i j e).2.1, e) else relC a b T i j k (e + 1) x
theorem or8_0 : (orderOf (dr Tryz.f8 0)).map (·.i) = [0, 2, 3, 4, 5, 6, 7, 8, 1, 9, 10] := by kernel_rfl
theorem pm8_0 : permD env (dr Tryz.f8 0) = true := by kernel_rfl
theorem pl8_1 : plainD env (dr Tryz.f8 1) = true := by kernel_rfl
theorem pl8_2 : plainD env (dr Tryz.f8 2) = true := by kernel_rfl
set_option maxHeartbeats 4000000 in
set_option maxRecDepth 100000 in
theorem al_edit (a b : List Int) (ha : a.length ≤ 96) (hb : b.length ≤ 96) (N M bT bC : Nat) (hN : N = a.length + 1) (hM : M = b.length + 1) (hbb : bT + N < bC) (i j : Nat) (hi : i < N) (hj : j < M) (T C : Nat → Nat → Int)
    (hTb : ∀ e, e < 5 → (stepP a b i j e).2.2 = true → 0 ≤ T (stepP a b i j e).1 (stepP a b i j e).2.1 ∧ T (stepP a b i j e).1 (stepP a b i j e).2.1 ≤ 1000000) (Q : Out → Prop) : ∀ (k e : Nat) (x : Int) (c : Nat) (H : Heap) (sl : List (Nat × AV)), e + k = 5 → Tab H bT N M (upd T i j x) → Tab H bC N M (upd C i j c) →
    getS sl (.tup []) 0 = .lst (ints a) → getS sl (.tup []) 1 = .lst (ints b) → getS sl (.tup []) 7 = .ref bT N 0 N → getS sl (.tup []) 8 = .ref bC N 0 N → getS sl (.tup []) 9 = .int .i64 i → getS sl (.tup []) 10 = .int .i64 j → getS sl (.tup []) 57 = .int .i64 e →
    (∀ sl' H', Tab H' bT N M (upd T i j (relC a b T i j k e (x, c)).1) → Tab H' bC N M (upd C i j (relC a b T i j k e (x, c)).2) →
      getS sl' (.tup []) 0 = .lst (ints a) → getS sl' (.tup []) 1 = .lst (ints b) → getS sl' (.tup []) 7 = .ref bT N 0 N → getS sl' (.tup []) 8 = .ref bC N 0 N → getS sl' (.tup []) 9 = .int .i64 i → getS sl' (.tup []) 10 = .int .i64 j → Q (.exit 4 ⟨143, .tup [], sl', []⟩ H')) →
    Gives (loopL env (lp Tryz.f8 2) ⟨143, .tup [], sl, []⟩ H) Q := by
  have p0 := pm8_0
  have o0 := or8_0
  have p1 := pl8_1
  simp only [dr, drs, Tryz.f8, List.append_nil, List.nil_append, List.cons_append, nth_zero, nth_succ] at p0 o0 p1
  intro k
  induction k with
  | zero =>
    intro e x c H sl he hT hC g0 g1 g7 g8 g9 g10 g57 q
    obtain rfl : e = 5 := by omega
    refine gives_loop ?_
    simp (disch := omega) [lp, Tryz.f8, loops, g57]
    exact q _ _ hT hC (by simp [g0]) (by simp [g1]) (by simp [g7]) (by simp [g8]) (by simp [g9]) (by simp [g10])
  | succ k ih =>
    intro e x c H sl he hT hC g0 g1 g7 g8 g9 g10 g57 q
    have c1 := c23 a b i j e ha hb (by omega) (by omega) (by omega)
    have c2 := c24 e (by omega)
    have hc := cst_le e (by omega)
    have hst := stepP_le (a := a) (b := b) (i := i) (j := j) (e := e)
    have hne := step_ne (a := a) (b := b) (i := i) (j := j) (e := e)
    have hb1 := hTb e (by omega)
    have hec : (e : Int) < 5 := by omega
    unfold relC at q
    refine gives_loop ?_
    cases hok : (stepP a b i j e).2.2
    · generalize stepP a b i j e = st at *
      simp (disch := omega) [lp, Tryz.f8, loops, g0, g1, g7, g8, g9, g10, g57, hec, c1, hok, wrapI]
      simp only [hok, Bool.false_eq_true, false_and, if_false] at q
      exact ih (e + 1) x c H _ (by omega) hT hC (by simp [g0]) (by simp [g1]) (by simp [g7]) (by simp [g8]) (by simp [g9]) (by simp [g10]) (by simp) q
    · have hk := hst hok
      have hU := upd_ne T i j _ _ x (hne hok)
      have hb2 := hb1 hok
      have hkl : (stepP a b i j e).1 < N ∧ (stepP a b i j e).2.1 < M := by omega
      simp only [hok, true_and] at q
      generalize stepP a b i j e = st at *
      generalize htv : T st.1 st.2.1 = tv at *
      generalize cst e = ce at *
      have r1 := hT.i1
      have r2 := hT.l1
      have r3 := hT.i2
      have r4 := hT.l2 st.1 st.2.1 hkl.1 hkl.2
      rw [hU] at r4
      have r5 := hT.l2 i j hi hj
      rw [upd_same] at r5
      by_cases hlt : ce + tv < x
      · have s1 := hT.st i j hi hj (ce + tv)
        have hC1 := hC.other (bT + 1 + i) (.row false 1 (rowE M fun y => if y = j then ce + tv else upd T i j x i y)) (by omega)
        have hT1 := hT.set i j hi hj (ce + tv)
        rw [upd_upd] at hT1
        have u1 := hC.i1
        have u2 := hC.l1
        generalize H.set (bT + 1 + i) (.row false 1 (rowE M fun y => if y = j then ce + tv else upd T i j x i y)) = H1 at *
        have u3 := hC1.i2
        have s2 := hC1.st i j hi hj (e : Int)
        have hC2 := hC1.set i j hi hj (e : Int)
        rw [upd_upd] at hC2
        have hT2 := hT1.other (bC + 1 + i) (.row false 1 (rowE M fun y => if y = j then (e : Int) else upd C i j c i y)) (by omega)
        generalize H1.set (bC + 1 + i) (.row false 1 (rowE M fun y => if y = j then (e : Int) else upd C i j c i y)) = H2 at *
        simp (disch := omega) [-loadP, -storeP, lp, Tryz.f8, loops, g0, g1, g7, g8, g9, g10, g57, hec, c1, c2, hok, wrapI, regionD_perm p0 o0, regionD_plain p1, r1, r2, r3, r4, r5, s1, u1, u2, u3, s2, hlt]
        rw [if_pos hlt] at q
        exact ih (e + 1) (ce + tv) e H2 _ (by omega) hT2 hC2 (by simp [g0]) (by simp [g1]) (by simp [g7]) (by simp [g8]) (by simp [g9]) (by simp [g10]) (by simp) q
      · simp (disch := omega) [-loadP, -storeP, lp, Tryz.f8, loops, g0, g1, g7, g8, g9, g10, g57, hec, c1, c2, hok, wrapI, regionD_perm p0 o0, r1, r2, r3, r4, r5, hlt]
        rw [if_neg hlt] at q
        exact ih (e + 1) x c H _ (by omega) hT hC (by simp [g0]) (by simp [g1]) (by simp [g7]) (by simp [g8]) (by simp [g9]) (by simp [g10]) (by simp) q
end Heard

open Go Go.Proofs Go.Abs
namespace Heard
def MX : Int := 9223372036854775807
theorem relC_le (a b : List Int) (T : Nat → Nat → Int) (i j : Nat) : ∀ (k e : Nat) (x : Int × Nat), (relC a b T i j k e x).1 ≤ x.1 ∧ ∀ e', e ≤ e' → e' < e + k → (stepP a b i j e').2.2 = true → (relC a b T i j k e x).1 ≤ cst e' + T (stepP a b i j e').1 (stepP a b i j e').2.1
  | 0, e, x => ⟨Int.le_refl _, fun e' h1 h2 => by omega⟩
  | k + 1, e, x => by
    simp only [relC]
    split
    · rename_i c
      obtain ⟨h1, h2⟩ := relC_le a b T i j k (e + 1) (cst e + T (stepP a b i j e).1 (stepP a b i j e).2.1, e)
      simp only at h1
      refine ⟨by omega, fun e' g1 g2 g3 => ?_⟩
      by_cases hee : e' = e
      · subst hee; exact h1
      · exact h2 e' (by omega) (by omega) g3
    · rename_i c
      obtain ⟨h1, h2⟩ := relC_le a b T i j k (e + 1) x
      refine ⟨h1, fun e' g1 g2 g3 => ?_⟩
      by_cases hee : e' = e
      · subst hee
        have : ¬ cst e' + T (stepP a b i j e').1 (stepP a b i j e').2.1 < x.1 := fun h => c ⟨g3, h⟩
        omega
      · exact h2 e' (by omega) (by omega) g3
theorem relC_mem (a b : List Int) (T : Nat → Nat → Int) (i j : Nat) : ∀ (k e : Nat) (x : Int × Nat), relC a b T i j k e x = x ∨ ∃ e', e ≤ e' ∧ e' < e + k ∧ (stepP a b i j e').2.2 = true ∧ relC a b T i j k e x = (cst e' + T (stepP a b i j e').1 (stepP a b i j e').2.1, e')
  | 0, e, x => .inl rfl
  | k + 1, e, x => by
    simp only [relC]
    split
    · rename_i c
      rcases relC_mem a b T i j k (e + 1) (cst e + T (stepP a b i j e).1 (stepP a b i j e).2.1, e) with h | ⟨e', g1, g2, g3, g4⟩
      · exact .inr ⟨e, by omega, by omega, c.1, h⟩
      · exact .inr ⟨e', by omega, by omega, g3, g4⟩
    · rcases relC_mem a b T i j k (e + 1) x with h | ⟨e', g1, g2, g3, g4⟩
      · exact .inl h
      · exact .inr ⟨e', by omega, by omega, g3, g4⟩
theorem relC_congr (a b : List Int) (T T' : Nat → Nat → Int) (i j : Nat) (h : ∀ e, (stepP a b i j e).2.2 = true → T (stepP a b i j e).1 (stepP a b i j e).2.1 = T' (stepP a b i j e).1 (stepP a b i j e).2.1) : ∀ (k e : Nat) (x : Int × Nat), relC a b T i j k e x = relC a b T' i j k e x
  | 0, e, x => rfl
  | k + 1, e, x => by
    simp only [relC]
    cases hok : (stepP a b i j e).2.2
    · simp [relC_congr a b T T' i j h k (e + 1)]
    · rw [h e hok, relC_congr a b T T' i j h k (e + 1), relC_congr a b T T' i j h k (e + 1)]
/-- A place whose least way on is known. -/
def Done (a b : List Int) (T C : Nat → Nat → Int) (i j : Nat) : Prop :=
  (i = a.length ∧ j = b.length → T i j = 0) ∧ (¬ (i = a.length ∧ j = b.length) → ∃ c : Nat, relC a b T i j 5 0 (MX, 0) = (T i j, c) ∧ C i j = c) ∧ 0 ≤ T i j ∧ T i j ≤ 4 * (((a.length : Int) - i) + ((b.length : Int) - j))
structure InvA (a b : List Int) (T C : Nat → Nat → Int) (i j : Nat) : Prop where
  done : ∀ i' j', i' ≤ a.length → j' ≤ b.length → (i < i' ∨ i' = i ∧ j ≤ j') → Done a b T C i' j'
  fresh : ∀ i' j', ¬ (i < i' ∨ i' = i ∧ j ≤ j') → T i' j' = 0 ∧ C i' j' = 0
theorem step_gt {a b : List Int} {i j e : Nat} (h : (stepP a b i j e).2.2 = true) : i ≤ (stepP a b i j e).1 ∧ j ≤ (stepP a b i j e).2.1 ∧ i + j < (stepP a b i j e).1 + (stepP a b i j e).2.1 := by
  match e with
  | 0 | 1 | 2 | 3 | 4 => simp only [stepP]; omega
  | e + 5 => simp [stepP] at h
theorem step_lt {a b : List Int} {i j e : Nat} (h : (stepP a b i j e).2.2 = true) : e < 5 := by
  match e with
  | 0 | 1 | 2 | 3 | 4 => omega
  | e + 5 => simp [stepP] at h
theorem InvA.succ {a b : List Int} {T C : Nat → Nat → Int} {i j : Nat} (hI : InvA a b T C i (j + 1)) (hi : i ≤ a.length) (hj : j ≤ b.length) {e : Nat} (h : (stepP a b i j e).2.2 = true) :
    Done a b T C (stepP a b i j e).1 (stepP a b i j e).2.1 := by
  have h1 := step_gt h
  have h2 := stepP_le h
  exact hI.done _ _ (by omega) (by omega) (by omega)
theorem InvA.bound {a b : List Int} {T C : Nat → Nat → Int} {i j : Nat} (hI : InvA a b T C i (j + 1)) (hi : i ≤ a.length) (hj : j ≤ b.length) (hne : ¬ (i = a.length ∧ j = b.length)) :
    0 ≤ (relC a b T i j 5 0 (MX, 0)).1 ∧ (relC a b T i j 5 0 (MX, 0)).1 ≤ 4 * (((a.length : Int) - i) + ((b.length : Int) - j)) ∨ 1000 < a.length ∨ 1000 < b.length := by
  by_cases hbig : 1000 < a.length ∨ 1000 < b.length
  · exact .inr hbig
  left
  obtain ⟨l1, l2⟩ := relC_le a b T i j 5 0 (MX, 0)
  have up : (relC a b T i j 5 0 (MX, 0)).1 ≤ 4 * (((a.length : Int) - i) + ((b.length : Int) - j)) := by
    by_cases hi2 : i < a.length
    · have hok : (stepP a b i j 2).2.2 = true := by simpa [stepP] using hi2
      have h1 := l2 2 (by omega) (by omega) hok
      obtain ⟨_, _, _, h4⟩ := hI.succ hi hj hok
      have hc : cst 2 = 4 := rfl
      simp only [stepP] at h1 h4
      omega
    · have hok : (stepP a b i j 3).2.2 = true := by simp [stepP]; omega
      have h1 := l2 3 (by omega) (by omega) hok
      obtain ⟨_, _, _, h4⟩ := hI.succ hi hj hok
      have hc : cst 3 = 4 := rfl
      simp only [stepP] at h1 h4
      omega
  refine ⟨?_, up⟩
  rcases relC_mem a b T i j 5 0 (MX, 0) with h | ⟨e', g1, g2, g3, g4⟩
  · rw [h] at up
    simp only [MX] at up
    omega
  · rw [g4]
    obtain ⟨_, _, h3, _⟩ := hI.succ hi hj g3
    have := cst_le e' (by omega)
    simp only
    omega
theorem InvA.step {a b : List Int} {T C : Nat → Nat → Int} {i j : Nat} (hI : InvA a b T C i (j + 1)) (ha : a.length ≤ 96) (hb : b.length ≤ 96) (hi : i ≤ a.length) (hj : j ≤ b.length) (hne : ¬ (i = a.length ∧ j = b.length)) :
    InvA a b (upd T i j (relC a b T i j 5 0 (MX, 0)).1) (upd C i j (relC a b T i j 5 0 (MX, 0)).2) i j := by
  have hcong : ∀ i' j', (i < i' ∨ i' = i ∧ j ≤ j') → ∀ x, relC a b (upd T i j x) i' j' 5 0 (MX, 0) = relC a b T i' j' 5 0 (MX, 0) := fun i' j' h x => by
    refine relC_congr a b _ _ i' j' (fun e hok => ?_) 5 0 (MX, 0)
    have := step_gt hok
    exact upd_ne _ _ _ _ _ _ (by omega)
  refine ⟨fun i' j' h1 h2 h3 => ?_, fun i' j' h => ?_⟩
  · by_cases hij : i' = i ∧ j' = j
    · obtain ⟨rfl, rfl⟩ := hij
      rcases hI.bound hi hj hne with ⟨b1, b2⟩ | h | h
      · refine ⟨fun h => absurd h hne, fun _ => ⟨(relC a b T i' j' 5 0 (MX, 0)).2, ?_, ?_⟩, ?_, ?_⟩
        · rw [hcong _ _ h3, upd_same]
        · rw [upd_same]
        · rw [upd_same]; exact b1
        · rw [upd_same]; exact b2
      · omega
      · omega
    · obtain ⟨d1, d2, d3, d4⟩ := hI.done i' j' h1 h2 (by omega)
      have e1 : upd T i j (relC a b T i j 5 0 (MX, 0)).1 i' j' = T i' j' := upd_ne _ _ _ _ _ _ hij
      have e2 : upd C i j (relC a b T i j 5 0 (MX, 0)).2 i' j' = C i' j' := upd_ne _ _ _ _ _ _ hij
      refine ⟨fun h => ?_, fun h => ?_, ?_, ?_⟩
      · rw [e1]; exact d1 h
      · obtain ⟨c, c1, c2⟩ := d2 h
        exact ⟨c, by rw [hcong _ _ h3, e1]; exact c1, by rw [e2]; exact c2⟩
      · rw [e1]; exact d3
      · rw [e1]; exact d4
  · have hij : ¬ (i' = i ∧ j' = j) := by omega
    rw [upd_ne _ _ _ _ _ _ hij, upd_ne _ _ _ _ _ _ hij]
    exact hI.fresh i' j' (by omega)
theorem InvA.last {a b : List Int} {T C : Nat → Nat → Int} {i j : Nat} (hI : InvA a b T C i (j + 1)) (h : i = a.length ∧ j = b.length) : InvA a b T C i j := by
  refine ⟨fun i' j' h1 h2 h3 => ?_, fun i' j' h => hI.fresh i' j' (by omega)⟩
  by_cases hij : i' = i ∧ j' = j
  · obtain ⟨rfl, rfl⟩ := hij
    have := hI.fresh i' j' (by omega)
    exact ⟨fun _ => this.1, fun hn => absurd h hn, by omega, by omega⟩
  · exact hI.done i' j' h1 h2 (by omega)
theorem InvA.next {a b : List Int} {T C : Nat → Nat → Int} {i : Nat} (hI : InvA a b T C (i + 1) 0) : InvA a b T C i (b.length + 1) :=
  ⟨fun i' j' h1 h2 h3 => hI.done i' j' h1 h2 (by omega), fun i' j' h => hI.fresh i' j' (by omega)⟩
end Heard

open Go Go.Proofs Go.Abs
namespace Heard
theorem upd_id (T : Nat → Nat → Int) (i j : Nat) (v : Int) (h : T i j = v) : upd T i j v = T := by
  funext x y
  simp only [upd]
  split
  · rename_i c; rw [c.1, c.2, h]
  · rfl
set_option maxHeartbeats 4000000 in
set_option maxRecDepth 100000 in
theorem al_inner (a b : List Int) (ha : a.length ≤ 96) (hb : b.length ≤ 96) (N M bT bC : Nat) (hN : N = a.length + 1) (hM : M = b.length + 1) (hbb : bT + N < bC) (i : Nat) (hi : i < N) (Q : Out → Prop) : ∀ (k : Nat) (T C : Nat → Nat → Int) (H : Heap) (sl : List (Nat × AV)), k ≤ M → InvA a b T C i k → Tab H bT N M T → Tab H bC N M C →
    getS sl (.tup []) 0 = .lst (ints a) → getS sl (.tup []) 1 = .lst (ints b) → getS sl (.tup []) 7 = .ref bT N 0 N → getS sl (.tup []) 8 = .ref bC N 0 N → getS sl (.tup []) 9 = .int .i64 i → getS sl (.tup []) 10 = .int .i64 ((k : Int) - 1) →
    (∀ sl' H' T' C', InvA a b T' C' i 0 → Tab H' bT N M T' → Tab H' bC N M C' →
      getS sl' (.tup []) 0 = .lst (ints a) → getS sl' (.tup []) 1 = .lst (ints b) → getS sl' (.tup []) 7 = .ref bT N 0 N → getS sl' (.tup []) 8 = .ref bC N 0 N → getS sl' (.tup []) 9 = .int .i64 i → Q (.exit 2 ⟨143, .tup [], sl', []⟩ H')) →
    Gives (loopL env (lp Tryz.f8 1) ⟨143, .tup [], sl, []⟩ H) Q := by
  intro k
  induction k with
  | zero =>
    intro T C H sl hk hI hT hC g0 g1 g7 g8 g9 g10 q
    refine gives_loop ?_
    simp (disch := omega) [lp, Tryz.f8, loops, g10]
    exact q _ _ T C hI hT hC (by simp [g0]) (by simp [g1]) (by simp [g7]) (by simp [g8]) (by simp [g9])
  | succ k ih =>
    intro T C H sl hk hI hT hC g0 g1 g7 g8 g9 g10 q
    have g10' : getS sl (.tup []) 10 = .int .i64 k := by rw [g10]; congr 1; omega
    have hk0 : ¬ (k : Int) < 0 := by omega
    refine gives_loop ?_
    by_cases hn : i = a.length ∧ k = b.length
    · obtain ⟨hn1, hn2⟩ := hn
      have hn1' : (i : Int) = a.length := by omega
      have hn2' : (k : Int) = b.length := by omega
      simp (disch := omega) [lp, Tryz.f8, loops, g0, g1, g7, g8, g9, g10', hk0, hn1', hn2', wrapI, decT]
      exact ih T C H _ (by omega) (hI.last ⟨hn1, hn2⟩) hT hC (by simp [g0]) (by simp [g1]) (by simp [g7]) (by simp [g8]) (by simp [g9, hn1]) (by simp [hn2]) q
    · have hfr := hI.fresh i k (by omega)
      have hj : k < M := by omega
      have s1 := hT.st i k hi hj MX
      have hT1 := hT.set i k hi hj MX
      have hC1 := hC.other (bT + 1 + i) (.row false 1 (rowE M fun y => if y = k then MX else T i y)) (by omega)
      have r1 := hT.i1
      have r2 := hT.l1
      have r3 := hT.i2
      generalize H.set (bT + 1 + i) (.row false 1 (rowE M fun y => if y = k then MX else T i y)) = H1 at *
      rw [← upd_id C i k 0 hfr.2] at hC1
      have hTb : ∀ e, e < 5 → (stepP a b i k e).2.2 = true → 0 ≤ T (stepP a b i k e).1 (stepP a b i k e).2.1 ∧ T (stepP a b i k e).1 (stepP a b i k e).2.1 ≤ 1000000 := fun e _ hok => by
        obtain ⟨_, _, h3, h4⟩ := hI.succ (by omega) (by omega) hok
        omega
      have main : ∀ (Q' : Out → Prop) (sl : List (Nat × AV)), getS sl (.tup []) 0 = .lst (ints a) → getS sl (.tup []) 1 = .lst (ints b) → getS sl (.tup []) 7 = .ref bT N 0 N → getS sl (.tup []) 8 = .ref bC N 0 N → getS sl (.tup []) 9 = .int .i64 i → getS sl (.tup []) 10 = .int .i64 k → getS sl (.tup []) 57 = .int .i64 0 →
          (∀ sl' H' T' C', InvA a b T' C' i k → Tab H' bT N M T' → Tab H' bC N M C' → getS sl' (.tup []) 0 = .lst (ints a) → getS sl' (.tup []) 1 = .lst (ints b) → getS sl' (.tup []) 7 = .ref bT N 0 N → getS sl' (.tup []) 8 = .ref bC N 0 N → getS sl' (.tup []) 9 = .int .i64 i → getS sl' (.tup []) 10 = .int .i64 k → Q' (.exit 4 ⟨143, .tup [], sl', []⟩ H')) →
          Gives (loopL env (lp Tryz.f8 2) ⟨143, .tup [], sl, []⟩ H1) Q' := fun Q' sl k0 k1 k7 k8 k9 k10 k57 hq =>
        al_edit a b ha hb N M bT bC hN hM hbb i k hi hj T C hTb Q' 5 0 MX 0 H1 sl rfl hT1 hC1 k0 k1 k7 k8 k9 k10 k57 fun sl' H' t1 t2 m0 m1 m7 m8 m9 m10 => hq sl' H' _ _ (hI.step ha hb (by omega) (by omega) hn) t1 t2 m0 m1 m7 m8 m9 m10
      have hxx : (9223372036854775807 : Int) = MX := rfl
      by_cases hi2 : i = a.length
      · have hn3 : ¬ k = b.length := by omega
        simp (disch := omega) [-loadP, -storeP, lp, Tryz.f8, loops, g0, g1, g7, g8, g9, g10', hk0, wrapI, decT, decF, r1, r2, r3, s1, hxx]
        generalize hx : loopL env _ _ _ = L
        apply gives_cut hx
        clear hx
        refine main _ _ (by simp [g0]) (by simp [g1]) (by simp [g7]) (by simp [g8]) (by simp [g9]) (by simp [g10']) (by simp) (fun sl' H' T' C' hI' t1 t2 k0 k1 k7 k8 k9 k10 => ?_)
        simp (disch := omega) [k10, wrapI]
        exact ih T' C' H' _ (by omega) hI' t1 t2 (by simp [k0]) (by simp [k1]) (by simp [k7]) (by simp [k8]) (by simp [k9]) (by simp) q
      · simp (disch := omega) [-loadP, -storeP, lp, Tryz.f8, loops, g0, g1, g7, g8, g9, g10', hk0, wrapI, decT, decF, r1, r2, r3, s1, hxx]
        generalize hx : loopL env _ _ _ = L
        apply gives_cut hx
        clear hx
        refine main _ _ (by simp [g0]) (by simp [g1]) (by simp [g7]) (by simp [g8]) (by simp [g9]) (by simp [g10']) (by simp) (fun sl' H' T' C' hI' t1 t2 k0 k1 k7 k8 k9 k10 => ?_)
        simp (disch := omega) [k10, wrapI]
        exact ih T' C' H' _ (by omega) hI' t1 t2 (by simp [k0]) (by simp [k1]) (by simp [k7]) (by simp [k8]) (by simp [k9]) (by simp) q
end Heard

open Go Go.Proofs Go.Abs
namespace Heard
set_option maxHeartbeats 4000000 in
set_option maxRecDepth 100000 in
theorem al_outer (a b : List Int) (ha : a.length ≤ 96) (hb : b.length ≤ 96) (N M bT bC : Nat) (hN : N = a.length + 1) (hM : M = b.length + 1) (hbb : bT + N < bC) (Q : Out → Prop) : ∀ (k : Nat) (T C : Nat → Nat → Int) (H : Heap) (sl : List (Nat × AV)), k ≤ N → InvA a b T C k 0 → Tab H bT N M T → Tab H bC N M C →
    getS sl (.tup []) 0 = .lst (ints a) → getS sl (.tup []) 1 = .lst (ints b) → getS sl (.tup []) 7 = .ref bT N 0 N → getS sl (.tup []) 8 = .ref bC N 0 N → getS sl (.tup []) 9 = .int .i64 ((k : Int) - 1) →
    (∀ sl' H' T' C', InvA a b T' C' 0 0 → Tab H' bT N M T' → Tab H' bC N M C' →
      getS sl' (.tup []) 0 = .lst (ints a) → getS sl' (.tup []) 1 = .lst (ints b) → getS sl' (.tup []) 7 = .ref bT N 0 N → getS sl' (.tup []) 8 = .ref bC N 0 N → Q (.exit 0 ⟨143, .tup [], sl', []⟩ H')) →
    Gives (loopL env (lp Tryz.f8 0) ⟨143, .tup [], sl, []⟩ H) Q := by
  intro k
  induction k with
  | zero =>
    intro T C H sl hk hI hT hC g0 g1 g7 g8 g9 q
    refine gives_loop ?_
    simp (disch := omega) [lp, Tryz.f8, loops, g9]
    exact q _ _ T C hI hT hC (by simp [g0]) (by simp [g1]) (by simp [g7]) (by simp [g8])
  | succ k ih =>
    intro T C H sl hk hI hT hC g0 g1 g7 g8 g9 q
    have g9' : getS sl (.tup []) 9 = .int .i64 k := by rw [g9]; congr 1; omega
    have hk0 : ¬ (k : Int) < 0 := by omega
    refine gives_loop ?_
    simp (disch := omega) [lp, Tryz.f8, loops, g0, g1, g7, g8, g9', hk0, wrapI]
    generalize hx : loopL env _ _ _ = L
    apply gives_cut hx
    clear hx
    refine al_inner a b ha hb N M bT bC hN hM hbb k (by omega) _ M T C H _ (Nat.le_refl _) (by rw [hM]; exact hI.next) hT hC (by simp [g0]) (by simp [g1]) (by simp [g7]) (by simp [g8]) (by simp [g9']) (by simp [hM]) (fun sl' H' T' C' hI' t1 t2 k0 k1 k7 k8 k9 => ?_)
    simp (disch := omega) [k9, wrapI]
    exact ih T' C' H' _ (by omega) hI' t1 t2 (by simp [k0]) (by simp [k1]) (by simp [k7]) (by simp [k8]) (by simp) q
theorem Done.edit {a b : List Int} {T C : Nat → Nat → Int} {i j : Nat} (hD : Done a b T C i j) (ha : a.length ≤ 96) (hb : b.length ≤ 96) (hne : ¬ (i = a.length ∧ j = b.length)) :
    ∃ c : Nat, c < 5 ∧ C i j = c ∧ (stepP a b i j c).2.2 = true ∧ T i j = cst c + T (stepP a b i j c).1 (stepP a b i j c).2.1 := by
  obtain ⟨_, d2, d3, d4⟩ := hD
  obtain ⟨c, h1, h2⟩ := d2 hne
  rcases relC_mem a b T i j 5 0 (MX, 0) with h | ⟨e', g1, g2, g3, g4⟩
  · rw [h] at h1
    simp only [Prod.mk.injEq, MX] at h1
    omega
  · rw [g4] at h1
    simp only [Prod.mk.injEq] at h1
    obtain ⟨h5, h6⟩ := h1
    subst h6
    exact ⟨e', by omega, h2, g3, h5.symm⟩
theorem nats'_snoc (p : List Nat) (c : Nat) : ints (nats' p) ++ [.int .i64 c] = ints (nats' (p ++ [c])) := by simp [ints, nats']
theorem nats'_snoc2 (p : List Nat) (c : Nat) : nats' p ++ [(c : Int)] = nats' (p ++ [c]) := by simp [nats']
theorem nats'_length (p : List Nat) : (nats' p).length = p.length := by simp [nats']
attribute [simp] nats'_length
set_option maxHeartbeats 4000000 in
set_option maxRecDepth 100000 in
theorem al_path (a b : List Int) (ha : a.length ≤ 96) (hb : b.length ≤ 96) (N M bT bC L : Nat) (hN : N = a.length + 1) (hM : M = b.length + 1) (hL : bT + N < L) (hL2 : bC + N < L) (T C : Nat → Nat → Int) (hI : InvA a b T C 0 0) (Q : Out → Prop) : ∀ (k i j : Nat) (p : List Nat) (G : Heap) (sl : List (Nat × AV)), i ≤ a.length → j ≤ b.length → (a.length - i) + (b.length - j) ≤ k → p.length ≤ i + j → Tab G bT N M T → Tab G bC N M C → G[L]? = some (.row false 1 (ints (nats' p))) →
    getS sl (.tup []) 0 = .lst (ints a) → getS sl (.tup []) 1 = .lst (ints b) → getS sl (.tup []) 7 = .ref bT N 0 N → getS sl (.tup []) 8 = .ref bC N 0 N → getS sl (.tup []) 16 = .ref L p.length 0 p.length → getS sl (.tup []) 17 = .int .i64 i → getS sl (.tup []) 18 = .int .i64 j →
    (∀ sl' G' p', (∀ s, walk a b p' i j s = some (a.length, b.length, s + T i j)) → (∀ e ∈ p', e < 5) → p'.length ≤ k → Tab G' bT N M T → G'[L]? = some (.row false 1 (ints (nats' (p ++ p')))) →
      getS sl' (.tup []) 7 = .ref bT N 0 N → getS sl' (.tup []) 16 = .ref L (p ++ p').length 0 (p ++ p').length → Q (.exit 6 ⟨143, .tup [], sl', []⟩ G')) →
    Gives (loopL env (lp Tryz.f8 3) ⟨143, .tup [], sl, []⟩ G) Q := by
  intro k
  have stop : ∀ (k i j : Nat) (p : List Nat) (G : Heap) (sl : List (Nat × AV)), i = a.length → j = b.length → Tab G bT N M T → G[L]? = some (.row false 1 (ints (nats' p))) →
      getS sl (.tup []) 0 = .lst (ints a) → getS sl (.tup []) 1 = .lst (ints b) → getS sl (.tup []) 7 = .ref bT N 0 N → getS sl (.tup []) 16 = .ref L p.length 0 p.length → getS sl (.tup []) 17 = .int .i64 i → getS sl (.tup []) 18 = .int .i64 j →
      (∀ sl' G' p', (∀ s, walk a b p' i j s = some (a.length, b.length, s + T i j)) → (∀ e ∈ p', e < 5) → p'.length ≤ k → Tab G' bT N M T → G'[L]? = some (.row false 1 (ints (nats' (p ++ p')))) →
        getS sl' (.tup []) 7 = .ref bT N 0 N → getS sl' (.tup []) 16 = .ref L (p ++ p').length 0 (p ++ p').length → Q (.exit 6 ⟨143, .tup [], sl', []⟩ G')) →
      Gives (loopL env (lp Tryz.f8 3) ⟨143, .tup [], sl, []⟩ G) Q := by
    intro k i j p G sl hi hj hT hG g0 g1 g7 g16 g17 g18 q
    have hz : T i j = 0 := (hI.done i j (by omega) (by omega) (by omega)).1 ⟨hi, hj⟩
    subst hi hj
    refine gives_loop ?_
    simp (disch := omega) [lp, Tryz.f8, loops, g0, g1, g17, g18]
    exact q _ G [] (fun s => by simp [walk, hz]) (fun e he => by cases he) (by simp) hT (by simpa using hG) (by simp [g7]) (by simp [g16])
  induction k with
  | zero =>
    intro i j p G sl hi hj hk hp hT hC hG g0 g1 g7 g8 g16 g17 g18 q
    exact stop 0 i j p G sl (by omega) (by omega) hT hG g0 g1 g7 g16 g17 g18 q
  | succ k ih =>
    intro i j p G sl hi hj hk hp hT hC hG g0 g1 g7 g8 g16 g17 g18 q
    by_cases hne : i = a.length ∧ j = b.length
    · exact stop (k + 1) i j p G sl hne.1 hne.2 hT hG g0 g1 g7 g16 g17 g18 q
    obtain ⟨c, hc5, hCc, hok, hTc⟩ := (hI.done i j hi hj (by omega)).edit ha hb hne
    have c1 := c23 a b i j c ha hb hi hj hc5
    have hs := step_gt hok
    have hs2 := stepP_le hok
    have hw : ∀ p' s, walk a b (c :: p') i j s = walk a b p' (stepP a b i j c).1 (stepP a b i j c).2.1 (s + cst c) := fun p' s => by simp only [walk]; rw [if_pos hok]
    have r1 := hC.i1
    have r2 := hC.l1
    have r3 := hC.i2
    have r4 := hC.l2 i j (by omega) (by omega)
    rw [hCc] at r4
    have hGl := (List.getElem?_eq_some_iff.1 hG).1
    have hG2 : ∀ t : Heap, (G ++ t)[L]? = some (.row false 1 (ints (nats' p))) := fun t => by rw [List.getElem?_append_left hGl]; exact hG
    have next : ∀ (sl : List (Nat × AV)), getS sl (.tup []) 0 = .lst (ints a) → getS sl (.tup []) 1 = .lst (ints b) → getS sl (.tup []) 7 = .ref bT N 0 N → getS sl (.tup []) 8 = .ref bC N 0 N → getS sl (.tup []) 16 = .ref L (p.length + 1) 0 (p.length + 1) → getS sl (.tup []) 17 = .int .i64 (stepP a b i j c).1 → getS sl (.tup []) 18 = .int .i64 (stepP a b i j c).2.1 →
        Gives (loopL env (lp Tryz.f8 3) ⟨143, .tup [], sl, []⟩ (G.set L (.row false 1 (ints (nats' (p ++ [c])))) ++ [Ent.row false 1 [.int .i64 c]])) Q := by
      intro sl k0 k1 k7 k8 k16 k17 k18
      refine ih _ _ (p ++ [c]) _ sl (by omega) (by omega) (by omega) (by simp; omega) ((hT.other L _ (by omega)).app _) ((hC.other L _ (by omega)).app _) ?_ k0 k1 k7 k8 (by simp [k16]) k17 k18 (fun sl' G' p' h1 h2 h3 h4 h5 h6 h7 => ?_)
      · rw [List.getElem?_append_left (by simpa using hGl), List.getElem?_set_self hGl]
      · refine q sl' G' (c :: p') (fun s => ?_) (fun e he => ?_) (by simp; omega) h4 (by simpa using h5) h6 (by simpa using h7)
        · rw [hw, h1, hTc]; congr 3; omega
        · rcases List.mem_cons.1 he with rfl | he
          · exact hc5
          · exact h2 e he
    generalize stepP a b i j c = st at *
    refine gives_loop ?_
    by_cases hi2 : i < a.length
    · simp (disch := omega) [-loadP, lp, Tryz.f8, loops, g0, g1, g7, g8, g16, g17, g18, decT, r1, r2, r3, r4, c1, hG2, nats'_snoc2]
      exact next _ (by simp [g0]) (by simp [g1]) (by simp [g7]) (by simp [g8]) (by simp) (by simp) (by simp)
    · simp (disch := omega) [-loadP, lp, Tryz.f8, loops, g0, g1, g7, g8, g16, g17, g18, decT, decF, r1, r2, r3, r4, c1, hG2, nats'_snoc2]
      exact next _ (by simp [g0]) (by simp [g1]) (by simp [g7]) (by simp [g8]) (by simp) (by simp) (by simp)
def P8 (a b : List Int) (x : (Nat → Nat → Int) × (Nat → Nat → Int) × List Nat) (r : AV × Heap) : Prop :=
  InvA a b x.1 x.2.1 0 0 ∧ walk a b x.2.2 0 0 0 = some (a.length, b.length, x.1 0 0) ∧ (∀ e ∈ x.2.2, e < 5) ∧ x.2.2.length ≤ 200 ∧ snap .any depth r.2 r.1 = some (.tup [.lst (ints (nats' x.2.2)), .int .i64 (x.1 0 0), .int .i64 0])
theorem inv0 (a b : List Int) : InvA a b (fun _ _ => 0) (fun _ _ => 0) (a.length + 1) 0 :=
  ⟨fun i' j' h1 h2 h3 => by omega, fun _ _ _ => ⟨rfl, rfl⟩⟩
set_option maxHeartbeats 4000000 in
set_option maxRecDepth 100000 in
theorem align_ok (a b : List Int) (ha : a.length ≤ 96) (hb : b.length ≤ 96) :
    ∃ (T C : Nat → Nat → Int) (p : List Nat), InvA a b T C 0 0 ∧ walk a b p 0 0 0 = some (a.length, b.length, T 0 0) ∧ (∀ e ∈ p, e < 5) ∧ p.length ≤ 200 ∧ ∃ r, callL env 8 [.lst (ints a), .lst (ints b)] [] = some r ∧ snap .any depth r.2 r.1 = some (.tup [.lst (ints (nats' p)), .int .i64 (T 0 0), .int .i64 0]) := by
  suffices hh : Gives (callL env 8 [.lst (ints a), .lst (ints b)] []) fun r => ∃ (T C : Nat → Nat → Int) (p : List Nat), InvA a b T C 0 0 ∧ walk a b p 0 0 0 = some (a.length, b.length, T 0 0) ∧ (∀ e ∈ p, e < 5) ∧ p.length ≤ 200 ∧ snap .any depth r.2 r.1 = some (.tup [.lst (ints (nats' p)), .int .i64 (T 0 0), .int .i64 0]) by
    obtain ⟨r, hr, T, C, p, h1, h2, h3, h4, h5⟩ := gives_iff.1 hh
    exact ⟨T, C, p, h1, h2, h3, h4, r, hr, h5⟩
  refine gives_imp (Q := fun r => ∃ x : (Nat → Nat → Int) × (Nat → Nat → Int) × List Nat, P8 a b x r) ?_ (fun r ⟨x, h⟩ => ⟨x.1, x.2.1, x.2.2, h⟩)
  generalize hQ : (fun r => ∃ x, P8 a b x r) = Q
  have p2 := pl8_2
  simp only [dr, drs, Tryz.f8, List.append_nil, List.nil_append, List.cons_append, nth_zero, nth_succ] at p2
  apply gives_call
  have e1 : decide (96 < a.length) = false := decF (by omega)
  have e2 : decide (96 < b.length) = false := decF (by omega)
  obtain ⟨H1, k1, k2, k3⟩ := c22 a b 0 ha hb [Ent.row false 1 []]
  obtain ⟨H2, m1, m2, m3⟩ := c22 a b 0 ha hb H1
  have hT := k2.pre m3
  have hlen : [Ent.row false 1 []].length + 1 + (a.length + 1) < H1.length := (List.getElem?_eq_some_iff.1 (k2.rows a.length (by omega))).1 |> fun h => by omega
  have hlen2 : H1.length + 1 + (a.length + 1) < H2.length := (List.getElem?_eq_some_iff.1 (m2.rows a.length (by omega))).1 |> fun h => by omega
  simp only [List.length_cons, List.length_nil, Nat.zero_add] at k1 hT hlen
  have hi0 := inv0 a b
  simp (disch := omega) [-loadP, Tryz.f8, c21, e1, e2, k1, m1]
  generalize hx : loopL env _ _ _ = L
  apply gives_cut hx
  clear hx
  refine al_outer a b ha hb (a.length + 1) (b.length + 1) 2 (H1.length + 1) rfl rfl (by omega) _ (a.length + 1) _ _ H2 _ (Nat.le_refl _) hi0 hT m2 (by simp) (by simp) (by simp) (by simp) (by simp) (fun sl' H' T C hI t1 t2 g0 g1 g7 g8 => ?_)
  have hlen3 : 2 + (a.length + 1) < H'.length := (List.getElem?_eq_some_iff.1 (t1.rows a.length (by omega))).1 |> fun h => by omega
  have hlen4 : H1.length + 1 + (a.length + 1) < H'.length := (List.getElem?_eq_some_iff.1 (t2.rows a.length (by omega))).1 |> fun h => by omega
  simp (disch := omega) [-loadP, g0, g1, g7, g8]
  generalize hx : loopL env _ _ _ = L
  apply gives_cut hx
  clear hx
  refine al_path a b ha hb (a.length + 1) (b.length + 1) 2 (H1.length + 1) H'.length rfl rfl hlen3 hlen4 T C hI _ (a.length + b.length) 0 0 [] _ _ (by omega) (by omega) (by omega) (by simp) (t1.app _) (t2.app _) (get_app0 H' _) (by simp [g0]) (by simp [g1]) (by simp [g7]) (by simp [g8]) (by simp) (by simp) (by simp) (fun sl' G' p' h1 h2 h3 h4 h5 k7 k16 => ?_)
  have r1 := h4.i1
  have r2 := h4.l1
  have r3 := h4.i2
  have r4 := h4.l2 0 0 (by omega) (by omega)
  have r1' := r1 0 (by omega) (by omega)
  have r3' := r3 0 (by omega) 0 (by omega) (by omega)
  have r2' := r2 0 (by omega)
  simp only [Int.toNat_zero] at r1' r3'
  simp only [List.nil_append] at h5 k16
  simp (disch := omega) [-loadP, k7, k16, regionD_plain p2, r1', r2', r3', r4]
  subst hQ
  refine ⟨(T, C, p'), hI, by simpa using h1 0, h2, by simp only; omega, ?_⟩
  show (List.mapM (snap .any 11 _) _).map AV.tup = _
  simp only [List.mapM_cons, List.mapM_nil]
  rw [snap_rints (d := 9) (by simp) (l := nats' p') h5 (by simp)]
  rfl
end Heard
