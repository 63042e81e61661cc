/- TopRival: the table of the relations. -/
import Derived.Test.YtgdcimpndddepaaGreatRC
/- TopRival: the table of the relations. -/
open Go Go.Proofs Go.Abs
namespace Rival
theorem ix25 {H : Heap} {b n : Nat} {ro : Bool} {es : List AV} {i : Int} (hb : H[b]? = some (.row ro 1 es)) (hl : es.length = n) (h0 : 0 ≤ i) (h1 : i < n) : indexAddrA env 25 H (.ref b n 0 n) (.int .i64 i) = some (.ptr b n i.toNat 0) := by
  unfold indexAddrA
  simp [hb, hl, h0, h1]
theorem ix33 {H : Heap} {b n : Nat} {ro : Bool} {es : List AV} {i : Int} (hb : H[b]? = some (.row ro 1 es)) (hl : es.length = n) (h0 : 0 ≤ i) (h1 : i < n) : indexAddrA env 33 H (.ref b n 0 n) (.int .i64 i) = some (.ptr b n i.toNat 0) := by
  unfold indexAddrA
  simp [hb, hl, h0, h1]
theorem ldP {H : Heap} {b n i : Nat} {ro : Bool} {es : List AV} {v : AV} (hb : H[b]? = some (.row ro 1 es)) (hl : es.length = n) (hi : es[i]? = some v) (hv : v.cells = [v]) : loadP H false 1 (.ptr b n i 0) = some v := by
  unfold loadP
  simp only [hb, hl, if_true, hi, Option.bind_some, loadE, hv, cond_false]
  rfl
theorem stP {H : Heap} {b n i : Nat} {es : List AV} {v w : AV} (hb : H[b]? = some (.row false 1 es)) (hl : es.length = n) (hi : es[i]? = some w) (hw : setE w 0 [v] = some v) (hv : v.cells = [v]) (h1 : v.one = true) : storeP H 1 (.ptr b n i 0) v = some (H.set b (.row false 1 (es.set i v))) := by
  unfold storeP
  simp [-setE, hb, hl, hi, hv, h1, hw]
theorem load_ref (b g s n : Nat) : loadE false 1 (.ref b g s n) 0 = some (.ref b g s n) := rfl
theorem load_nil : loadE false 1 .nil 0 = some .nil := rfl
theorem load_lst (es : List AV) : loadE false 1 (.lst es) 0 = some (.lst es) := rfl
theorem load_bool (b : Bool) : loadE false 1 (.bool b) 0 = some (.bool b) := rfl
attribute [simp] load_ref load_nil load_lst load_bool
theorem setE1_int (k : IntKind) (x : Int) : setE1 0 [.int k x] = some (.int k x) := rfl
theorem setE1_ref (b g s n : Nat) : setE1 0 [.ref b g s n] = some (.ref b g s n) := rfl
theorem setE1_bool (b : Bool) : setE1 0 [.bool b] = some (.bool b) := rfl
theorem setE1_nil : setE1 0 [.nil] = some .nil := rfl
attribute [simp] setE1_int setE1_ref setE1_bool setE1_nil
theorem nthIs {v : List Int} {i : Nat} (h : i < v.length) : (ints v)[i]? = some (.int .i64 (nth 0 v i)) := by
  simp [ints, h, nth_getD, List.getD_eq_getElem?_getD]
theorem ints_set (v : List Int) (i : Nat) (x : Int) : (ints v).set i (.int .i64 x) = ints (v.set i x) := by simp [ints, List.map_set]
/-- Row x of the table, done up to j. -/
def kRow (l : List It) (x j : Nat) : List Int := (List.range l.length).map fun y => if y < j then kindV l x y else 0
theorem kRow_length (l : List It) (x j : Nat) : (kRow l x j).length = l.length := by simp [kRow]
attribute [simp] kRow_length
theorem kRow_set (l : List It) (x j : Nat) : (kRow l x j).set j (kindV l x j) = kRow l x (j + 1) := by
  apply List.ext_getElem (by simp)
  intro i h1 h2
  simp only [List.getElem_set, kRow, List.getElem_map, List.getElem_range]
  by_cases h : j = i
  · subst h; simp
  · by_cases h3 : i < j
    · simp [h, h3, show i < j + 1 by omega]
    · simp [h, h3, show ¬ i < j + 1 by omega]
theorem kRow_skip (l : List It) (x j : Nat) (h : kindV l x j = 0) : kRow l x j = kRow l x (j + 1) := by
  unfold kRow
  apply List.map_congr_left
  intro i _
  by_cases h3 : i < j
  · simp [h3, show i < j + 1 by omega]
  · by_cases h4 : i = j
    · subst h4; simp [h]
    · simp [h3, show ¬ i < j + 1 by omega]
theorem od32_0 : orderOf (dr Tryz.f32 0) = od14 := by kernel_rfl
theorem ok32_0 : okD (dr Tryz.f32 0) od14 = true := by kernel_rfl
set_option maxRecDepth 100000 in
set_option maxHeartbeats 4000000 in
theorem rel_inner (l : List It) (w : Int) (hl : l.length ≤ 96) (b : Nat) (hb : 1 ≤ b) (x p : Nat) (hx : x < l.length) (outs : List AV) (ho : outs.length = l.length) (hox : outs[x]? = some (.ref p l.length 0 l.length)) (hp : b < p) (Q : Out → Prop) : ∀ (n j : Nat) (H : Heap) (sl : List (Nat × AV)), j + n = l.length →
    H[0]? = some (.row false 2 [jobV l w]) → H[b]? = some (.row false 1 outs) → H[p]? = some (.row false 1 (ints (kRow l x j))) →
    ∀ A B, getS sl (.tup []) 13 = A → getS sl (.tup []) 14 = B →
    getS sl (.tup []) 1 = .ptr 0 1 0 0 → getS sl (.tup []) 3 = .ref b l.length 0 l.length → getS sl (.tup []) 4 = .int .i64 x → getS sl (.tup []) 28 = .int .i64 l.length → getS sl (.tup []) 29 = .int .i64 j →
    (∀ sl' H', H.length ≤ H'.length → H'[0]? = some (.row false 2 [jobV l w]) → H'[b]? = some (.row false 1 outs) → H'[p]? = some (.row false 1 (ints (kRow l x l.length))) → (∀ q, q ≠ p → q < H.length → H'[q]? = H[q]?) →
      getS sl' (.tup []) 13 = A → getS sl' (.tup []) 14 = B → getS sl' (.tup []) 1 = .ptr 0 1 0 0 → getS sl' (.tup []) 3 = .ref b l.length 0 l.length → Q (.exit 2 ⟨74, .tup [], sl', []⟩ H')) →
    Gives (loopL env (lp Tryz.f32 1) ⟨74, .tup [], sl, []⟩ H) Q := by
  have o := od32_0
  have k := ok32_0
  simp [dr, drs, Tryz.f32] at o k
  intro n
  induction n with
  | zero =>
    intro j H sl hj H0 H1 Hp A B gA gB g1 g3 g4 g28 g29 q
    refine gives_loop ?_
    obtain rfl : j = l.length := by omega
    simp (disch := omega) [lp, Tryz.f32, loops, g28, g29, decF]
    exact q _ _ (Nat.le_refl _) H0 H1 Hp (fun _ _ _ => rfl) (by simp [gA]) (by simp [gB]) (by simp [g1]) (by simp [g3])
  | succ n ih =>
    intro j H sl hj H0 H1 Hp A B gA gB g1 g3 g4 g28 g29 q
    refine gives_loop ?_
    have hlen : p < H.length := (List.getElem?_eq_some_iff.1 Hp).1
    have H0' : ∀ t, (H ++ t)[0]? = some (.row false 2 [jobV l w]) := fun t => by rw [List.getElem?_append_left (by omega), H0]
    simp only [jobV] at H0'
    have H1' : ∀ t, (H ++ t)[b]? = some (.row false 1 outs) := fun t => by rw [List.getElem?_append_left (by omega), H1]
    have Hp' : ∀ t, (H ++ t)[p]? = some (.row false 1 (ints (kRow l x j))) := fun t => by rw [List.getElem?_append_left (by omega), Hp]
    have en := nthIs (v := kRow l x j) (i := j) (by simp; omega)
    have ks := kRow_set l x j
    have hkl : (ints (kRow l x j)).length = l.length := by simp
    have hxe : ∀ h : x < outs.length, outs[x] = .ref p l.length 0 l.length := fun h => by rw [List.getElem?_eq_getElem h] at hox; simpa using hox
    have ene : ∀ h : j < (ints (kRow l x j)).length, (ints (kRow l x j))[j] = .int .i64 (nth 0 (kRow l x j) j) := fun h => by rw [List.getElem?_eq_getElem h] at en; simpa using en
    have fin : ∀ (H' : Heap) (sl' : List (Nat × AV)), H.length ≤ H'.length → H'[0]? = some (.row false 2 [jobV l w]) → H'[b]? = some (.row false 1 outs) → H'[p]? = some (.row false 1 (ints (kRow l x (j + 1)))) → (∀ q, q ≠ p → q < H.length → H'[q]? = H[q]?) →
        getS sl' (.tup []) 13 = A → getS sl' (.tup []) 14 = B → getS sl' (.tup []) 1 = .ptr 0 1 0 0 → getS sl' (.tup []) 3 = .ref b l.length 0 l.length → getS sl' (.tup []) 4 = .int .i64 x → getS sl' (.tup []) 28 = .int .i64 l.length → getS sl' (.tup []) 29 = .int .i64 ((j : Int) + 1) →
        Gives (loopL env (lp Tryz.f32 1) ⟨74, .tup [], sl', []⟩ H') Q := by
      intro H' sl' f1 f2 f3 f4 f5 f6 f7 f8 f9 f10 f11 f12
      refine ih (j + 1) H' sl' (by omega) f2 f3 f4 A B f6 f7 f8 f9 f10 f11 (by simpa using f12) (fun sl2 H2 k1 k2 k3 k4 k5 k6 k7 k8 k9 => q sl2 H2 (by omega) k2 k3 k4 (fun r hr1 hr2 => (k5 r hr1 (by omega)).trans (f5 r hr1 hr2)) k6 k7 k8 k9)
    clear ih q
    have t0 : ∀ t v, (H.set p v ++ t)[0]? = some (.row false 2 [jobV l w]) := fun t v => by rw [List.getElem?_append_left (by simp; omega), List.getElem?_set_ne (by omega), H0]
    have t1 : ∀ t v, (H.set p v ++ t)[b]? = some (.row false 1 outs) := fun t v => by rw [List.getElem?_append_left (by simp; omega), List.getElem?_set_ne (by omega), H1]
    have t2 : ∀ t v, (H.set p v ++ t)[p]? = some v := fun t v => by rw [List.getElem?_append_left (by simp; omega), List.getElem?_set_self (by omega)]
    have t3 : ∀ t v q, q ≠ p → q < H.length → (H.set p v ++ t)[q]? = H[q]? := fun t v q hq hl => by rw [List.getElem?_append_left (by simp; omega), List.getElem?_set_ne (Ne.symm hq)]
    simp [lp, Tryz.f32, loops] at fin
    by_cases h1 : (nth default l x).t = (nth default l j).t
    · by_cases h2 : (nth default l j).b ≤ (nth default l x).b
      · have hk : kindV l x j = 0 := by simp [kindV, h2]
        rw [kRow_skip l x j hk] at Hp
        simp (disch := omega) [lp, Tryz.f32, loops, g1, g3, g4, g28, g29, jobV, regionD_ok o k, od14, runD, index_its, clsOf, extP, wantedA, act, gone_none, gone_gone, isGone, pads, held, quiet, Pend.holds, still, opA, h1, h2, decT, wrapI, H0']
        refine fin _ _ (by simp) (H0' _) (H1' _) (by rw [List.getElem?_append_left (by omega), Hp]) (fun q _ hq => List.getElem?_append_left hq) ?_ ?_ ?_ ?_ ?_ ?_ ?_ <;> simp [gA, gB, g1, g3, g4, g28]
      · by_cases h3 : j < x
        · have hk : kindV l x j = 2 := by simp [kindV, h1, h2, h3]
          rw [hk] at ks
          simp (disch := omega) [lp, Tryz.f32, loops, g1, g3, g4, g28, g29, jobV, regionD_ok o k, od14, runD, index_its, clsOf, extP, wantedA, act, gone_none, gone_gone, isGone, pads, held, quiet, Pend.holds, still, opA, h1, h2, h3, decT, wrapI, H0', H1', Hp', ix33 (H1' _) ho, ix25 (Hp' _) hkl, hox, ho, en, hxe, ene, ints_set, ks]
          refine fin _ _ (by simp) (t0 _ _) (t1 _ _) (t2 _ _) (t3 _ _) ?_ ?_ ?_ ?_ ?_ ?_ ?_ <;> simp [gA, gB, g1, g3, g4, g28]
        · have hk : kindV l x j = 1 := by simp [kindV, h1, h2, h3]
          rw [hk] at ks
          simp (disch := omega) [lp, Tryz.f32, loops, g1, g3, g4, g28, g29, jobV, regionD_ok o k, od14, runD, index_its, clsOf, extP, wantedA, act, gone_none, gone_gone, isGone, pads, held, quiet, Pend.holds, still, opA, h1, h2, h3, decT, wrapI, H0', H1', Hp', ix33 (H1' _) ho, ix25 (Hp' _) hkl, hox, ho, en, hxe, ene, ints_set, ks]
          refine fin _ _ (by simp) (t0 _ _) (t1 _ _) (t2 _ _) (t3 _ _) ?_ ?_ ?_ ?_ ?_ ?_ ?_ <;> simp [gA, gB, g1, g3, g4, g28]
    · have hk : kindV l x j = 0 := by simp [kindV, h1]
      rw [kRow_skip l x j hk] at Hp
      simp (disch := omega) [lp, Tryz.f32, loops, g1, g3, g4, g28, g29, jobV, regionD_ok o k, od14, runD, index_its, clsOf, extP, wantedA, act, gone_none, gone_gone, isGone, pads, held, quiet, Pend.holds, still, opA, h1, decT, wrapI, H0']
      refine fin _ _ (by simp) (H0' _) (H1' _) (by rw [List.getElem?_append_left (by omega), Hp]) (fun q _ hq => List.getElem?_append_left hq) ?_ ?_ ?_ ?_ ?_ ?_ ?_ <;> simp [gA, gB, g1, g3, g4, g28]
end Rival

/- TopRival: leastcode.relations. -/
open Go Go.Proofs Go.Abs
namespace Rival
def kTab (l : List It) : List (List Int) := (List.range l.length).map fun x => kRow l x l.length
def tabV (t : List (List Int)) : List AV := t.map fun r => .lst (ints r)
/-- The rows that are done. -/
def Done (l : List It) (b : Nat) (H : Heap) (outs : List AV) (i : Nat) : Prop := ∀ k, k < i → ∃ p, outs[k]? = some (.ref p l.length 0 l.length) ∧ b < p ∧ p < H.length ∧ H[p]? = some (.row false 1 (ints (kRow l k l.length)))
theorem kRow_zero (l : List It) (x : Nat) : ints (kRow l x 0) = List.replicate l.length (.int .i64 0) := by
  apply List.ext_getElem (by simp)
  intro i h1 h2
  simp [ints, kRow]
set_option maxRecDepth 100000 in
set_option maxHeartbeats 4000000 in
theorem rel_outer (l : List It) (w : Int) (hl : l.length ≤ 96) (b : Nat) (hb : 1 ≤ b) (Q : Out → Prop) : ∀ (n i : Nat) (H : Heap) (outs : List AV) (sl : List (Nat × AV)), i + n = l.length →
    H[0]? = some (.row false 2 [jobV l w]) → H[b]? = some (.row false 1 outs) → outs.length = l.length → Done l b H outs i → (∀ k, i ≤ k → k < l.length → outs[k]? = some .nil) →
    getS sl (.tup []) 1 = .ptr 0 1 0 0 → getS sl (.tup []) 3 = .ref b l.length 0 l.length → getS sl (.tup []) 13 = .int .i64 l.length → getS sl (.tup []) 14 = .int .i64 i →
    (∀ sl' H' outs', H'[b]? = some (.row false 1 outs') → outs'.length = l.length → Done l b H' outs' l.length → getS sl' (.tup []) 3 = .ref b l.length 0 l.length → Q (.exit 0 ⟨74, .tup [], sl', []⟩ H')) →
    Gives (loopL env (lp Tryz.f32 0) ⟨74, .tup [], sl, []⟩ H) Q := by
  intro n
  induction n with
  | zero =>
    intro i H outs sl hi H0 H1 ho hd hn g1 g3 g13 g14 q
    obtain rfl : i = l.length := by omega
    refine gives_loop ?_
    simp (disch := omega) [lp, Tryz.f32, loops, g13, g14, decF]
    exact q _ _ _ H1 ho hd (by simp [g3])
  | succ n ih =>
    intro i H outs sl hi H0 H1 ho hd hn g1 g3 g13 g14 q
    have hlen : b < H.length := (List.getElem?_eq_some_iff.1 H1).1
    have H0' : ∀ t, (H ++ t)[0]? = some (.row false 2 [jobV l w]) := fun t => by rw [List.getElem?_append_left (by omega), H0]
    have H1' : ∀ t, (H ++ t)[b]? = some (.row false 1 outs) := fun t => by rw [List.getElem?_append_left (by omega), H1]
    simp only [jobV] at H0'
    have hni := hn i (Nat.le_refl _) (by omega)
    have hne : ∀ h : i < outs.length, outs[i] = .nil := fun h => by rw [List.getElem?_eq_getElem h] at hni; simpa using hni
    have s1 : ∀ x, (outs.set i x)[i]? = some x := fun x => by rw [List.getElem?_set_self (by omega)]
    have u0 : ∀ v t, (H.set b v ++ t)[0]? = some (.row false 2 [jobV l w]) := fun v t => by rw [List.getElem?_append_left (by simp; omega), List.getElem?_set_ne (by omega), H0]
    have u1 : ∀ v t, (H.set b v ++ t)[b]? = some v := fun v t => by rw [List.getElem?_append_left (by simp; omega), List.getElem?_set_self (by omega)]
    have u2 : ∀ v e t, (H.set b v ++ e :: t)[H.length]? = some e := fun v e t => by
      simp
    have s2 : ∀ (x : AV) (h : i < (outs.set i x).length), (outs.set i x)[i] = x := fun x h => by simp
    refine gives_loop ?_
    have hmk : ¬ ((l.length : Int) * 8 ≤ 140737488355328 → 140737488355328 < (l.length : Int)) := by omega
    have nn : ∀ x : AV, (outs.set i x).length = l.length := fun x => by simp [ho]
    have e0 : List.replicate l.length (AV.int .i64 0) = ints (kRow l i 0) := (kRow_zero l i).symm
    have rl : (List.replicate l.length (AV.int .i64 0)).length = l.length := by simp
    simp (disch := omega) [lp, Tryz.f32, loops, g1, g3, g13, g14, jobV, decT, decF, H0', H0, H1', hne, ix33 (H1' _) ho, ho, u1, ix33 (u1 _ _) (nn _), u2, wrapI, hni, hmk, -getElem?_pos]
    generalize hx : loopL env _ _ _ = L
    apply gives_cut hx
    clear hx
    rw [e0]
    refine rel_inner l w hl b hb i H.length (by omega) (outs.set i (.ref H.length l.length 0 l.length)) (nn _) (s1 _) (by omega) _ l.length 0 _ _ (by omega) ?_ ?_ ?_ (.int .i64 l.length) (.int .i64 i) ?_ ?_ ?_ ?_ ?_ ?_ ?_ (fun sl' H' f1 f2 f3 f4 f5 f6 f7 f8 f9 => ?_)
    · exact u0 _ _
    · exact u1 _ _
    · exact u2 _ _ _
    · simp [g13]
    · simp [g14]
    · simp [g1]
    · simp [g3]
    · simp
    · simp
    · simp
    · simp (disch := omega) [f6, f7, f8, f9, wrapI]
      refine ih (i + 1) H' _ _ (by omega) f2 f3 (nn _) ?_ ?_ ?_ ?_ ?_ ?_ q
      · intro k hk
        by_cases hki : k = i
        · subst hki
          refine ⟨H.length, s1 _, by omega, ?_, f4⟩
          simp at f1; omega
        · obtain ⟨p, h1, h2, h3, h4⟩ := hd k (by omega)
          refine ⟨p, by rw [List.getElem?_set_ne (Ne.symm hki), h1], h2, ?_, ?_⟩
          · simp at f1; omega
          · rw [f5 p (by omega) (by simp; omega), List.getElem?_append_left (by simp; omega), List.getElem?_set_ne (by omega), h4]
      · intro k h1 h2
        rw [List.getElem?_set_ne (by omega)]
        exact hn k (by omega) h2
      · simp [f8]
      · simp [f9]
      · simp [f6]
      · simp
theorem done_snap {m : SM} (hm : m ≠ .frz) {d : Nat} (l : List It) (b : Nat) (H : Heap) (outs : List AV) (ho : outs.length = l.length) (hd : Done l b H outs l.length) : outs.mapM (snap m (d + 2) H) = some (tabV (kTab l)) := by
  have key : ∀ (n i : Nat), i + n = l.length → (outs.drop i).mapM (snap m (d + 2) H) = some (((List.range l.length).drop i).map fun x => .lst (ints (kRow l x l.length))) := by
    intro n
    induction n with
    | zero =>
      intro i hi
      rw [List.drop_of_length_le (by omega), List.drop_of_length_le (by simp; omega)]
      rfl
    | succ n ih =>
      intro i hi
      obtain ⟨p, h1, h2, h3, h4⟩ := hd i (by omega)
      have h5 : i < outs.length := by omega
      rw [List.drop_eq_getElem_cons h5, List.drop_eq_getElem_cons (by simp; omega : i < (List.range l.length).length)]
      have h6 : outs[i] = .ref p l.length 0 l.length := by rw [List.getElem?_eq_getElem h5] at h1; simpa using h1
      simp only [List.mapM_cons, h6, snap_rints hm h4 (kRow_length l i l.length), ih (i + 1) (by omega), List.getElem_range, List.map_cons]
      rfl
  have := key l.length 0 (by omega)
  simpa [tabV, kTab, Function.comp_def] using this
set_option maxRecDepth 100000 in
set_option maxHeartbeats 4000000 in
theorem relations_ok (l : List It) (w : Int) (hl : l.length ≤ 96) : Gives (callL env 32 [jobV l w] []) fun r => snap .any depth r.2 r.1 = some (.lst (tabV (kTab l))) := by
  apply gives_call
  have hmk : ¬ ((l.length : Int) * 24 ≤ 140737488355328 → 140737488355328 < (l.length : Int)) := by omega
  simp (disch := omega) [Tryz.f32, jobV, hmk]
  generalize hx : loopL env _ _ _ = L
  apply gives_cut hx
  clear hx
  refine rel_outer l w hl 2 (by omega) _ l.length 0 _ (List.replicate l.length .nil) _ (by omega) rfl rfl (by simp) (fun k hk => by omega) (fun k _ hk => by simp [hk]) (by simp) (by simp) (by simp) (by simp) (fun sl' H' outs' h1 h2 h3 h4 => ?_)
  simp [h4]
  exact snap_rowM (m := .any) (by simp) h1 h2 (done_snap (by simp) l 2 H' outs' h2 h3)
theorem callF {f : FuncId} (hm : cmR f = .frz) {args : List AV} {r : AV × Heap} {v : AV} {h : Heap} (hf : args.foldlM (fun h v => Abs.freeze depth v h) h = some h) (hcl : args.mapM (snap .frz depth h) = some args) (hc : callL env f args [] = some r) (hs : snap .any depth r.2 r.1 = some v) : callN env (callL env) f args h = some (v, h) := by
  have h1 : env.nat f = none := nat_frz hm
  have h2 : env.cm f = .frz := hm
  unfold callN
  simp only [h1, h2, hf, hcl, hc, Option.bind_some, hs, Option.map_some]
theorem c32 (l : List It) (w : Int) (hl : l.length ≤ 96) (h : Heap) : callN env (callL env) 32 [jobV l w] h = some (.lst (tabV (kTab l)), h) := by
  obtain ⟨r, hr, h1⟩ := gives_iff.1 (relations_ok l w hl)
  exact callF rfl (by simp [Abs.freeze, depth, jobV]) (by simp [snap, depth, jobV]) hr h1
end Rival
