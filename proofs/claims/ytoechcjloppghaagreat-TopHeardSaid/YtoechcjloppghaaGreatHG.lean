/- TopHeard: the least cost. -/
import Derived.Test.YtoechcjloppghaaGreatHF
open Go Go.Proofs Go.Abs
namespace Heard
section
variable {E : Env} {call : CallO} {loop : LoopO} {F : Frm} {h : Heap} {Q : Out → Prop}
noncomputable def seqK (E : Env) (call : CallO) (loop : LoopO) (b : Code) : Out → Option Out
  | .normal F h => exec E call loop b F h
  | r => some r
def blkK (id : Nat) : Out → Option Out
  | .exit i F h => if i = id then some (.normal F h) else some (.exit i F h)
  | r => some r
noncomputable def rndK (loop : LoopO) (c : Code) : Out → Option Out
  | .normal F h => loop c F h
  | r => some r
theorem gives_seq {a b : Code} (hg : Gives (exec E call loop a F h) fun o => Gives (seqK E call loop b o) Q) : Gives (exec E call loop (.seq a b) F h) Q := by
  obtain ⟨o, h1, h2⟩ := gives_iff.1 hg
  have : exec E call loop (.seq a b) F h = seqK E call loop b o := by
    simp only [exec, h1]
    cases o <;> rfl
  rw [this]; exact h2
theorem gives_block {id : Nat} {c : Code} (hg : Gives (exec E call loop c F h) fun o => Gives (blkK id o) Q) : Gives (exec E call loop (.block id c) F h) Q := by
  obtain ⟨o, h1, h2⟩ := gives_iff.1 hg
  have : exec E call loop (.block id c) F h = blkK id o := by
    simp only [exec, h1]
    cases o <;> try rfl
    simp [blkK]
  rw [this]; exact h2
theorem gives_round {c : Code} (hg : Gives (exec E call loop c F h) fun o => Gives (rndK loop c o) Q) : Gives (round E call loop c F h) Q := by
  obtain ⟨o, h1, h2⟩ := gives_iff.1 hg
  have : round E call loop c F h = rndK loop c o := by
    simp only [round, h1]
    cases o <;> rfl
  rw [this]; exact h2
end
def sq0 : Code → Code
  | .seq a _ => a
  | c => c
def sq1 : Code → Code
  | .seq _ b => b
  | c => c
def blk : Code → Code
  | .block _ c => c
  | c => c
attribute [simp] sq0 sq1 blk
theorem loadP_iptr (h : Heap) (isA : Bool) (size : Nat) (e : AV) (o : Nat) : loadP h isA size (.iptr e o) = loadE isA size e o := rfl
attribute [simp] loadP_iptr
noncomputable def B12 : Code := blk (sq0 (sq1 (lp Tryz.f12 1)))
noncomputable def S1 : Code := sq0 B12
noncomputable def S2 : Code := sq0 (sq1 B12)
noncomputable def S3 : Code := sq0 (sq1 (sq1 B12))
noncomputable def S4 : Code := sq1 (sq1 (sq1 B12))
/-- The first rows of a table. -/
structure TabG (H : Heap) (b n m i : Nat) (P : Nat → Nat → Int) (es : List AV) : Prop where
  row : H[b]? = some (.row false 1 es)
  len : es.length = n
  done : ∀ k, k < i → es[k]? = some (.ref (b + 1 + k) m 0 m)
  rest : ∀ k, i ≤ k → k < n → es[k]? = some .nil
  rows : ∀ k, k < i → H[b + 1 + k]? = some (.row false 1 (rowE m (P k)))
  size : H.length = b + 1 + i
variable {H : Heap} {bs n m i : Nat} {P : Nat → Nat → Int} {es : List AV}
theorem TabG.i1 (hT : TabG H bs n m i P es) (k : Int) (h0 : 0 ≤ k) (h1 : k < n) : indexAddrA env 40 H (.ref bs n 0 n) (.int .i64 k) = some (.ptr bs n k.toNat 0) := by
  have := idx40 hT.row hT.len k.toNat (by omega)
  rwa [Int.toNat_of_nonneg h0] at this
theorem TabG.l1 (hT : TabG H bs n m i P es) (k : Nat) (h1 : k < i) : loadP H false 1 (.ptr bs n k 0) = some (.ref (bs + 1 + k) m 0 m) := ldP hT.row hT.len (hT.done k h1) rfl
theorem TabG.i2 (hT : TabG H bs n m i P es) (k : Nat) (h1 : k < i) (j : Int) (h0 : 0 ≤ j) (hj : j < m) : indexAddrA env 23 H (.ref (bs + 1 + k) m 0 m) (.int .i64 j) = some (.ptr (bs + 1 + k) m j.toNat 0) := by
  have := idx23 (hT.rows k h1) (rowE_length m (P k)) j.toNat (by omega)
  rwa [Int.toNat_of_nonneg h0] at this
theorem TabG.l2 (hT : TabG H bs n m i P es) (k j : Nat) (h1 : k < i) (hj : j < m) : loadP H false 1 (.ptr (bs + 1 + k) m j 0) = some (.int .i64 (P k j)) := ldP (hT.rows k h1) (rowE_length m (P k)) (rowE_get m (P k) j hj) rfl
theorem TabG.st (hT : TabG H bs n m i P es) (k j : Nat) (h1 : k < i) (hj : j < m) (v : Int) : storeP H 1 (.ptr (bs + 1 + k) m j 0) (.int .i64 v) = some (H.set (bs + 1 + k) (.row false 1 (rowE m (fun y => if y = j then v else P k y)))) := by
  have := stP (v := .int .i64 v) (hT.rows k h1) (rowE_length m (P k)) (rowE_get m (P k) j hj) rfl rfl rfl
  rwa [rowE_set] at this
theorem TabG.set (hT : TabG H bs n m i P es) (k j : Nat) (h1 : k < i) (v : Int) : TabG (H.set (bs + 1 + k) (.row false 1 (rowE m (fun y => if y = j then v else P k y)))) bs n m i (upd P k j v) es := by
  have hlt := (List.getElem?_eq_some_iff.1 (hT.rows k h1)).1
  refine ⟨?_, hT.len, hT.done, hT.rest, fun x hx => ?_, by rw [List.length_set]; exact hT.size⟩
  · rw [List.getElem?_set_ne (by omega)]; exact hT.row
  · by_cases hxk : x = k
    · subst hxk
      rw [List.getElem?_set_self hlt]
      congr 3
      funext y
      simp [upd]
    · rw [List.getElem?_set_ne (by omega), hT.rows x hx]
      congr 3
      funext y
      simp [upd, hxk]
theorem TabG.push (hT : TabG H bs n m i P es) (hi : i < n) : TabG (H.set bs (.row false 1 (es.set i (.ref H.length m 0 m))) ++ [Ent.row false 1 (List.replicate m (.int .i64 0))]) bs n m (i + 1) (fun x y => if x = i then 0 else P x y) (es.set i (.ref H.length m 0 m)) := by
  have hsz := hT.size
  have hlt : bs < H.length := (List.getElem?_eq_some_iff.1 hT.row).1
  refine ⟨?_, by rw [List.length_set]; exact hT.len, fun k hk => ?_, fun k hk hk2 => ?_, fun k hk => ?_, by simp; omega⟩
  · rw [List.getElem?_append_left (by simpa using hlt), List.getElem?_set_self hlt]
  · by_cases hki : k = i
    · subst hki; rw [List.getElem?_set_self (by rw [hT.len]; exact hi), hsz]
    · rw [List.getElem?_set_ne (by omega)]; exact hT.done k (by omega)
  · rw [List.getElem?_set_ne (by omega)]; exact hT.rest k (by omega) hk2
  · by_cases hki : k = i
    · subst hki
      rw [List.getElem?_append_right (by simp; omega)]
      have : bs + 1 + k - (H.set bs (.row false 1 (es.set k (.ref H.length m 0 m)))).length = 0 := by simp; omega
      rw [this]
      simp [rowE, List.map_const']
    · rw [List.getElem?_append_left (by simp; omega), List.getElem?_set_ne (by omega), hT.rows k (by omega)]
      congr 3
      funext y
      simp [hki]
end Heard

open Go Go.Proofs Go.Abs
namespace Heard
theorem pl12_0 : plainD env (dr Tryz.f12 0) = true := by kernel_rfl
theorem pl12_1 : plainD env (dr Tryz.f12 1) = true := by kernel_rfl
theorem pl12_2 : plainD env (dr Tryz.f12 2) = true := by kernel_rfl
theorem pl12_3 : plainD env (dr Tryz.f12 3) = true := by kernel_rfl
theorem pl12_4 : plainD env (dr Tryz.f12 4) = true := by kernel_rfl
theorem pl12_5 : plainD env (dr Tryz.f12 5) = true := by kernel_rfl
theorem pl12_6 : plainD env (dr Tryz.f12 6) = true := by kernel_rfl
set_option maxHeartbeats 4000000 in
set_option maxRecDepth 100000 in
theorem s1_ok (a b : List Int) (ha : a.length ≤ 96) (hb : b.length ≤ 96) (N M bs : Nat) (hN : N = a.length + 1) (hM : M = b.length + 1) (i j : Nat) (hi : i < N) (hj : j < M) (P : Nat → Nat → Int)
  (hP : ∀ x y, 0 ≤ P x y ∧ P x y ≤ 100000) (v : Int) (hv : 0 ≤ v ∧ v ≤ 100000) (es : List AV) (H : Heap) (hT : TabG H bs N M (i + 1) (upd P i j v) es) (Q : Out → Prop) (sl : List (Nat × AV))
  (g0 : getS sl (.tup []) 0 = .lst (ints a)) (g1 : getS sl (.tup []) 1 = .lst (ints b)) (g5 : getS sl (.tup []) 5 = .ref bs N 0 N) (g6 : getS sl (.tup []) 6 = .int .i64 i) (g7 : getS sl (.tup []) 7 = .int .i64 j) (q : ∀ sl' H' v', v' = (if 0 < i then P (i - 1) j + 4 else v) → TabG H' bs N M (i + 1) (upd P i j v') es → getS sl' (.tup []) 0 = .lst (ints a) → getS sl' (.tup []) 1 = .lst (ints b) → getS sl' (.tup []) 5 = .ref bs N 0 N → getS sl' (.tup []) 6 = .int .i64 i → getS sl' (.tup []) 7 = .int .i64 j → Q (.normal ⟨209, .tup [], sl', []⟩ H')) :
    Gives (exec env (callL env) (loopL env) S1 ⟨209, .tup [], sl, []⟩ H) Q := by
  have p0 := pl12_0
  simp only [dr, drs, Tryz.f12, List.append_nil, List.nil_append, List.cons_append, nth_zero, nth_succ] at p0
  by_cases c : 0 < i
  · have r1 := hT.i1
    have r2 := hT.l1
    have r3 := hT.i2
    have r4 := hT.l2 (i - 1) j (by omega) hj
    rw [upd_ne _ _ _ _ _ _ (by omega)] at r4
    have hp := hP (i - 1) j
    have e1 : ((i : Int) - 1).toNat = i - 1 := by omega
    have s1 := hT.st i j (by omega) hj (P (i - 1) j + 4)
    have hT1 := hT.set i j (by omega) (P (i - 1) j + 4)
    rw [upd_upd] at hT1
    generalize H.set (bs + 1 + i) (.row false 1 (rowE M fun y => if y = j then P (i - 1) j + 4 else upd P i j v i y)) = H1 at *
    simp (disch := omega) [-loadP, -storeP, S1, B12, lp, Tryz.f12, loops, g0, g1, g5, g6, g7, c, wrapI, regionD_plain p0, r1, r2, r3, r4, e1, s1]
    exact q _ H1 _ (by rw [if_pos c]) hT1 (by simp [g0]) (by simp [g1]) (by simp [g5]) (by simp [g6]) (by simp [g7])
  · simp (disch := omega) [S1, B12, lp, Tryz.f12, loops, g0, g1, g5, g6, g7, c]
    exact q _ H _ (by rw [if_neg c]) hT (by simp [g0]) (by simp [g1]) (by simp [g5]) (by simp [g6]) (by simp [g7])
set_option maxHeartbeats 4000000 in
set_option maxRecDepth 100000 in
theorem s2_ok (a b : List Int) (ha : a.length ≤ 96) (hb : b.length ≤ 96) (N M bs : Nat) (hN : N = a.length + 1) (hM : M = b.length + 1) (i j : Nat) (hi : i < N) (hj : j < M) (P : Nat → Nat → Int)
  (hP : ∀ x y, 0 ≤ P x y ∧ P x y ≤ 100000) (v : Int) (hv : 0 ≤ v ∧ v ≤ 100000) (es : List AV) (H : Heap) (hT : TabG H bs N M (i + 1) (upd P i j v) es) (Q : Out → Prop) (sl : List (Nat × AV))
  (g0 : getS sl (.tup []) 0 = .lst (ints a)) (g1 : getS sl (.tup []) 1 = .lst (ints b)) (g5 : getS sl (.tup []) 5 = .ref bs N 0 N) (g6 : getS sl (.tup []) 6 = .int .i64 i) (g7 : getS sl (.tup []) 7 = .int .i64 j) (q : ∀ sl' H' v', v' = (if 0 < j ∧ (i = 0 ∨ P i (j - 1) + 4 < v) then P i (j - 1) + 4 else v) → TabG H' bs N M (i + 1) (upd P i j v') es → getS sl' (.tup []) 0 = .lst (ints a) → getS sl' (.tup []) 1 = .lst (ints b) → getS sl' (.tup []) 5 = .ref bs N 0 N → getS sl' (.tup []) 6 = .int .i64 i → getS sl' (.tup []) 7 = .int .i64 j → Q (.normal ⟨209, .tup [], sl', []⟩ H')) :
    Gives (exec env (callL env) (loopL env) S2 ⟨209, .tup [], sl, []⟩ H) Q := by
  have p1 := pl12_1
  have p2 := pl12_2
  simp only [dr, drs, Tryz.f12, List.append_nil, List.nil_append, List.cons_append, nth_zero, nth_succ] at p1 p2
  by_cases c : 0 < j
  · have r1 := hT.i1
    have r2 := hT.l1
    have r3 := hT.i2
    have r4 := hT.l2 i (j - 1) (by omega) (by omega)
    rw [upd_ne _ _ _ _ _ _ (by omega)] at r4
    have r5 := hT.l2 i j (by omega) hj
    rw [upd_same] at r5
    have hp := hP i (j - 1)
    have e1 : ((j : Int) - 1).toNat = j - 1 := by omega
    have s1 := hT.st i j (by omega) hj (P i (j - 1) + 4)
    have hT1 := hT.set i j (by omega) (P i (j - 1) + 4)
    rw [upd_upd] at hT1
    generalize H.set (bs + 1 + i) (.row false 1 (rowE M fun y => if y = j then P i (j - 1) + 4 else upd P i j v i y)) = H1 at *
    by_cases c2 : i = 0
    · have c2' : (i : Int) = 0 := by omega
      simp (disch := omega) [-loadP, -storeP, S2, B12, lp, Tryz.f12, loops, g0, g1, g5, g6, g7, c, wrapI, regionD_plain p1, regionD_plain p2, r1, r2, r3, r4, r5, e1, s1, decT]
      exact q _ H1 _ (by rw [if_pos ⟨c, .inl c2⟩]) hT1 (by simp [g0]) (by simp [g1]) (by simp [g5]) (by simp [g6]) (by simp [g7])
    · by_cases c3 : P i (j - 1) + 4 < v
      · simp (disch := omega) [-loadP, -storeP, S2, B12, lp, Tryz.f12, loops, g0, g1, g5, g6, g7, c, wrapI, regionD_plain p1, regionD_plain p2, r1, r2, r3, r4, r5, e1, s1, decT, decF]
        exact q _ H1 _ (by rw [if_pos ⟨c, .inr c3⟩]) hT1 (by simp [g0]) (by simp [g1]) (by simp [g5]) (by simp [g6]) (by simp [g7])
      · simp (disch := omega) [-loadP, -storeP, S2, B12, lp, Tryz.f12, loops, g0, g1, g5, g6, g7, c, wrapI, regionD_plain p1, r1, r2, r3, r4, r5, e1, decT, decF]
        exact q _ H _ (by rw [if_neg (by omega)]) hT (by simp [g0]) (by simp [g1]) (by simp [g5]) (by simp [g6]) (by simp [g7])
  · simp (disch := omega) [S2, B12, lp, Tryz.f12, loops, g0, g1, g5, g6, g7, c, regionD_plain p1]
    exact q _ H _ (by rw [if_neg (by omega)]) hT (by simp [g0]) (by simp [g1]) (by simp [g5]) (by simp [g6]) (by simp [g7])
def mn (x y : Int) : Int := if y < x then y else x
set_option maxHeartbeats 4000000 in
set_option maxRecDepth 100000 in
theorem s3_ok (a b : List Int) (ha : a.length ≤ 96) (hb : b.length ≤ 96) (N M bs : Nat) (hN : N = a.length + 1) (hM : M = b.length + 1) (i j : Nat) (hi : i < N) (hj : j < M) (P : Nat → Nat → Int)
  (hP : ∀ x y, 0 ≤ P x y ∧ P x y ≤ 100000) (v : Int) (hv : 0 ≤ v ∧ v ≤ 100000) (es : List AV) (H : Heap) (hT : TabG H bs N M (i + 1) (upd P i j v) es) (Q : Out → Prop) (sl : List (Nat × AV))
  (g0 : getS sl (.tup []) 0 = .lst (ints a)) (g1 : getS sl (.tup []) 1 = .lst (ints b)) (g5 : getS sl (.tup []) 5 = .ref bs N 0 N) (g6 : getS sl (.tup []) 6 = .int .i64 i) (g7 : getS sl (.tup []) 7 = .int .i64 j) (q : ∀ sl' H' v', v' = (if 0 < i ∧ 0 < j then mn v (P (i - 1) (j - 1) + (if nth 0 a (i - 1) = nth 0 b (j - 1) then 0 else 3)) else v) → TabG H' bs N M (i + 1) (upd P i j v') es → getS sl' (.tup []) 0 = .lst (ints a) → getS sl' (.tup []) 1 = .lst (ints b) → getS sl' (.tup []) 5 = .ref bs N 0 N → getS sl' (.tup []) 6 = .int .i64 i → getS sl' (.tup []) 7 = .int .i64 j → Q (.normal ⟨209, .tup [], sl', []⟩ H')) :
    Gives (exec env (callL env) (loopL env) S3 ⟨209, .tup [], sl, []⟩ H) Q := by
  have p3 := pl12_3
  have p4 := pl12_4
  simp only [dr, drs, Tryz.f12, List.append_nil, List.nil_append, List.cons_append, nth_zero, nth_succ] at p3 p4
  by_cases c : 0 < i
  case neg =>
    simp (disch := omega) [S3, B12, lp, Tryz.f12, loops, g0, g1, g5, g6, g7, c]
    exact q _ H _ (by rw [if_neg (by omega)]) hT (by simp [g0]) (by simp [g1]) (by simp [g5]) (by simp [g6]) (by simp [g7])
  by_cases c2 : 0 < j
  case neg =>
    simp (disch := omega) [S3, B12, lp, Tryz.f12, loops, g0, g1, g5, g6, g7, c, c2]
    exact q _ H _ (by rw [if_neg (by omega)]) hT (by simp [g0]) (by simp [g1]) (by simp [g5]) (by simp [g6]) (by simp [g7])
  have r1 := hT.i1
  have r2 := hT.l1
  have r3 := hT.i2
  have r4 := hT.l2 (i - 1) (j - 1) (by omega) (by omega)
  rw [upd_ne _ _ _ _ _ _ (by omega)] at r4
  have r5 := hT.l2 i j (by omega) hj
  rw [upd_same] at r5
  have hp := hP (i - 1) (j - 1)
  have e1 : ((i : Int) - 1).toNat = i - 1 := by omega
  have e2 : ((j : Int) - 1).toNat = j - 1 := by omega
  have e3 : (i : Int) - 1 < a.length := by omega
  have e4 : (j : Int) - 1 < b.length := by omega
  by_cases c3 : nth 0 a (i - 1) = nth 0 b (j - 1)
  · rw [if_pos ⟨c, c2⟩, if_pos c3, Int.add_zero] at q
    have m1 := min2 v (P (i - 1) (j - 1))
    have s1 := hT.st i j (by omega) hj (mn v (P (i - 1) (j - 1)))
    have hT1 := hT.set i j (by omega) (mn v (P (i - 1) (j - 1)))
    rw [upd_upd] at hT1
    have hmn : (if P (i - 1) (j - 1) < v then P (i - 1) (j - 1) else v) = mn v (P (i - 1) (j - 1)) := rfl
    rw [hmn] at m1
    generalize mn v (P (i - 1) (j - 1)) = mv at *
    generalize H.set (bs + 1 + i) (.row false 1 (rowE M fun y => if y = j then mv else upd P i j v i y)) = H1 at *
    simp (disch := omega) [-loadP, -storeP, S3, B12, lp, Tryz.f12, loops, g0, g1, g5, g6, g7, c, c2, wrapI, regionD_plain p3, regionD_plain p4, r1, r2, r3, r4, r5, e1, e2, s1, decT, index_ints, c3, m1]
    exact q _ H1 mv rfl hT1 (by simp [g0]) (by simp [g1]) (by simp [g5]) (by simp [g6]) (by simp [g7])
  · rw [if_pos ⟨c, c2⟩, if_neg c3] at q
    have m1 := min2 v (P (i - 1) (j - 1) + 3)
    have s1 := hT.st i j (by omega) hj (mn v (P (i - 1) (j - 1) + 3))
    have hT1 := hT.set i j (by omega) (mn v (P (i - 1) (j - 1) + 3))
    rw [upd_upd] at hT1
    have hmn : (if P (i - 1) (j - 1) + 3 < v then P (i - 1) (j - 1) + 3 else v) = mn v (P (i - 1) (j - 1) + 3) := rfl
    rw [hmn] at m1
    generalize mn v (P (i - 1) (j - 1) + 3) = mv at *
    generalize H.set (bs + 1 + i) (.row false 1 (rowE M fun y => if y = j then mv else upd P i j v i y)) = H1 at *
    simp (disch := omega) [-loadP, -storeP, S3, B12, lp, Tryz.f12, loops, g0, g1, g5, g6, g7, c, c2, wrapI, regionD_plain p3, regionD_plain p4, r1, r2, r3, r4, r5, e1, e2, s1, decT, decF, index_ints, c3, m1]
    exact q _ H1 mv rfl hT1 (by simp [g0]) (by simp [g1]) (by simp [g5]) (by simp [g6]) (by simp [g7])
/-- May the last two of each list have been exchanged? -/
def exch (a b : List Int) (i j : Nat) : Bool := decide (1 < i) && decide (1 < j) && decide (nth 0 a (i - 2) = nth 0 b (j - 1)) && decide (nth 0 a (i - 1) = nth 0 b (j - 2)) && !decide (nth 0 a (i - 2) = nth 0 a (i - 1))
set_option maxHeartbeats 4000000 in
set_option maxRecDepth 100000 in
theorem s4_ok (a b : List Int) (ha : a.length ≤ 96) (hb : b.length ≤ 96) (N M bs : Nat) (hN : N = a.length + 1) (hM : M = b.length + 1) (i j : Nat) (hi : i < N) (hj : j < M) (P : Nat → Nat → Int)
  (hP : ∀ x y, 0 ≤ P x y ∧ P x y ≤ 100000) (v : Int) (hv : 0 ≤ v ∧ v ≤ 100000) (es : List AV) (H : Heap) (hT : TabG H bs N M (i + 1) (upd P i j v) es) (Q : Out → Prop) (sl : List (Nat × AV))
  (g0 : getS sl (.tup []) 0 = .lst (ints a)) (g1 : getS sl (.tup []) 1 = .lst (ints b)) (g5 : getS sl (.tup []) 5 = .ref bs N 0 N) (g6 : getS sl (.tup []) 6 = .int .i64 i) (g7 : getS sl (.tup []) 7 = .int .i64 j) (q : ∀ sl' H' v', v' = (if exch a b i j = true then mn v (P (i - 2) (j - 2) + 4) else v) → TabG H' bs N M (i + 1) (upd P i j v') es → getS sl' (.tup []) 0 = .lst (ints a) → getS sl' (.tup []) 1 = .lst (ints b) → getS sl' (.tup []) 5 = .ref bs N 0 N → getS sl' (.tup []) 6 = .int .i64 i → getS sl' (.tup []) 7 = .int .i64 j → Q (.normal ⟨209, .tup [], sl', []⟩ H')) :
    Gives (exec env (callL env) (loopL env) S4 ⟨209, .tup [], sl, []⟩ H) Q := by
  have p5 := pl12_5
  have p6 := pl12_6
  simp only [dr, drs, Tryz.f12, List.append_nil, List.nil_append, List.cons_append, nth_zero, nth_succ] at p5 p6
  by_cases c : 1 < i
  case neg =>
    have hx : exch a b i j = false := by simp [exch, c]
    simp (disch := omega) [S4, B12, lp, Tryz.f12, loops, g0, g1, g5, g6, g7, c, regionD_plain p5, decF]
    exact q _ H _ (by rw [if_neg (by simp [hx])]) hT (by simp [g0]) (by simp [g1]) (by simp [g5]) (by simp [g6]) (by simp [g7])
  by_cases c2 : 1 < j
  case neg =>
    have hx : exch a b i j = false := by simp [exch, c2]
    simp (disch := omega) [S4, B12, lp, Tryz.f12, loops, g0, g1, g5, g6, g7, c, c2, regionD_plain p5, decT, decF]
    exact q _ H _ (by rw [if_neg (by simp [hx])]) hT (by simp [g0]) (by simp [g1]) (by simp [g5]) (by simp [g6]) (by simp [g7])
  have e1 : ((i : Int) - 1).toNat = i - 1 := by omega
  have e2 : ((j : Int) - 1).toNat = j - 1 := by omega
  have e3 : ((i : Int) - 2).toNat = i - 2 := by omega
  have e4 : ((j : Int) - 2).toNat = j - 2 := by omega
  by_cases c3 : nth 0 a (i - 2) = nth 0 b (j - 1)
  case neg =>
    have hx : exch a b i j = false := by simp [exch, c3]
    simp (disch := omega) [S4, B12, lp, Tryz.f12, loops, g0, g1, g5, g6, g7, c, c2, regionD_plain p5, decT, decF, wrapI, index_ints, e1, e2, e3, e4, c3]
    exact q _ H _ (by rw [if_neg (by simp [hx])]) hT (by simp [g0]) (by simp [g1]) (by simp [g5]) (by simp [g6]) (by simp [g7])
  by_cases c4 : nth 0 a (i - 1) = nth 0 b (j - 2)
  case neg =>
    have hx : exch a b i j = false := by simp [exch, c4]
    simp (disch := omega) [S4, B12, lp, Tryz.f12, loops, g0, g1, g5, g6, g7, c, c2, regionD_plain p5, decT, decF, wrapI, index_ints, e1, e2, e3, e4, c3, c4]
    exact q _ H _ (by rw [if_neg (by simp [hx])]) hT (by simp [g0]) (by simp [g1]) (by simp [g5]) (by simp [g6]) (by simp [g7])
  by_cases c5 : nth 0 a (i - 2) = nth 0 a (i - 1)
  · have hx : exch a b i j = false := by simp [exch, c5]
    have c6 : nth 0 b (j - 1) = nth 0 b (j - 2) := by rw [← c3, c5, c4]
    simp (disch := omega) [S4, B12, lp, Tryz.f12, loops, g0, g1, g5, g6, g7, c, c2, regionD_plain p5, decT, decF, wrapI, index_ints, e1, e2, e3, e4, c3, c4, c6]
    exact q _ H _ (by rw [if_neg (by simp [hx])]) hT (by simp [g0]) (by simp [g1]) (by simp [g5]) (by simp [g6]) (by simp [g7])
  have hx : exch a b i j = true := by simp [exch, c, c2, c3, c4, c5]; rw [← c3, ← c4]; exact c5
  have c6 : ¬ nth 0 b (j - 1) = nth 0 b (j - 2) := by rw [← c3, ← c4]; exact c5
  have r1 := hT.i1
  have r2 := hT.l1
  have r3 := hT.i2
  have r4 := hT.l2 (i - 2) (j - 2) (by omega) (by omega)
  rw [upd_ne _ _ _ _ _ _ (by omega)] at r4
  have r5 := hT.l2 i j (by omega) hj
  rw [upd_same] at r5
  have hp := hP (i - 2) (j - 2)
  rw [if_pos hx] at q
  have m1 := min2 v (P (i - 2) (j - 2) + 4)
  have s1 := hT.st i j (by omega) hj (mn v (P (i - 2) (j - 2) + 4))
  have hT1 := hT.set i j (by omega) (mn v (P (i - 2) (j - 2) + 4))
  rw [upd_upd] at hT1
  have hmn : (if P (i - 2) (j - 2) + 4 < v then P (i - 2) (j - 2) + 4 else v) = mn v (P (i - 2) (j - 2) + 4) := rfl
  rw [hmn] at m1
  generalize mn v (P (i - 2) (j - 2) + 4) = mv at *
  generalize H.set (bs + 1 + i) (.row false 1 (rowE M fun y => if y = j then mv else upd P i j v i y)) = H1 at *
  simp (disch := omega) [-loadP, -storeP, S4, B12, lp, Tryz.f12, loops, g0, g1, g5, g6, g7, c, c2, wrapI, regionD_plain p5, regionD_plain p6, r1, r2, r3, r4, r5, e1, e2, e3, e4, s1, decT, decF, index_ints, c3, c4, c6, m1]
  exact q _ H1 mv rfl hT1 (by simp [g0]) (by simp [g1]) (by simp [g5]) (by simp [g6]) (by simp [g7])
end Heard

open Go Go.Proofs Go.Abs
namespace Heard
def v1p (P : Nat → Nat → Int) (i j : Nat) : Int := if 0 < i then P (i - 1) j + 4 else 0
def v2p (P : Nat → Nat → Int) (i j : Nat) (v : Int) : Int := if 0 < j ∧ (i = 0 ∨ P i (j - 1) + 4 < v) then P i (j - 1) + 4 else v
def v3p (a b : List Int) (P : Nat → Nat → Int) (i j : Nat) (v : Int) : Int := if 0 < i ∧ 0 < j then mn v (P (i - 1) (j - 1) + (if nth 0 a (i - 1) = nth 0 b (j - 1) then 0 else 3)) else v
def v4p (a b : List Int) (P : Nat → Nat → Int) (i j : Nat) (v : Int) : Int := if exch a b i j = true then mn v (P (i - 2) (j - 2) + 4) else v
def chp (a b : List Int) (P : Nat → Nat → Int) (i j : Nat) : Int := v4p a b P i j (v3p a b P i j (v2p P i j (v1p P i j)))
theorem exch_lt {a b : List Int} {i j : Nat} (h : exch a b i j = true) : 1 < i ∧ 1 < j := by
  simp only [exch, Bool.and_eq_true, decide_eq_true_eq] at h
  omega
theorem chp_congr (a b : List Int) (P P' : Nat → Nat → Int) (i j : Nat) (h : ∀ x y, (x < i ∨ x = i ∧ y < j) → P x y = P' x y) : chp a b P i j = chp a b P' i j := by
  have h1 : v1p P i j = v1p P' i j := by
    simp only [v1p]
    split
    · rw [h (i - 1) j (by omega)]
    · rfl
  have h2 : ∀ v, v2p P i j v = v2p P' i j v := fun v => by
    simp only [v2p]
    by_cases hj : 0 < j
    · rw [h i (j - 1) (by omega)]
    · rw [if_neg (by omega), if_neg (by omega)]
  have h3 : ∀ v, v3p a b P i j v = v3p a b P' i j v := fun v => by
    simp only [v3p]
    split
    · rw [h (i - 1) (j - 1) (by omega)]
    · rfl
  have h4 : ∀ v, v4p a b P i j v = v4p a b P' i j v := fun v => by
    simp only [v4p]
    split
    · rename_i c
      have := exch_lt c
      rw [h (i - 2) (j - 2) (by omega)]
    · rfl
  simp only [chp, h1, h2, h3, h4]
theorem mn_le (x y : Int) : mn x y ≤ x ∧ mn x y ≤ y ∧ (mn x y = x ∨ mn x y = y) := by
  simp only [mn]; split <;> omega
/-- The places before a place are known. -/
def Lex (i j x y : Nat) : Prop := x < i ∨ x = i ∧ y < j
structure InvD (a b : List Int) (P : Nat → Nat → Int) (i j : Nat) : Prop where
  done : ∀ x y, x ≤ a.length → y ≤ b.length → Lex i j x y → P x y = chp a b P x y ∧ 0 ≤ P x y ∧ P x y ≤ 4 * ((x : Int) + y)
  fresh : ∀ x y, ¬ (x ≤ a.length ∧ y ≤ b.length ∧ Lex i j x y) → P x y = 0
theorem InvD.bound {a b : List Int} {P : Nat → Nat → Int} {i j : Nat} (h : InvD a b P i j) (ha : a.length ≤ 96) (hb : b.length ≤ 96) (x y : Nat) : 0 ≤ P x y ∧ P x y ≤ 10000 := by
  by_cases c : x ≤ a.length ∧ y ≤ b.length ∧ Lex i j x y
  · have := (h.done x y c.1 c.2.1 c.2.2).2
    omega
  · rw [h.fresh x y c]; omega
theorem InvD.chp_bound {a b : List Int} {P : Nat → Nat → Int} {i j : Nat} (h : InvD a b P i j) (hi : i ≤ a.length) (hj : j ≤ b.length) :
    (0 ≤ v1p P i j ∧ v1p P i j ≤ 4 * ((i : Int) + j)) ∧ (0 ≤ v2p P i j (v1p P i j) ∧ v2p P i j (v1p P i j) ≤ 4 * ((i : Int) + j)) ∧ (0 ≤ v3p a b P i j (v2p P i j (v1p P i j)) ∧ v3p a b P i j (v2p P i j (v1p P i j)) ≤ 4 * ((i : Int) + j)) ∧ (0 ≤ chp a b P i j ∧ chp a b P i j ≤ 4 * ((i : Int) + j)) := by
  have b1 : 0 ≤ v1p P i j ∧ v1p P i j ≤ 4 * ((i : Int) + j) := by
    simp only [v1p]
    split
    · have := (h.done (i - 1) j (by omega) hj (.inl (by omega))).2
      omega
    · omega
  have b2 : 0 ≤ v2p P i j (v1p P i j) ∧ v2p P i j (v1p P i j) ≤ 4 * ((i : Int) + j) := by
    simp only [v2p]
    split
    · have := (h.done i (j - 1) hi (by omega) (.inr ⟨rfl, by omega⟩)).2
      omega
    · exact b1
  have b3 : 0 ≤ v3p a b P i j (v2p P i j (v1p P i j)) ∧ v3p a b P i j (v2p P i j (v1p P i j)) ≤ 4 * ((i : Int) + j) := by
    generalize v2p P i j (v1p P i j) = v at *
    simp only [v3p]
    split
    · have h1 := (h.done (i - 1) (j - 1) (by omega) (by omega) (.inl (by omega))).2
      have h2 := mn_le v (P (i - 1) (j - 1) + (if nth 0 a (i - 1) = nth 0 b (j - 1) then 0 else 3))
      have h3 : (0 : Int) ≤ (if nth 0 a (i - 1) = nth 0 b (j - 1) then 0 else 3) := by split <;> omega
      omega
    · exact b2
  refine ⟨b1, b2, b3, ?_⟩
  unfold chp
  generalize v3p a b P i j (v2p P i j (v1p P i j)) = v at *
  simp only [v4p]
  split
  · rename_i c
    have h0 := exch_lt c
    have h1 := (h.done (i - 2) (j - 2) (by omega) (by omega) (.inl (by omega))).2
    have h2 := mn_le v (P (i - 2) (j - 2) + 4)
    omega
  · exact b3
theorem InvD.step {a b : List Int} {P : Nat → Nat → Int} {i j : Nat} (h : InvD a b P i j) (hi : i ≤ a.length) (hj : j ≤ b.length) : InvD a b (upd P i j (chp a b P i j)) i (j + 1) := by
  have hcb := (h.chp_bound hi hj).2.2.2
  have old : ∀ x y, ¬ (x = i ∧ y = j) → upd P i j (chp a b P i j) x y = P x y := fun x y hn => upd_ne _ _ _ _ _ _ hn
  refine ⟨fun x y hx hy hl => ?_, fun x y hn => ?_⟩
  · have hcg : chp a b (upd P i j (chp a b P i j)) x y = chp a b P x y := chp_congr a b _ _ x y fun x' y' hl' => old x' y' (by simp only [Lex] at hl; omega)
    by_cases hxy : x = i ∧ y = j
    · obtain ⟨rfl, rfl⟩ := hxy
      rw [hcg, upd_same]
      exact ⟨rfl, hcb⟩
    · rw [hcg, old x y hxy]
      exact h.done x y hx hy (by simp only [Lex] at hl ⊢; omega)
  · have hxy : ¬ (x = i ∧ y = j) := fun hc => hn ⟨by omega, by omega, .inr ⟨hc.1, by omega⟩⟩
    rw [old x y hxy]
    exact h.fresh x y fun hc => hn ⟨hc.1, hc.2.1, by have := hc.2.2; simp only [Lex] at this ⊢; omega⟩
theorem InvD.row {a b : List Int} {P : Nat → Nat → Int} {i : Nat} (h : InvD a b P i (b.length + 1)) : InvD a b P (i + 1) 0 := by
  refine ⟨fun x y hx hy hl => h.done x y hx hy (by simp only [Lex] at hl ⊢; omega), fun x y hn => h.fresh x y fun hc => hn ⟨hc.1, hc.2.1, ?_⟩⟩
  have := hc.2.2
  simp only [Lex] at this ⊢
  omega
theorem invD0 (a b : List Int) : InvD a b (fun _ _ => 0) 0 0 := ⟨fun x y _ _ hl => by simp only [Lex] at hl; omega, fun _ _ _ => rfl⟩
section
set_option maxHeartbeats 4000000 in
set_option maxRecDepth 100000 in
theorem ch_head (a b : List Int) (hb : b.length ≤ 96) (N bs : Nat) (i j : Nat) (H : Heap) (Q : Out → Prop) (sl : List (Nat × AV))
  (g0 : getS sl (.tup []) 0 = .lst (ints a)) (g1 : getS sl (.tup []) 1 = .lst (ints b)) (g5 : getS sl (.tup []) 5 = .ref bs N 0 N) (g6 : getS sl (.tup []) 6 = .int .i64 i) (g7 : getS sl (.tup []) 7 = .int .i64 j) (q1 : j ≤ b.length → ∀ sl', getS sl' (.tup []) 0 = .lst (ints a) → getS sl' (.tup []) 1 = .lst (ints b) → getS sl' (.tup []) 5 = .ref bs N 0 N → getS sl' (.tup []) 6 = .int .i64 i → getS sl' (.tup []) 7 = .int .i64 j → Q (.normal ⟨209, .tup [], sl', []⟩ H))
    (q2 : ¬ j ≤ b.length → ∀ sl', getS sl' (.tup []) 0 = .lst (ints a) → getS sl' (.tup []) 1 = .lst (ints b) → getS sl' (.tup []) 5 = .ref bs N 0 N → getS sl' (.tup []) 6 = .int .i64 i → Q (.exit 2 ⟨209, .tup [], sl', []⟩ H)) :
    Gives (exec env (callL env) (loopL env) (sq0 (lp Tryz.f12 1)) ⟨209, .tup [], sl, []⟩ H) Q := by
  by_cases c : j ≤ b.length
  · simp (disch := omega) [lp, Tryz.f12, loops, g1, g7, c]
    exact q1 c _ (by simp [g0]) (by simp [g1]) (by simp [g5]) (by simp [g6]) (by simp [g7])
  · simp (disch := omega) [lp, Tryz.f12, loops, g1, g7, c]
    exact q2 c _ (by simp [g0]) (by simp [g1]) (by simp [g5]) (by simp [g6])
set_option maxHeartbeats 4000000 in
set_option maxRecDepth 100000 in
theorem ch_tail (a b : List Int) (hb : b.length ≤ 96) (N bs : Nat) (i j : Nat) (H : Heap) (Q : Out → Prop) (sl : List (Nat × AV))
  (g0 : getS sl (.tup []) 0 = .lst (ints a)) (g1 : getS sl (.tup []) 1 = .lst (ints b)) (g5 : getS sl (.tup []) 5 = .ref bs N 0 N) (g6 : getS sl (.tup []) 6 = .int .i64 i) (g7 : getS sl (.tup []) 7 = .int .i64 j) (hj : j ≤ b.length) (q1 : ∀ sl', getS sl' (.tup []) 0 = .lst (ints a) → getS sl' (.tup []) 1 = .lst (ints b) → getS sl' (.tup []) 5 = .ref bs N 0 N → getS sl' (.tup []) 6 = .int .i64 i → getS sl' (.tup []) 7 = .int .i64 ((j + 1 : Nat) : Int) → Q (.normal ⟨209, .tup [], sl', []⟩ H)) :
    Gives (exec env (callL env) (loopL env) (sq1 (sq1 (lp Tryz.f12 1))) ⟨209, .tup [], sl, []⟩ H) Q := by
  simp (disch := omega) [lp, Tryz.f12, loops, g7, wrapI]
  exact q1 _ (by simp [g0]) (by simp [g1]) (by simp [g5]) (by simp [g6]) (by simp)
end
theorem gives_code {E : Env} {call : CallO} {loop : LoopO} {F : Frm} {h : Heap} {Q : Out → Prop} {c c' : Code} (hc : c = c') (hg : Gives (exec E call loop c' F h) Q) : Gives (exec E call loop c F h) Q := by rw [hc]; exact hg
theorem lp12_eq : lp Tryz.f12 1 = .seq (sq0 (lp Tryz.f12 1)) (.seq (.block 3 B12) (sq1 (sq1 (lp Tryz.f12 1)))) := by kernel_rfl
theorem B12_eq : B12 = .seq S1 (.seq S2 (.seq S3 S4)) := by kernel_rfl
set_option maxHeartbeats 4000000 in
set_option maxRecDepth 100000 in
theorem ch_inner (a b : List Int) (ha : a.length ≤ 96) (hb : b.length ≤ 96) (N M bs : Nat) (hN : N = a.length + 1) (hM : M = b.length + 1) (i : Nat) (hi : i < N) (es : List AV) (Q : Out → Prop) : ∀ (k j : Nat) (P : Nat → Nat → Int) (H : Heap) (sl : List (Nat × AV)), j + k = M → TabG H bs N M (i + 1) P es → InvD a b P i j →
    getS sl (.tup []) 0 = .lst (ints a) → getS sl (.tup []) 1 = .lst (ints b) → getS sl (.tup []) 5 = .ref bs N 0 N → getS sl (.tup []) 6 = .int .i64 i → getS sl (.tup []) 7 = .int .i64 j →
    (∀ sl' H' P', TabG H' bs N M (i + 1) P' es → InvD a b P' i M → getS sl' (.tup []) 0 = .lst (ints a) → getS sl' (.tup []) 1 = .lst (ints b) → getS sl' (.tup []) 5 = .ref bs N 0 N → getS sl' (.tup []) 6 = .int .i64 i → Q (.exit 2 ⟨209, .tup [], sl', []⟩ H')) →
    Gives (loopL env (lp Tryz.f12 1) ⟨209, .tup [], sl, []⟩ H) Q := by
  intro k
  induction k with
  | zero =>
    intro j P H sl hj hT hI g0 g1 g5 g6 g7 q
    obtain rfl : j = M := by omega
    refine gives_loop (gives_round ?_)
    refine gives_code lp12_eq ?_
    refine gives_seq (ch_head a b hb N bs i j H _ sl g0 g1 g5 g6 g7 (fun h => by omega) (fun _ sl' k0 k1 k5 k6 => ?_))
    simp only [seqK, gives_some, rndK]
    exact q _ H P hT hI k0 k1 k5 k6
  | succ k ih =>
    intro j P H sl hj hT hI g0 g1 g5 g6 g7 q
    have hP := fun x y => (fun h : 0 ≤ P x y ∧ P x y ≤ 10000 => (⟨h.1, by omega⟩ : 0 ≤ P x y ∧ P x y ≤ 100000)) (hI.bound ha hb x y)
    obtain ⟨b1, b2, b3, b4⟩ := hI.chp_bound (i := i) (j := j) (by omega) (by omega)
    have hz : P i j = 0 := hI.fresh i j (fun hc => by have := hc.2.2; simp only [Lex] at this; omega)
    have hT0 := hT
    rw [← upd_id P i j 0 hz] at hT0
    refine gives_loop (gives_round ?_)
    refine gives_code lp12_eq ?_
    refine gives_seq (ch_head a b hb N bs i j H _ sl g0 g1 g5 g6 g7 (fun _ sl k0 k1 k5 k6 k7 => ?_) (fun h => by omega))
    simp only [seqK]
    refine gives_seq (gives_block (gives_code B12_eq ?_))
    refine gives_seq (s1_ok a b ha hb N M bs hN hM i j hi (by omega) P hP 0 (by omega) es H hT0 _ sl k0 k1 k5 k6 k7 (fun sl H v h1 hT k0 k1 k5 k6 k7 => ?_))
    obtain rfl : v = v1p P i j := h1
    simp only [seqK]
    refine gives_seq (s2_ok a b ha hb N M bs hN hM i j hi (by omega) P hP _ (by omega) es H hT _ sl k0 k1 k5 k6 k7 (fun sl H v h1 hT k0 k1 k5 k6 k7 => ?_))
    obtain rfl : v = v2p P i j (v1p P i j) := h1
    simp only [seqK]
    refine gives_seq (s3_ok a b ha hb N M bs hN hM i j hi (by omega) P hP _ (by omega) es H hT _ sl k0 k1 k5 k6 k7 (fun sl H v h1 hT k0 k1 k5 k6 k7 => ?_))
    obtain rfl : v = v3p a b P i j (v2p P i j (v1p P i j)) := h1
    simp only [seqK]
    refine s4_ok a b ha hb N M bs hN hM i j hi (by omega) P hP _ (by omega) es H hT _ sl k0 k1 k5 k6 k7 (fun sl H v h1 hT k0 k1 k5 k6 k7 => ?_)
    obtain rfl : v = chp a b P i j := h1
    simp only [blkK, gives_some, seqK]
    refine ch_tail a b hb N bs i j H _ sl k0 k1 k5 k6 k7 (by omega) (fun sl k0 k1 k5 k6 k7 => ?_)
    exact ih (j + 1) _ H sl (by omega) hT (hI.step (by omega) (by omega)) k0 k1 k5 k6 k7 q
end Heard

open Go Go.Proofs Go.Abs
namespace Heard
set_option maxHeartbeats 4000000 in
set_option maxRecDepth 100000 in
theorem ch_outer (a b : List Int) (ha : a.length ≤ 96) (hb : b.length ≤ 96) (N M bs : Nat) (hN : N = a.length + 1) (hM : M = b.length + 1) (Q : Out → Prop) : ∀ (k i : Nat) (P : Nat → Nat → Int) (es : List AV) (H : Heap) (sl : List (Nat × AV)), i + k = N → TabG H bs N M i P es → InvD a b P i 0 →
    getS sl (.tup []) 0 = .lst (ints a) → getS sl (.tup []) 1 = .lst (ints b) → getS sl (.tup []) 5 = .ref bs N 0 N → getS sl (.tup []) 6 = .int .i64 i →
    (∀ sl' H' P' es', TabG H' bs N M N P' es' → InvD a b P' N 0 → getS sl' (.tup []) 0 = .lst (ints a) → getS sl' (.tup []) 1 = .lst (ints b) → getS sl' (.tup []) 5 = .ref bs N 0 N → Q (.exit 0 ⟨209, .tup [], sl', []⟩ H')) →
    Gives (loopL env (lp Tryz.f12 0) ⟨209, .tup [], sl, []⟩ H) Q := by
  intro k
  induction k with
  | zero =>
    intro i P es H sl hi hT hI g0 g1 g5 g6 q
    obtain rfl : i = N := by omega
    refine gives_loop ?_
    simp (disch := omega) [lp, Tryz.f12, loops, g0, g6, decF]
    exact q _ H P es hT hI (by simp [g0]) (by simp [g1]) (by simp [g5])
  | succ k ih =>
    intro i P es H sl hi hT hI g0 g1 g5 g6 q
    refine gives_loop ?_
    have hsz := hT.size
    have hlt : bs < H.length := (List.getElem?_eq_some_iff.1 hT.row).1
    have hp := hT.push (by omega)
    have hPe : (fun x y => if x = i then 0 else P x y) = P := by
      funext x y
      by_cases hx : x = i
      · rw [if_pos hx, hI.fresh x y (fun hc => by have := hc.2.2; simp only [Lex] at this; omega)]
      · rw [if_neg hx]
    rw [hPe] at hp
    have b1 : (H ++ [Ent.row false 1 (List.replicate M (.int .i64 0))])[bs]? = some (.row false 1 es) := by rw [List.getElem?_append_left hlt]; exact hT.row
    have e1 := idx40 b1 hT.len i (by omega)
    have e2 := stP (v := .ref H.length M 0 M) b1 hT.len (hT.rest i (Nat.le_refl _) (by omega)) rfl rfl rfl
    have hsa : (H ++ [Ent.row false 1 (List.replicate M (.int .i64 0))]).set bs (.row false 1 (es.set i (.ref H.length M 0 M))) = H.set bs (.row false 1 (es.set i (.ref H.length M 0 M))) ++ [Ent.row false 1 (List.replicate M (.int .i64 0))] := List.set_append_left _ _ hlt
    rw [hsa] at e2
    generalize H.set bs (.row false 1 (es.set i (.ref H.length M 0 M))) ++ [Ent.row false 1 (List.replicate M (.int .i64 0))] = H1 at *
    have hm1 : IntKind.i64.wrap ((b.length : Int) + 1) = M := by rw [wrapI (by omega) (by omega)]; omega
    have hm8 : ¬ 140737488355328 < (M : Int) * 8 := by omega
    have hm9 : ¬ 140737488355328 < (M : Int) := by omega
    simp (disch := omega) [-loadP, -storeP, lp, Tryz.f12, loops, g0, g1, g5, g6, decT, hm1, hm8, hm9, e1, e2]
    generalize hx : loopL env _ _ _ = L
    apply gives_cut hx
    clear hx
    refine ch_inner a b ha hb N M bs hN hM i (by omega) _ _ M 0 P H1 _ (by omega) hp hI (by simp [g0]) (by simp [g1]) (by simp [g5]) (by simp [g6]) (by simp) (fun sl' H' P' t1 hI' k0 k1 k5 k6 => ?_)
    simp (disch := omega) [k6, wrapI]
    rw [hM] at hI'
    exact ih (i + 1) P' _ H' _ (by omega) t1 hI'.row (by simp [k0]) (by simp [k1]) (by simp [k5]) (by simp) q
set_option maxHeartbeats 4000000 in
set_option maxRecDepth 100000 in
theorem cheap_ok (a b : List Int) (ha : a.length ≤ 96) (hb : b.length ≤ 96) : ∃ P, InvD a b P (a.length + 1) 0 ∧ ∃ r, callL env 12 [.lst (ints a), .lst (ints b)] [] = some r ∧ r.1 = .int .i64 (P a.length b.length) := by
  suffices hh : ∀ Q : AV × Heap → Prop, (∀ r P, InvD a b P (a.length + 1) 0 → r.1 = .int .i64 (P a.length b.length) → Q r) → Gives (callL env 12 [.lst (ints a), .lst (ints b)] []) Q by
    obtain ⟨r, hr, P, h1, h2⟩ := gives_iff.1 (hh (fun r => ∃ P, InvD a b P (a.length + 1) 0 ∧ r.1 = .int .i64 (P a.length b.length)) (fun r P h1 h2 => ⟨P, h1, h2⟩))
    exact ⟨P, h1, r, hr, h2⟩
  intro Q hq
  apply gives_call
  have e1 : IntKind.i64.wrap ((a.length : Int) + 1) = ((a.length + 1 : Nat) : Int) := by rw [wrapI (by omega) (by omega)]; omega
  have hm8 : ¬ 140737488355328 < ((a.length + 1 : Nat) : Int) * 24 := by omega
  have hm9 : ¬ 140737488355328 < ((a.length + 1 : Nat) : Int) := by omega
  have hm7 : (0 : Int) ≤ ((a.length + 1 : Nat) : Int) := by omega
  have hm6 : ¬ ((a.length + 1 : Nat) : Int) < 0 := by omega
  have hT : TabG [Ent.row false 1 (List.replicate (a.length + 1) .nil)] 0 (a.length + 1) (b.length + 1) 0 (fun _ _ => 0) (List.replicate (a.length + 1) .nil) :=
    ⟨rfl, by simp, fun k hk => by omega, fun k _ hk => by simp [hk], fun k hk => by omega, rfl⟩
  generalize hN : a.length + 1 = N at *
  simp (disch := omega) [-loadP, -storeP, Tryz.f12, e1, hm8, hm9, hm7, hm6]
  generalize hx : loopL env _ _ _ = L
  apply gives_cut hx
  clear hx
  refine ch_outer a b ha hb N (b.length + 1) 0 hN.symm rfl _ N 0 _ _ _ _ (by omega) hT (invD0 a b) (by simp) (by simp) (by simp) (by simp) (fun sl' H' P' es' t1 hI k0 k1 k5 => ?_)
  have r1 := t1.i1 a.length (by omega) (by omega)
  have r2 := t1.l1 a.length (by omega)
  have r3 := t1.i2 a.length (by omega) b.length (by omega) (by omega)
  have r4 := t1.l2 a.length b.length (by omega) (by omega)
  simp only [Int.toNat_natCast, Nat.zero_add] at r1 r2 r3 r4
  simp (disch := omega) [-loadP, k0, k1, k5, r1, r2, r3, r4]
  exact hq (_, _) P' hI rfl
end Heard

/- TopHeard: the three tables tell the same least cost. -/
open Go Go.Proofs Go.Abs
namespace Heard
/-- A table of least costs from the beginning. -/
structure Least (a b : List Int) (P : Nat → Nat → Int) : Prop where
  zero : P 0 0 = 0
  le : ∀ i j e, i ≤ a.length → j ≤ b.length → (stepP a b i j e).2.2 = true → P (stepP a b i j e).1 (stepP a b i j e).2.1 ≤ P i j + cst e
  from' : ∀ k l, k ≤ a.length → l ≤ b.length → ¬ (k = 0 ∧ l = 0) → ∃ i j e, i ≤ a.length ∧ j ≤ b.length ∧ (stepP a b i j e).2.2 = true ∧ (stepP a b i j e).1 = k ∧ (stepP a b i j e).2.1 = l ∧ P k l = P i j + cst e
theorem InvP.least {a b : List Int} {P : Nat → Nat → Int} (h : InvP a b P a.length b.length 5) (ha : a.length ≤ 96) (hb : b.length ≤ 96) : Least a b P := by
  refine ⟨h.zero, fun i j e hi hj hok => ?_, fun k l hk hl hn => ?_⟩
  · have := step_lt hok
    exact h.le i j e hi hj (by simp only [Bef]; omega) hok
  · rcases h.from' k l with g | g | ⟨i, j, e, g1, g2, _, g4, g5, g6, g7⟩
    · have := h.fin k l hk hl (by omega)
      simp only [MX] at g
      omega
    · exact absurd g hn
    · exact ⟨i, j, e, g1, g2, g4, g5, g6, g7⟩
theorem Least.unique {a b : List Int} {P D : Nat → Nat → Int} (hP : Least a b P) (hD : Least a b D) : ∀ (s k l : Nat), k + l = s → k ≤ a.length → l ≤ b.length → P k l = D k l := by
  intro s
  induction s using Nat.strongRecOn with
  | ind s ih =>
    intro k l hs hk hl
    by_cases h0 : k = 0 ∧ l = 0
    · rw [h0.1, h0.2, hP.zero, hD.zero]
    · obtain ⟨i, j, e, h1, h2, h3, h4, h5, h6⟩ := hP.from' k l hk hl h0
      obtain ⟨i', j', e', g1, g2, g3, g4, g5, g6⟩ := hD.from' k l hk hl h0
      have a1 := hD.le i j e h1 h2 h3
      have a2 := hP.le i' j' e' g1 g2 g3
      have s1 := step_gt h3
      have s2 := step_gt g3
      rw [h4, h5] at a1
      rw [g4, g5] at a2
      have e1 := ih (i + j) (by omega) i j rfl h1 h2
      have e2 := ih (i' + j') (by omega) i' j' rfl g1 g2
      omega
theorem Least.walk {a b : List Int} {P : Nat → Nat → Int} (hP : Least a b P) : ∀ (es : List Nat) (i j : Nat) (s : Int) (i' j' : Nat) (s' : Int), i ≤ a.length → j ≤ b.length → walk a b es i j s = some (i', j', s') → P i' j' ≤ P i j + (s' - s)
  | [], i, j, s, i', j', s', _, _, h => by
    simp only [Heard.walk, Option.some.injEq, Prod.mk.injEq] at h
    obtain ⟨rfl, rfl, rfl⟩ := h
    omega
  | e :: es, i, j, s, i', j', s', hi, hj, h => by
    simp only [Heard.walk] at h
    split at h
    · rename_i hok
      have h1 := stepP_le hok
      have h2 := hP.walk es _ _ _ i' j' s' (by omega) (by omega) h
      have h3 := hP.le i j e hi hj hok
      omega
    · cases h
/-- What Align finds is what the table of Potential has. -/
theorem align_pot {a b : List Int} {T C P : Nat → Nat → Int} (hA : InvA a b T C 0 0) (hP : Least a b P) (ha : a.length ≤ 96) (hb : b.length ≤ 96) {p : List Nat} (hw : Heard.walk a b p 0 0 0 = some (a.length, b.length, T 0 0)) : P a.length b.length = T 0 0 := by
  have h1 := hP.walk p 0 0 0 _ _ _ (by omega) (by omega) hw
  rw [hP.zero] at h1
  have hD : ∀ i j, i ≤ a.length → j ≤ b.length → Done a b T C i j := fun i j hi hj => hA.done i j hi hj (by omega)
  have hT : ∀ i j e, i ≤ a.length → j ≤ b.length → (stepP a b i j e).2.2 = true → T i j ≤ cst e + T (stepP a b i j e).1 (stepP a b i j e).2.1 := by
    intro i j e hi hj hok
    have hne : ¬ (i = a.length ∧ j = b.length) := fun hc => by
      have := step_gt hok
      have := stepP_le hok
      omega
    obtain ⟨c, h2, _⟩ := (hD i j hi hj).2.1 hne
    have h3 := (relC_le a b T i j 5 0 (MX, 0)).2 e (by omega) (by have := step_lt hok; omega) hok
    rw [h2] at h3
    exact h3
  have key : ∀ (s k l : Nat), k + l = s → k ≤ a.length → l ≤ b.length → T 0 0 ≤ P k l + T k l := by
    intro s
    induction s using Nat.strongRecOn with
    | ind s ih =>
      intro k l hs hk hl
      by_cases h0 : k = 0 ∧ l = 0
      · rw [h0.1, h0.2, hP.zero]; omega
      · obtain ⟨i, j, e, h2, h3, h4, h5, h6, h7⟩ := hP.from' k l hk hl h0
        have h8 := hT i j e h2 h3 h4
        have h9 := step_gt h4
        have h10 := ih (i + j) (by omega) i j rfl h2 h3
        rw [h5, h6] at h8
        omega
  have h2 := key _ a.length b.length rfl (Nat.le_refl _) (Nat.le_refl _)
  have h3 := (hD a.length b.length (Nat.le_refl _) (Nat.le_refl _)).1 ⟨rfl, rfl⟩
  omega
theorem InvD.least {a b : List Int} {P : Nat → Nat → Int} (h : InvD a b P (a.length + 1) 0) : Least a b P := by
  have hd : ∀ x y, x ≤ a.length → y ≤ b.length → P x y = chp a b P x y := fun x y hx hy => (h.done x y hx hy (.inl (by omega))).1
  have hpos : ∀ x y, 0 ≤ P x y := fun x y => by
    by_cases c : x ≤ a.length ∧ y ≤ b.length
    · exact (h.done x y c.1 c.2 (.inl (by omega))).2.1
    · rw [h.fresh x y (fun hc => c ⟨hc.1, hc.2.1⟩)]; exact Int.le_refl _
  have le4 : ∀ i j v, v4p a b P i j v ≤ v := fun i j v => by
    simp only [v4p]; split
    · exact (mn_le _ _).1
    · exact Int.le_refl _
  have le3 : ∀ i j v, v3p a b P i j v ≤ v := fun i j v => by
    simp only [v3p]; split
    · exact (mn_le _ _).1
    · exact Int.le_refl _
  have le2 : ∀ i j v, 0 < i → v2p P i j v ≤ v := fun i j v hi => by
    simp only [v2p]; split
    · rename_i c; rcases c.2 with c | c <;> omega
    · exact Int.le_refl _
  have le2' : ∀ i j v, 0 < j → v2p P i j v ≤ P i (j - 1) + 4 := fun i j v hj => by
    simp only [v2p]; split
    · exact Int.le_refl _
    · rename_i c
      have : ¬ (i = 0 ∨ P i (j - 1) + 4 < v) := fun hc => c ⟨hj, hc⟩
      omega
  refine ⟨?_, fun i j e hi hj hok => ?_, fun k l hk hl hn => ?_⟩
  · rw [hd 0 0 (by omega) (by omega)]
    simp [chp, v1p, v2p, v3p, v4p, exch]
  · have hs := stepP_le hok
    have he := step_lt hok
    match e, he with
    | 0, _ =>
      simp only [stepP, Bool.and_eq_true, decide_eq_true_eq] at hok hs ⊢
      rw [hd (i + 1) (j + 1) (by omega) (by omega)]
      refine Int.le_trans (le4 _ _ _) ?_
      simp only [v3p, Nat.add_sub_cancel]
      rw [if_pos (by omega), if_pos hok.2]
      exact (mn_le _ _).2.1
    | 1, _ =>
      simp only [stepP, Bool.and_eq_true, decide_eq_true_eq, Bool.not_eq_true', decide_eq_false_iff_not] at hok hs ⊢
      rw [hd (i + 1) (j + 1) (by omega) (by omega)]
      refine Int.le_trans (le4 _ _ _) ?_
      simp only [v3p, Nat.add_sub_cancel]
      rw [if_pos (by omega), if_neg hok.2]
      exact (mn_le _ _).2.1
    | 2, _ =>
      simp only [stepP, decide_eq_true_eq] at hok hs ⊢
      rw [hd (i + 1) j (by omega) (by omega)]
      refine Int.le_trans (le4 _ _ _) (Int.le_trans (le3 _ _ _) (Int.le_trans (le2 _ _ _ (by omega)) ?_))
      simp only [v1p, Nat.add_sub_cancel]
      rw [if_pos (by omega)]
      exact Int.le_refl _
    | 3, _ =>
      simp only [stepP, decide_eq_true_eq] at hok hs ⊢
      rw [hd i (j + 1) (by omega) (by omega)]
      refine Int.le_trans (le4 _ _ _) (Int.le_trans (le3 _ _ _) ?_)
      exact le2' i (j + 1) _ (by omega)
    | 4, _ =>
      simp only [stepP, Bool.and_eq_true, decide_eq_true_eq, Bool.not_eq_true', decide_eq_false_iff_not] at hok hs ⊢
      rw [hd (i + 2) (j + 2) (by omega) (by omega)]
      have hx : exch a b (i + 2) (j + 2) = true := by
        simp only [exch, Nat.add_sub_cancel, Bool.and_eq_true, decide_eq_true_eq, Bool.not_eq_true', decide_eq_false_iff_not]
        exact ⟨⟨⟨⟨by omega, by omega⟩, hok.1.1.2⟩, hok.1.2⟩, hok.2⟩
      simp only [chp]
      generalize v3p a b P (i + 2) (j + 2) _ = v
      simp only [v4p, Nat.add_sub_cancel]
      rw [if_pos hx]
      exact (mn_le _ _).2.1
  · rw [hd k l hk hl]
    -- from the exchange
    by_cases c4 : v4p a b P k l (v3p a b P k l (v2p P k l (v1p P k l))) = v3p a b P k l (v2p P k l (v1p P k l))
    · by_cases c3 : v3p a b P k l (v2p P k l (v1p P k l)) = v2p P k l (v1p P k l)
      · by_cases c2 : v2p P k l (v1p P k l) = v1p P k l
        · by_cases hk0 : 0 < k
          · refine ⟨k - 1, l, 2, by omega, hl, by simp [stepP]; omega, by simp only [stepP]; omega, rfl, ?_⟩
            rw [chp, c4, c3, c2]; simp only [v1p]
            rw [if_pos hk0]; rfl
          · refine ⟨k, l - 1, 3, hk, by omega, by simp [stepP]; omega, rfl, by simp only [stepP]; omega, ?_⟩
            rw [chp, c4, c3]; simp only [v2p]
            rw [if_pos ⟨by omega, .inl (by omega)⟩]; rfl
        · simp only [v2p] at c2
          split at c2
          · rename_i hc
            refine ⟨k, l - 1, 3, hk, by omega, by simp [stepP]; omega, rfl, by simp only [stepP]; omega, ?_⟩
            rw [chp, c4, c3]; simp only [v2p]
            rw [if_pos hc]; rfl
          · exact absurd rfl c2
      · simp only [v3p] at c3
        split at c3
        · rename_i hc
          rcases (mn_le (v2p P k l (v1p P k l)) (P (k - 1) (l - 1) + (if nth 0 a (k - 1) = nth 0 b (l - 1) then 0 else 3))).2.2 with g | g
          · exact absurd g c3
          · by_cases heq : nth 0 a (k - 1) = nth 0 b (l - 1)
            · refine ⟨k - 1, l - 1, 0, by omega, by omega, by simp [stepP, heq]; omega, by simp only [stepP]; omega, by simp only [stepP]; omega, ?_⟩
              simp only [chp, c4]
              simp only [v3p]
              rw [if_pos hc, g, if_pos heq]; rfl
            · refine ⟨k - 1, l - 1, 1, by omega, by omega, by simp [stepP, heq]; omega, by simp only [stepP]; omega, by simp only [stepP]; omega, ?_⟩
              simp only [chp, c4]
              simp only [v3p]
              rw [if_pos hc, g, if_neg heq]; rfl
        · exact absurd rfl c3
    · have hch : chp a b P k l = v4p a b P k l (v3p a b P k l (v2p P k l (v1p P k l))) := rfl
      rw [hch]
      generalize v3p a b P k l (v2p P k l (v1p P k l)) = v at *
      simp only [v4p] at c4 ⊢
      split at c4
      · rename_i hx
        rcases (mn_le v (P (k - 2) (l - 2) + 4)).2.2 with g | g
        · exact absurd g c4
        · have hlt := exch_lt hx
          rw [if_pos hx, g]
          simp only [exch, Bool.and_eq_true, decide_eq_true_eq, Bool.not_eq_true', decide_eq_false_iff_not] at hx
          obtain ⟨⟨⟨_, x1⟩, x2⟩, x3⟩ := hx
          have e1 : k - 2 + 1 = k - 1 := by omega
          have e2 : l - 2 + 1 = l - 1 := by omega
          refine ⟨k - 2, l - 2, 4, by omega, by omega, ?_, by simp only [stepP]; omega, by simp only [stepP]; omega, rfl⟩
          simp only [stepP, e1, e2, Bool.and_eq_true, decide_eq_true_eq, Bool.not_eq_true', decide_eq_false_iff_not]
          exact ⟨⟨⟨⟨by omega, by omega⟩, x1⟩, x2⟩, x3⟩
      · exact absurd rfl c4
end Heard
