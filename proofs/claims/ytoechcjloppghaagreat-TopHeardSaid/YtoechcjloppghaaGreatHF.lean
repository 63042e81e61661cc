/- TopHeard: Potential, Verify. -/
import Derived.Test.YtoechcjloppghaaGreatHE
open Go Go.Proofs Go.Abs
namespace Heard
def Bef (i j e i' j' e' : Nat) : Prop := i' < i ∨ i' = i ∧ (j' < j ∨ j' = j ∧ e' < e)
structure InvP (a b : List Int) (P : Nat → Nat → Int) (i j e : Nat) : Prop where
  le : ∀ i' j' e', i' ≤ a.length → j' ≤ b.length → Bef i j e i' j' e' → (stepP a b i' j' e').2.2 = true → P (stepP a b i' j' e').1 (stepP a b i' j' e').2.1 ≤ P i' j' + cst e'
  from' : ∀ k l, P k l = MX ∨ (k = 0 ∧ l = 0) ∨ ∃ i' j' e', i' ≤ a.length ∧ j' ≤ b.length ∧ Bef i j e i' j' e' ∧ (stepP a b i' j' e').2.2 = true ∧ (stepP a b i' j' e').1 = k ∧ (stepP a b i' j' e').2.1 = l ∧ P k l = P i' j' + cst e'
  zero : P 0 0 = 0
  pos : ∀ k l, 0 ≤ P k l ∧ P k l ≤ MX
  fin : ∀ k l, k ≤ a.length → l ≤ b.length → (k < i ∨ k = i ∧ l ≤ j) → P k l ≤ 4 * ((k : Int) + l)
theorem InvP.skip {a b : List Int} {P : Nat → Nat → Int} {i j e : Nat} (h : InvP a b P i j e) (hok : (stepP a b i j e).2.2 = false) : InvP a b P i j (e + 1) := by
  refine ⟨fun i' j' e' h1 h2 h3 h4 => ?_, fun k l => ?_, h.zero, h.pos, h.fin⟩
  · by_cases hb : Bef i j e i' j' e'
    · exact h.le i' j' e' h1 h2 hb h4
    · have : i' = i ∧ j' = j ∧ e' = e := by simp only [Bef] at h3 hb; omega
      obtain ⟨rfl, rfl, rfl⟩ := this
      rw [hok] at h4; cases h4
  · rcases h.from' k l with g | g | ⟨i', j', e', g1, g2, g3, g4⟩
    · exact .inl g
    · exact .inr (.inl g)
    · exact .inr (.inr ⟨i', j', e', g1, g2, by simp only [Bef] at g3 ⊢; omega, g4⟩)
theorem InvP.step {a b : List Int} {P : Nat → Nat → Int} {i j e : Nat} (h : InvP a b P i j e) (hi : i ≤ a.length) (hj : j ≤ b.length) (hok : (stepP a b i j e).2.2 = true) (v : Int) (hv : v = if P i j + cst e < P (stepP a b i j e).1 (stepP a b i j e).2.1 then P i j + cst e else P (stepP a b i j e).1 (stepP a b i j e).2.1) :
    InvP a b (upd P (stepP a b i j e).1 (stepP a b i j e).2.1 v) i j (e + 1) := by
  have hgt := step_gt hok
  have hce := cst_le e (step_lt hok)
  have hle1 : v ≤ P i j + cst e := by rw [hv]; split <;> omega
  have hle2 : v ≤ P (stepP a b i j e).1 (stepP a b i j e).2.1 := by rw [hv]; split <;> omega
  have hp1 := h.pos i j
  have hp2 := h.pos (stepP a b i j e).1 (stepP a b i j e).2.1
  have old : ∀ i' j' e', Bef i j (e + 1) i' j' e' → upd P (stepP a b i j e).1 (stepP a b i j e).2.1 v i' j' = P i' j' := fun i' j' e' hb => upd_ne _ _ _ _ _ _ (by simp only [Bef] at hb; omega)
  have hup : ∀ k l, upd P (stepP a b i j e).1 (stepP a b i j e).2.1 v k l ≤ P k l := fun k l => by
    simp only [upd]; split
    · rename_i c; rw [c.1, c.2]; exact hle2
    · exact Int.le_refl _
  refine ⟨fun i' j' e' h1 h2 h3 h4 => ?_, fun k l => ?_, ?_, fun k l => ?_, fun k l h1 h2 h3 => ?_⟩
  · rw [old i' j' e' h3]
    by_cases hb : Bef i j e i' j' e'
    · exact Int.le_trans (hup _ _) (h.le i' j' e' h1 h2 hb h4)
    · have : i' = i ∧ j' = j ∧ e' = e := by simp only [Bef] at h3 hb; omega
      obtain ⟨rfl, rfl, rfl⟩ := this
      rw [upd_same]; exact hle1
  · by_cases hkl : k = (stepP a b i j e).1 ∧ l = (stepP a b i j e).2.1
    · obtain ⟨rfl, rfl⟩ := hkl
      rw [upd_same]
      by_cases hlt : P i j + cst e < P (stepP a b i j e).1 (stepP a b i j e).2.1
      · rw [if_pos hlt] at hv
        refine .inr (.inr ⟨i, j, e, hi, hj, .inr ⟨rfl, .inr ⟨rfl, by omega⟩⟩, hok, rfl, rfl, ?_⟩)
        rw [old i j e (.inr ⟨rfl, .inr ⟨rfl, by omega⟩⟩), hv]
      · rw [if_neg hlt] at hv
        rcases h.from' (stepP a b i j e).1 (stepP a b i j e).2.1 with g | g | ⟨i', j', e', g1, g2, g3, g4, g5, g6, g7⟩
        · exact .inl (by rw [hv]; exact g)
        · exact .inr (.inl g)
        · refine .inr (.inr ⟨i', j', e', g1, g2, by simp only [Bef] at g3 ⊢; omega, g4, g5, g6, ?_⟩)
          rw [old i' j' e' (by simp only [Bef] at g3 ⊢; omega), hv]; exact g7
    · rw [upd_ne _ _ _ _ _ _ hkl]
      rcases h.from' k l with g | g | ⟨i', j', e', g1, g2, g3, g4, g5, g6, g7⟩
      · exact .inl g
      · exact .inr (.inl g)
      · refine .inr (.inr ⟨i', j', e', g1, g2, by simp only [Bef] at g3 ⊢; omega, g4, g5, g6, ?_⟩)
        rw [old i' j' e' (by simp only [Bef] at g3 ⊢; omega)]; exact g7
  · rw [upd_ne _ _ _ _ _ _ (by omega)]; exact h.zero
  · simp only [upd]; split
    · exact ⟨by rw [hv]; split <;> omega, by omega⟩
    · exact h.pos k l
  · exact Int.le_trans (hup k l) (h.fin k l h1 h2 h3)
theorem InvP.next {a b : List Int} {P : Nat → Nat → Int} {i j : Nat} (h : InvP a b P i j 5) (hi : i ≤ a.length) (hj : j < b.length) : InvP a b P i (j + 1) 0 := by
  refine ⟨fun i' j' e' h1 h2 h3 h4 => ?_, fun k l => ?_, h.zero, h.pos, fun k l h1 h2 h3 => ?_⟩
  · have := step_lt h4
    exact h.le i' j' e' h1 h2 (by simp only [Bef] at h3 ⊢; omega) h4
  · rcases h.from' k l with g | g | ⟨i', j', e', g1, g2, g3, g4⟩
    · exact .inl g
    · exact .inr (.inl g)
    · exact .inr (.inr ⟨i', j', e', g1, g2, by simp only [Bef] at g3 ⊢; omega, g4⟩)
  · by_cases hk : k = i ∧ l = j + 1
    · obtain ⟨rfl, rfl⟩ := hk
      have hok : (stepP a b k j 3).2.2 = true := by simpa [stepP] using hj
      have g1 := h.le k j 3 hi (by omega) (.inr ⟨rfl, .inr ⟨rfl, by omega⟩⟩) hok
      have g2 := h.fin k j hi (by omega) (by omega)
      have hc : cst 3 = 4 := rfl
      simp only [stepP] at g1
      omega
    · exact h.fin k l h1 h2 (by omega)
theorem InvP.row {a b : List Int} {P : Nat → Nat → Int} {i : Nat} (h : InvP a b P i b.length 5) (hi : i < a.length) : InvP a b P (i + 1) 0 0 := by
  refine ⟨fun i' j' e' h1 h2 h3 h4 => ?_, fun k l => ?_, h.zero, h.pos, fun k l h1 h2 h3 => ?_⟩
  · have := step_lt h4
    exact h.le i' j' e' h1 h2 (by simp only [Bef] at h3 ⊢; omega) h4
  · rcases h.from' k l with g | g | ⟨i', j', e', g1, g2, g3, g4⟩
    · exact .inl g
    · exact .inr (.inl g)
    · exact .inr (.inr ⟨i', j', e', g1, g2, by simp only [Bef] at g3 ⊢; omega, g4⟩)
  · by_cases hk : k = i + 1 ∧ l = 0
    · obtain ⟨rfl, rfl⟩ := hk
      have hok : (stepP a b i 0 2).2.2 = true := by simpa [stepP] using hi
      have g1 := h.le i 0 2 (by omega) (by omega) (.inr ⟨rfl, by omega⟩) hok
      have g2 := h.fin i 0 (by omega) (by omega) (by omega)
      have hc : cst 2 = 4 := rfl
      simp only [stepP] at g1
      omega
    · exact h.fin k l h1 h2 (by omega)
theorem invP0 (a b : List Int) : InvP a b (upd (fun _ _ => MX) 0 0 0) 0 0 0 := by
  refine ⟨fun i' j' e' h1 h2 h3 h4 => ?_, fun k l => ?_, upd_same _ _ _ _, fun k l => ?_, fun k l h1 h2 h3 => ?_⟩
  · simp only [Bef] at h3; omega
  · by_cases hk : k = 0 ∧ l = 0
    · exact .inr (.inl hk)
    · exact .inl (upd_ne _ _ _ _ _ _ hk)
  · simp only [upd, MX]; split <;> omega
  · obtain ⟨rfl, rfl⟩ : k = 0 ∧ l = 0 := by omega
    rw [upd_same]; omega
end Heard

open Go Go.Proofs Go.Abs
namespace Heard
theorem pl9_0 : plainD env (dr Tryz.f9 0) = true := by kernel_rfl
theorem min2 (x y : Int) : minA (fun y x => decide (y < x)) [.int .i64 x, .int .i64 y] = some (.int .i64 (if y < x then y else x)) := by
  simp only [minA, List.foldlM_cons, List.foldlM_nil, bind, Option.bind]
  by_cases h : y < x <;> simp [h]
set_option maxHeartbeats 4000000 in
set_option maxRecDepth 100000 in
theorem pot_edit (a b : List Int) (ha : a.length ≤ 96) (hb : b.length ≤ 96) (N M bT : Nat) (hN : N = a.length + 1) (hM : M = b.length + 1) (i j : Nat) (hi : i < N) (hj : j < M) (Q : Out → Prop) : ∀ (k e : Nat) (P : Nat → Nat → Int) (H : Heap) (sl : List (Nat × AV)), e + k = 5 → Tab H bT N M P → InvP a b P i j e →
    getS sl (.tup []) 0 = .lst (ints a) → getS sl (.tup []) 1 = .lst (ints b) → getS sl (.tup []) 6 = .ref bT N 0 N → getS sl (.tup []) 7 = .int .i64 i → getS sl (.tup []) 8 = .int .i64 j → getS sl (.tup []) 24 = .int .i64 N → getS sl (.tup []) 25 = .int .i64 i → getS sl (.tup []) 32 = .int .i64 M → getS sl (.tup []) 33 = .int .i64 j → getS sl (.tup []) 36 = .int .i64 e →
    (∀ sl' H' P', Tab H' bT N M P' → InvP a b P' i j 5 →
      getS sl' (.tup []) 0 = .lst (ints a) → getS sl' (.tup []) 1 = .lst (ints b) → getS sl' (.tup []) 6 = .ref bT N 0 N → getS sl' (.tup []) 7 = .int .i64 i → getS sl' (.tup []) 24 = .int .i64 N → getS sl' (.tup []) 25 = .int .i64 i → getS sl' (.tup []) 32 = .int .i64 M → getS sl' (.tup []) 33 = .int .i64 j → Q (.exit 4 ⟨78, .tup [], sl', []⟩ H')) →
    Gives (loopL env (lp Tryz.f9 2) ⟨78, .tup [], sl, []⟩ H) Q := by
  have p0 := pl9_0
  simp only [dr, drs, Tryz.f9, List.append_nil, List.nil_append, List.cons_append, nth_zero, nth_succ] at p0
  intro k
  induction k with
  | zero =>
    intro e P H sl he hT hI g0 g1 g6 g7 g8 g24 g25 g32 g33 g36 q
    obtain rfl : e = 5 := by omega
    refine gives_loop ?_
    simp (disch := omega) [lp, Tryz.f9, loops, g36]
    exact q _ _ P hT hI (by simp [g0]) (by simp [g1]) (by simp [g6]) (by simp [g7]) (by simp [g24]) (by simp [g25]) (by simp [g32]) (by simp [g33])
  | succ k ih =>
    intro e P H sl he hT hI g0 g1 g6 g7 g8 g24 g25 g32 g33 g36 q
    have c1 := c23 a b i j e ha hb (by omega) (by omega) (by omega)
    have c2 := c24 e (by omega)
    have hc := cst_le e (by omega)
    have hst := stepP_le (a := a) (b := b) (i := i) (j := j) (e := e)
    have hec : (e : Int) < 5 := by omega
    have hskip := hI.skip
    have hstep := hI.step (by omega) (by omega)
    have hf := hI.fin i j (by omega) (by omega) (by omega)
    have hp := hI.pos i j
    refine gives_loop ?_
    cases hok : (stepP a b i j e).2.2
    · have hI2 := hskip hok
      generalize stepP a b i j e = st at *
      simp (disch := omega) [lp, Tryz.f9, loops, g0, g1, g6, g7, g8, g36, hec, c1, hok, wrapI]
      exact ih (e + 1) P H _ (by omega) hT hI2 (by simp [g0]) (by simp [g1]) (by simp [g6]) (by simp [g7]) (by simp [g8]) (by simp [g24]) (by simp [g25]) (by simp [g32]) (by simp [g33]) (by simp) q
    · have hk := hst hok
      have hI2 := hstep hok _ rfl
      have hkl : (stepP a b i j e).1 < N ∧ (stepP a b i j e).2.1 < M := by omega
      generalize stepP a b i j e = st at *
      generalize cst e = ce at *
      have r1 := hT.i1
      have r2 := hT.l1
      have r3 := hT.i2
      have r4 := hT.l2 st.1 st.2.1 hkl.1 hkl.2
      have r5 := hT.l2 i j hi hj
      have s1 := hT.st st.1 st.2.1 hkl.1 hkl.2 (if P i j + ce < P st.1 st.2.1 then P i j + ce else P st.1 st.2.1)
      have hT1 := hT.set st.1 st.2.1 hkl.1 hkl.2 (if P i j + ce < P st.1 st.2.1 then P i j + ce else P st.1 st.2.1)
      have m1 := min2 (P st.1 st.2.1) (P i j + ce)
      generalize (if P i j + ce < P st.1 st.2.1 then P i j + ce else P st.1 st.2.1) = mv at *
      generalize H.set (bT + 1 + st.1) (.row false 1 (rowE M fun y => if y = st.2.1 then mv else P st.1 y)) = H1 at *
      generalize upd P st.1 st.2.1 mv = P1 at *
      simp only [MX] at hp
      simp (disch := omega) [-loadP, -storeP, lp, Tryz.f9, loops, g0, g1, g6, g7, g8, g36, hec, c1, c2, hok, wrapI, regionD_plain p0, r1, r2, r3, r4, r5, s1, m1]
      exact ih (e + 1) P1 H1 _ (by omega) hT1 hI2 (by simp [g0]) (by simp [g1]) (by simp [g6]) (by simp [g7]) (by simp [g8]) (by simp [g24]) (by simp [g25]) (by simp [g32]) (by simp [g33]) (by simp) q
end Heard

open Go Go.Proofs Go.Abs
namespace Heard
set_option maxHeartbeats 4000000 in
set_option maxRecDepth 100000 in
theorem pot_inner (a b : List Int) (ha : a.length ≤ 96) (hb : b.length ≤ 96) (N M bT : Nat) (hN : N = a.length + 1) (hM : M = b.length + 1) (i : Nat) (hi : i < N) (Q : Out → Prop) : ∀ (k j : Nat) (P : Nat → Nat → Int) (H : Heap) (sl : List (Nat × AV)), j + k = M → Tab H bT N M P → (j ≤ b.length → InvP a b P i j 0) → (j = M → InvP a b P i b.length 5) →
    getS sl (.tup []) 0 = .lst (ints a) → getS sl (.tup []) 1 = .lst (ints b) → getS sl (.tup []) 6 = .ref bT N 0 N → getS sl (.tup []) 7 = .int .i64 i → getS sl (.tup []) 24 = .int .i64 N → getS sl (.tup []) 25 = .int .i64 i → getS sl (.tup []) 32 = .int .i64 M → getS sl (.tup []) 33 = .int .i64 j →
    (∀ sl' H' P', Tab H' bT N M P' → InvP a b P' i b.length 5 →
      getS sl' (.tup []) 0 = .lst (ints a) → getS sl' (.tup []) 1 = .lst (ints b) → getS sl' (.tup []) 6 = .ref bT N 0 N → getS sl' (.tup []) 24 = .int .i64 N → getS sl' (.tup []) 25 = .int .i64 i → Q (.exit 2 ⟨78, .tup [], sl', []⟩ H')) →
    Gives (loopL env (lp Tryz.f9 1) ⟨78, .tup [], sl, []⟩ H) Q := by
  intro k
  induction k with
  | zero =>
    intro j P H sl hj hT h1 h2 g0 g1 g6 g7 g24 g25 g32 g33 q
    refine gives_loop ?_
    simp (disch := omega) [lp, Tryz.f9, loops, g32, g33, decF]
    exact q _ _ P hT (h2 (by omega)) (by simp [g0]) (by simp [g1]) (by simp [g6]) (by simp [g24]) (by simp [g25])
  | succ k ih =>
    intro j P H sl hj hT h1 h2 g0 g1 g6 g7 g24 g25 g32 g33 q
    refine gives_loop ?_
    have hc : (j : Int) < M := by omega
    simp (disch := omega) [lp, Tryz.f9, loops, g0, g1, g6, g7, g24, g25, g32, g33, decT, hc]
    generalize hx : loopL env _ _ _ = L
    apply gives_cut hx
    clear hx
    refine pot_edit a b ha hb N M bT hN hM i j hi (by omega) _ 5 0 P H _ rfl hT (h1 (by omega)) (by simp [g0]) (by simp [g1]) (by simp [g6]) (by simp [g7]) (by simp) (by simp [g24]) (by simp [g25]) (by simp [g32]) (by simp [g33]) (by simp) (fun sl' H' P' t1 hI k0 k1 k6 k7 k24 k25 k32 k33 => ?_)
    simp (disch := omega) [k33, wrapI]
    exact ih (j + 1) P' H' _ (by omega) t1 (fun h => hI.next (by omega) (by omega)) (fun h => (show j = b.length by omega) ▸ hI) (by simp [k0]) (by simp [k1]) (by simp [k6]) (by simp [k7]) (by simp [k24]) (by simp [k25]) (by simp [k32]) (by simp) q
set_option maxHeartbeats 4000000 in
set_option maxRecDepth 100000 in
theorem pot_outer (a b : List Int) (ha : a.length ≤ 96) (hb : b.length ≤ 96) (N M bT : Nat) (hN : N = a.length + 1) (hM : M = b.length + 1) (Q : Out → Prop) : ∀ (k i : Nat) (P : Nat → Nat → Int) (H : Heap) (sl : List (Nat × AV)), i + k = N → Tab H bT N M P → (i ≤ a.length → InvP a b P i 0 0) → (i = N → InvP a b P a.length b.length 5) →
    getS sl (.tup []) 0 = .lst (ints a) → getS sl (.tup []) 1 = .lst (ints b) → getS sl (.tup []) 6 = .ref bT N 0 N → getS sl (.tup []) 24 = .int .i64 N → getS sl (.tup []) 25 = .int .i64 i →
    (∀ sl' H' P', Tab H' bT N M P' → InvP a b P' a.length b.length 5 → getS sl' (.tup []) 6 = .ref bT N 0 N → Q (.exit 0 ⟨78, .tup [], sl', []⟩ H')) →
    Gives (loopL env (lp Tryz.f9 0) ⟨78, .tup [], sl, []⟩ H) Q := by
  intro k
  induction k with
  | zero =>
    intro i P H sl hj hT h1 h2 g0 g1 g6 g24 g25 q
    refine gives_loop ?_
    simp (disch := omega) [lp, Tryz.f9, loops, g24, g25, decF]
    exact q _ _ P hT (h2 (by omega)) (by simp [g6])
  | succ k ih =>
    intro i P H sl hj hT h1 h2 g0 g1 g6 g24 g25 q
    refine gives_loop ?_
    have hc : (i : Int) < N := by omega
    have r1 := hT.i1
    have r2 := hT.l1
    simp (disch := omega) [-loadP, lp, Tryz.f9, loops, g0, g1, g6, g24, g25, decT, hc, r1, r2]
    generalize hx : loopL env _ _ _ = L
    apply gives_cut hx
    clear hx
    refine pot_inner a b ha hb N M bT hN hM i (by omega) _ M 0 P H _ (by omega) hT (fun _ => h1 (by omega)) (fun h => by omega) (by simp [g0]) (by simp [g1]) (by simp [g6]) (by simp) (by simp [g24]) (by simp [g25]) (by simp) (by simp) (fun sl' H' P' t1 hI k0 k1 k6 k24 k25 => ?_)
    simp (disch := omega) [k25, wrapI]
    exact ih (i + 1) P' H' _ (by omega) t1 (fun h => hI.row (by omega)) (fun h => (show i = a.length by omega) ▸ hI) (by simp [k0]) (by simp [k1]) (by simp [k6]) (by simp [k24]) (by simp) q
set_option maxHeartbeats 4000000 in
set_option maxRecDepth 100000 in
theorem pot_ok (a b : List Int) (ha : a.length ≤ 96) (hb : b.length ≤ 96) :
    ∃ P, InvP a b P a.length b.length 5 ∧ ∃ r, callL env 9 [.lst (ints a), .lst (ints b)] [] = some r ∧ snap .any depth r.2 r.1 = some (.tup [.lst (tabL (a.length + 1) (b.length + 1) P), .int .i64 0]) := by
  suffices hh : ∀ Q : AV × Heap → Prop, (∀ r P, InvP a b P a.length b.length 5 → snap .any depth r.2 r.1 = some (.tup [.lst (tabL (a.length + 1) (b.length + 1) P), .int .i64 0]) → Q r) → Gives (callL env 9 [.lst (ints a), .lst (ints b)] []) Q by
    obtain ⟨r, hr, P, h1, h2⟩ := gives_iff.1 (hh (fun r => ∃ P, InvP a b P a.length b.length 5 ∧ snap .any depth r.2 r.1 = some (.tup [.lst (tabL (a.length + 1) (b.length + 1) P), .int .i64 0])) (fun r P h1 h2 => ⟨P, h1, h2⟩))
    exact ⟨P, h1, r, hr, h2⟩
  intro Q hq
  apply gives_call
  have e1 : decide (96 < a.length) = false := decF (by omega)
  have e2 : decide (96 < b.length) = false := decF (by omega)
  obtain ⟨H1, k1, k2, _⟩ : ∃ H1, callN env (callL env) 22 [.lst (ints a), .lst (ints b), .int .i64 MX] [Ent.row false 1 []] = some (.ref 2 (a.length + 1) 0 (a.length + 1), H1) ∧ Tab H1 2 (a.length + 1) (b.length + 1) (fun _ _ => MX) ∧ Pre [Ent.row false 1 []] H1 := c22 a b MX ha hb [Ent.row false 1 []]
  have r1 := k2.i1 0 (by omega) (by omega)
  have r2 := k2.l1 0 (by omega)
  have r3 := k2.i2 0 (by omega) 0 (by omega) (by omega)
  have s1 := k2.st 0 0 (by omega) (by omega) 0
  have hT1 := k2.set 0 0 (by omega) (by omega) 0
  simp only [Int.toNat_zero, Nat.reduceAdd] at r1 r2 r3 s1 hT1
  have hxx : (9223372036854775807 : Int) = MX := rfl
  have hI := invP0 a b
  generalize H1.set 3 (.row false 1 (rowE (b.length + 1) fun y => if y = 0 then 0 else MX)) = H2 at *
  simp (disch := omega) [-loadP, -storeP, Tryz.f9, c21, e1, e2, hxx, k1, r1, r2, r3, s1]
  generalize hx : loopL env _ _ _ = L
  apply gives_cut hx
  clear hx
  refine pot_outer a b ha hb (a.length + 1) (b.length + 1) 2 rfl rfl _ (a.length + 1) 0 _ H2 _ (by omega) hT1 (fun _ => hI) (fun h => by omega) (by simp) (by simp) (by simp) (by simp) (by simp) (fun sl' H' P' t1 hI' k6 => ?_)
  simp [k6]
  refine hq _ P' hI' ?_
  show (List.mapM (snap .any 11 _) _).map AV.tup = _
  simp only [List.mapM_cons, List.mapM_nil]
  rw [t1.snap (by simp) 8]
  rfl
end Heard

open Go Go.Proofs Go.Abs
namespace Heard
theorem tabL_length (n m : Nat) (P : Nat → Nat → Int) : (tabL n m P).length = n := by simp [tabL]
theorem tabL_all (n m : Nat) (P : Nat → Nat → Int) : (tabL n m P).all (fun e => e.cells.length == 1) = true := by simp [tabL]
attribute [simp] tabL_length rowE_length
theorem index_tab (n m : Nat) (P : Nat → Nat → Int) (i : Int) (h : Heap) (h0 : 0 ≤ i) (h1 : i < n) : indexAddrA env 40 h (.lst (tabL n m P)) (.int .i64 i) = some (.iptr (.lst (rowE m (P i.toNat))) 0) := by
  unfold indexAddrA
  have h2 : i.toNat < n := by omega
  simp only [k40, envti, ti23, tabL_length, h0, h1, tabL_all, and_self, if_true]
  simp [tabL, h2]
theorem rowE_all (m : Nat) (f : Nat → Int) : (rowE m f).all (fun e => e.cells.length == 1) = true := by simp [rowE]
theorem index_row (m : Nat) (f : Nat → Int) (j : Int) (h : Heap) (h0 : 0 ≤ j) (h1 : j < m) : indexAddrA env 23 h (.lst (rowE m f)) (.int .i64 j) = some (.iptr (.int .i64 (f j.toNat)) 0) := by
  unfold indexAddrA
  have h2 : j.toNat < m := by omega
  simp only [k23, envti, ti3, rowE_length, h0, h1, rowE_all, and_self, if_true]
  simp [rowE, h2]
theorem load_lst (l : List AV) : loadE false 1 (.lst l) 0 = some (.lst l) := rfl
attribute [simp] load_lst
theorem pl13_0 : plainD env (dr Tryz.f13 0) = true := by kernel_rfl
variable (a b : List Int) (ha : a.length ≤ 96) (hb : b.length ≤ 96) (N M : Nat) (hN : N = a.length + 1) (hM : M = b.length + 1) (P : Nat → Nat → Int)
  (hle : ∀ i j e, i ≤ a.length → j ≤ b.length → (stepP a b i j e).2.2 = true → P (stepP a b i j e).1 (stepP a b i j e).2.1 ≤ P i j + cst e)
  (hP : ∀ i j, i ≤ a.length → j ≤ b.length → 0 ≤ P i j ∧ P i j ≤ 1000) (h : Heap) (Q : Out → Prop)
 include ha hb hN hM hle hP
set_option maxHeartbeats 4000000 in
set_option maxRecDepth 100000 in
theorem ver_edit (i j : Nat) (hi : i < N) (hj : j < M) : ∀ (k e : Nat) (sl : List (Nat × AV)), e + k = 5 →
    ∀ c, getS sl (.tup []) 0 = .lst (ints a) → getS sl (.tup []) 1 = .lst (ints b) → getS sl (.tup []) 2 = .int .i64 c → getS sl (.tup []) 3 = .lst (tabL N M P) → getS sl (.tup []) 10 = .int .i64 i → getS sl (.tup []) 11 = .int .i64 j → getS sl (.tup []) 49 = .int .i64 N → getS sl (.tup []) 50 = .int .i64 i → getS sl (.tup []) 57 = .int .i64 M → getS sl (.tup []) 58 = .int .i64 j → getS sl (.tup []) 61 = .int .i64 e →
    (∀ sl', getS sl' (.tup []) 0 = .lst (ints a) → getS sl' (.tup []) 1 = .lst (ints b) → getS sl' (.tup []) 2 = .int .i64 c → getS sl' (.tup []) 3 = .lst (tabL N M P) → getS sl' (.tup []) 10 = .int .i64 i → getS sl' (.tup []) 49 = .int .i64 N → getS sl' (.tup []) 50 = .int .i64 i → getS sl' (.tup []) 57 = .int .i64 M → getS sl' (.tup []) 58 = .int .i64 j → Q (.exit 6 ⟨122, .tup [], sl', []⟩ h)) →
    Gives (loopL env (lp Tryz.f13 3) ⟨122, .tup [], sl, []⟩ h) Q := by
  have p0 := pl13_0
  simp only [dr, drs, Tryz.f13, List.append_nil, List.nil_append, List.cons_append, nth_zero, nth_succ] at p0
  intro k
  induction k with
  | zero =>
    intro e sl he c g0 g1 g2 g3 g10 g11 g49 g50 g57 g58 g61 q
    obtain rfl : e = 5 := by omega
    refine gives_loop ?_
    simp (disch := omega) [lp, Tryz.f13, loops, g61]
    exact q _ (by simp [g0]) (by simp [g1]) (by simp [g2]) (by simp [g3]) (by simp [g10]) (by simp [g49]) (by simp [g50]) (by simp [g57]) (by simp [g58])
  | succ k ih =>
    intro e sl he c g0 g1 g2 g3 g10 g11 g49 g50 g57 g58 g61 q
    have c1 := c23 a b i j e ha hb (by omega) (by omega) (by omega)
    have c2 := c24 e (by omega)
    have hc := cst_le e (by omega)
    have hst := stepP_le (a := a) (b := b) (i := i) (j := j) (e := e)
    have hec : (e : Int) < 5 := by omega
    have hl := hle i j e (by omega) (by omega)
    have hp := hP i j (by omega) (by omega)
    refine gives_loop ?_
    cases hok : (stepP a b i j e).2.2
    · generalize stepP a b i j e = st at *
      simp (disch := omega) [lp, Tryz.f13, loops, g0, g1, g2, g3, g10, g11, g61, hec, c1, hok, wrapI, regionD_plain p0]
      exact ih (e + 1) _ (by omega) c (by simp [g0]) (by simp [g1]) (by simp [g2]) (by simp [g3]) (by simp [g10]) (by simp [g11]) (by simp [g49]) (by simp [g50]) (by simp [g57]) (by simp [g58]) (by simp) q
    · have hk := hst hok
      have hl2 := hl hok
      have hkl : (stepP a b i j e).1 < N ∧ (stepP a b i j e).2.1 < M := by omega
      have hp2 := hP _ _ (show (stepP a b i j e).1 ≤ a.length by omega) (show (stepP a b i j e).2.1 ≤ b.length by omega)
      generalize stepP a b i j e = st at *
      generalize cst e = ce at *
      simp (disch := omega) [lp, Tryz.f13, loops, g0, g1, g2, g3, g10, g11, g61, hec, c1, c2, hok, wrapI, regionD_plain p0, index_tab, index_row, decT, decF]
      exact ih (e + 1) _ (by omega) c (by simp [g0]) (by simp [g1]) (by simp [g2]) (by simp [g3]) (by simp [g10]) (by simp [g11]) (by simp [g49]) (by simp [g50]) (by simp [g57]) (by simp [g58]) (by simp) q
set_option maxHeartbeats 4000000 in
set_option maxRecDepth 100000 in
theorem ver_inner (i : Nat) (hi : i < N) : ∀ (k j : Nat) (sl : List (Nat × AV)), j + k = M →
    ∀ c, getS sl (.tup []) 0 = .lst (ints a) → getS sl (.tup []) 1 = .lst (ints b) → getS sl (.tup []) 2 = .int .i64 c → getS sl (.tup []) 3 = .lst (tabL N M P) → getS sl (.tup []) 10 = .int .i64 i → getS sl (.tup []) 49 = .int .i64 N → getS sl (.tup []) 50 = .int .i64 i → getS sl (.tup []) 57 = .int .i64 M → getS sl (.tup []) 58 = .int .i64 j →
    (∀ sl', getS sl' (.tup []) 0 = .lst (ints a) → getS sl' (.tup []) 1 = .lst (ints b) → getS sl' (.tup []) 2 = .int .i64 c → getS sl' (.tup []) 3 = .lst (tabL N M P) → getS sl' (.tup []) 49 = .int .i64 N → getS sl' (.tup []) 50 = .int .i64 i → Q (.exit 4 ⟨122, .tup [], sl', []⟩ h)) →
    Gives (loopL env (lp Tryz.f13 2) ⟨122, .tup [], sl, []⟩ h) Q := by
  intro k
  induction k with
  | zero =>
    intro j sl hj c g0 g1 g2 g3 g10 g49 g50 g57 g58 q
    refine gives_loop ?_
    simp (disch := omega) [lp, Tryz.f13, loops, g57, g58, decF]
    exact q _ (by simp [g0]) (by simp [g1]) (by simp [g2]) (by simp [g3]) (by simp [g49]) (by simp [g50])
  | succ k ih =>
    intro j sl hj c g0 g1 g2 g3 g10 g49 g50 g57 g58 q
    refine gives_loop ?_
    have hc : (j : Int) < M := by omega
    simp (disch := omega) [lp, Tryz.f13, loops, g57, g58, decT, hc]
    generalize hx : loopL env _ _ _ = L
    apply gives_cut hx
    clear hx
    refine ver_edit a b ha hb N M hN hM P hle hP h _ i j hi (by omega) 5 0 _ rfl c (by simp [g0]) (by simp [g1]) (by simp [g2]) (by simp [g3]) (by simp [g10]) (by simp) (by simp [g49]) (by simp [g50]) (by simp [g57]) (by simp [g58]) (by simp) (fun sl' k0 k1 k2 k3 k10 k49 k50 k57 k58 => ?_)
    simp (disch := omega) [k58, wrapI]
    exact ih (j + 1) _ (by omega) c (by simp [k0]) (by simp [k1]) (by simp [k2]) (by simp [k3]) (by simp [k10]) (by simp [k49]) (by simp [k50]) (by simp [k57]) (by simp) q
set_option maxHeartbeats 4000000 in
set_option maxRecDepth 100000 in
theorem ver_outer : ∀ (k i : Nat) (sl : List (Nat × AV)), i + k = N →
    ∀ c, getS sl (.tup []) 0 = .lst (ints a) → getS sl (.tup []) 1 = .lst (ints b) → getS sl (.tup []) 2 = .int .i64 c → getS sl (.tup []) 3 = .lst (tabL N M P) → getS sl (.tup []) 49 = .int .i64 N → getS sl (.tup []) 50 = .int .i64 i →
    (∀ sl', getS sl' (.tup []) 0 = .lst (ints a) → getS sl' (.tup []) 1 = .lst (ints b) → getS sl' (.tup []) 2 = .int .i64 c → getS sl' (.tup []) 3 = .lst (tabL N M P) → Q (.exit 2 ⟨122, .tup [], sl', []⟩ h)) →
    Gives (loopL env (lp Tryz.f13 1) ⟨122, .tup [], sl, []⟩ h) Q := by
  intro k
  induction k with
  | zero =>
    intro i sl hj c g0 g1 g2 g3 g49 g50 q
    refine gives_loop ?_
    simp (disch := omega) [lp, Tryz.f13, loops, g49, g50, decF]
    exact q _ (by simp [g0]) (by simp [g1]) (by simp [g2]) (by simp [g3])
  | succ k ih =>
    intro i sl hj c g0 g1 g2 g3 g49 g50 q
    refine gives_loop ?_
    have hc : (i : Int) < N := by omega
    simp (disch := omega) [lp, Tryz.f13, loops, g3, g49, g50, decT, hc, index_tab]
    generalize hx : loopL env _ _ _ = L
    apply gives_cut hx
    clear hx
    refine ver_inner a b ha hb N M hN hM P hle hP h _ i (by omega) M 0 _ (by omega) c (by simp [g0]) (by simp [g1]) (by simp [g2]) (by simp [g3]) (by simp) (by simp [g49]) (by simp [g50]) (by simp) (by simp) (fun sl' k0 k1 k2 k3 k49 k50 => ?_)
    simp (disch := omega) [k50, wrapI]
    exact ih (i + 1) _ (by omega) c (by simp [k0]) (by simp [k1]) (by simp [k2]) (by simp [k3]) (by simp [k49]) (by simp) q
 omit hle hP ha hb in
set_option maxHeartbeats 4000000 in
set_option maxRecDepth 100000 in
theorem ver_rows (ha96 : a.length ≤ 96) (hb96 : b.length ≤ 96) : ∀ (k i : Nat) (sl : List (Nat × AV)), i + k = N →
    ∀ c, getS sl (.tup []) 0 = .lst (ints a) → getS sl (.tup []) 1 = .lst (ints b) → getS sl (.tup []) 2 = .int .i64 c → getS sl (.tup []) 3 = .lst (tabL N M P) → getS sl (.tup []) 28 = .int .i64 N → getS sl (.tup []) 29 = .int .i64 i →
    (∀ sl', getS sl' (.tup []) 0 = .lst (ints a) → getS sl' (.tup []) 1 = .lst (ints b) → getS sl' (.tup []) 2 = .int .i64 c → getS sl' (.tup []) 3 = .lst (tabL N M P) → Q (.exit 0 ⟨122, .tup [], sl', []⟩ h)) →
    Gives (loopL env (lp Tryz.f13 0) ⟨122, .tup [], sl, []⟩ h) Q := by
  intro k
  induction k with
  | zero =>
    intro i sl hj c g0 g1 g2 g3 g28 g29 q
    refine gives_loop ?_
    simp (disch := omega) [lp, Tryz.f13, loops, g28, g29, decF]
    exact q _ (by simp [g0]) (by simp [g1]) (by simp [g2]) (by simp [g3])
  | succ k ih =>
    intro i sl hj c g0 g1 g2 g3 g28 g29 q
    refine gives_loop ?_
    have hc : (i : Int) < N := by omega
    have hmm : (M : Int) = b.length + 1 := by omega
    simp (disch := omega) [lp, Tryz.f13, loops, g1, g3, g28, g29, decT, hc, index_tab, wrapI, hmm]
    exact ih (i + 1) _ (by omega) c (by simp [g0]) (by simp [g1]) (by simp [g2]) (by simp [g3]) (by simp [g28]) (by simp) q
 omit hN hM in
set_option maxHeartbeats 4000000 in
set_option maxRecDepth 100000 in
theorem verify_ok (h00 : P 0 0 = 0) (least : Int) : Gives (callL env 13 [.lst (ints a), .lst (ints b), .int .i64 least, .lst (tabL (a.length + 1) (b.length + 1) P)] []) fun r => r.1 = .bool (decide (least ≤ P a.length b.length)) := by
  apply gives_call
  have e1 : decide (96 < a.length) = false := decF (by omega)
  have e2 : decide (96 < b.length) = false := decF (by omega)
  simp (disch := omega) [Tryz.f13, c21, e1, e2, wrapI]
  generalize hx : loopL env _ _ _ = L
  apply gives_cut hx
  clear hx
  refine ver_rows a b (a.length + 1) (b.length + 1) rfl rfl P _ _ ha hb (a.length + 1) 0 _ (by omega) least (by simp) (by simp) (by simp) (by simp) (by simp) (by simp) (fun sl' k0 k1 k2 k3 => ?_)
  simp (disch := omega) [k3, index_tab, index_row, h00]
  generalize hx : loopL env _ _ _ = L
  apply gives_cut hx
  clear hx
  refine ver_outer a b ha hb (a.length + 1) (b.length + 1) rfl rfl P hle hP _ _ (a.length + 1) 0 _ (by omega) least (by simp [k0]) (by simp [k1]) (by simp [k2]) (by simp [k3]) (by simp) (by simp) (fun sl' k0 k1 k2 k3 => ?_)
  simp (disch := omega) [k0, k1, k2, k3, index_tab, index_row]
end Heard
