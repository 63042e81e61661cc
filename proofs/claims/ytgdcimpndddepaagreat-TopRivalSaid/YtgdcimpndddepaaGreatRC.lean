/- TopRival: plans, relations, bases. -/
import Derived.Test.YtgdcimpndddepaaGreatRB
/- TopRival: rollin.Valid and r14.Valid are vPlan. -/
open Go Go.Proofs Go.Abs
namespace Rival
set_option maxHeartbeats 4000000 in
set_option maxRecDepth 100000 in
theorem qvalid_loop (l : List It) (w : Int) (s : Nat) (hs : s ≤ 12) (ks : List Int) (hl : l.length ≤ 96) (hk : ks.length = l.length) (tl : Heap) (Q : Out → Prop) : ∀ (n i : Nat) (sl : List (Nat × AV)), i + n = ks.length → getS sl (.tup []) 2 = .ptr 0 1 0 0 → getS sl (.tup []) 3 = .ptr 1 1 0 0 → getS sl (.tup []) 6 = .int .i64 i →
    (∀ sl', vCodes w s l ks n i = 0 → Q (.exit 0 ⟨62, .tup [], sl', []⟩ (.row false 2 [jobV l w] :: .row false 2 [planV s ks] :: tl))) → (∀ sl', getS sl' (.tup []) 4 = .int .i64 (vCodes w s l ks n i) → Q (.ret ⟨62, .tup [], sl', []⟩ (.row false 2 [jobV l w] :: .row false 2 [planV s ks] :: tl))) →
    Gives (loopL env (lp Tryz.f7 0) ⟨62, .tup [], sl, []⟩ (.row false 2 [jobV l w] :: .row false 2 [planV s ks] :: tl)) Q := by
  have p := pl7_0
  simp [dr, drs, Tryz.f7] at p
  have hpw := pow_le s hs
  have e1 := shl1 s hs
  generalize hP : (2 : Nat) ^ s = P at hpw e1
  intro n
  induction n with
  | zero =>
    intro i sl hi h2 h3 h6 q1 q2
    refine gives_loop ?_
    simp (disch := omega) [lp, Tryz.f7, loops, h2, h3, h6, decF, planV]
    exact q1 _ rfl
  | succ n ih =>
    intro i sl hi h2 h3 h6 q1 q2
    refine gives_loop ?_
    have hP' : (2 : Int) ^ s = (P : Nat) := by rw [← hP]; simp
    by_cases hz : (P : Int) ≤ nth 0 ks i
    · have hv : vCodes w s l ks (n + 1) i = 1 := by
        simp [vCodes, kOk, hP']; omega
      simp (disch := omega) [lp, Tryz.f7, loops, h2, h3, h6, decT, index_ints, index_its, regionD_plain p, jobV, planV, e1, hz, -bin_shl]
      exact q2 _ (by simp [hv])
    · cases hb : isB (nth 0 ks i) (nth default l i).r w
      · have hv : vCodes w s l ks (n + 1) i = 1 := by simp [vCodes, kOk, hb]
        simp (disch := omega) [lp, Tryz.f7, loops, h2, h3, h6, decT, index_ints, index_its, regionD_plain p, hb, jobV, planV, e1, hz, -bin_shl]
        exact q2 _ (by simp [hv])
      · have hv : vCodes w s l ks (n + 1) i = vCodes w s l ks n (i + 1) := by
          simp [vCodes, kOk, hb, hP']; omega
        simp (disch := omega) [lp, Tryz.f7, loops, h2, h3, h6, decT, index_ints, index_its, regionD_plain p, hb, jobV, planV, e1, hz, wrapI, -bin_shl]
        refine ih (i + 1) _ (by omega) ?_ ?_ ?_ (fun sl' h => q1 sl' (by rw [hv, h])) (fun sl' h => q2 sl' (by rw [hv, h]))
        · simp [h2]
        · simp [h3]
        · simp
theorem vJob_len {l : List It} {w : Int} (h : vJob l w = 0) : l.length ≤ 96 := by
  unfold vJob at h
  split at h
  · cases h
  · omega
theorem load_agg2 (a b : AV) : loadE true 2 (.agg [a, b]) 0 = some (.agg [a, b]) := rfl
theorem solid_agg2 (a b : AV) : (AV.agg [a, b]).solid = true := rfl
attribute [simp] load_agg2
theorem solid_job (l : List It) (w : Int) : (jobV l w).solid = true := rfl
theorem solid_plan (s : Int) (ks : List Int) : (planV s ks).solid = true := rfl
attribute [simp] solid_job solid_plan
set_option maxHeartbeats 4000000 in
set_option maxRecDepth 100000 in
theorem pvalid_ok (l : List It) (w s : Int) (ks : List Int) (hl : l.length < 2 ^ 62) : Gives (callL env 18 [jobV l w, planV s ks] []) fun r => r.1 = .int .i64 (vPlan l w s ks) := by
  apply gives_call
  have c := fun h => c30 l w hl h
  simp only [jobV] at c
  by_cases h0 : vJob l w = 0
  · by_cases h1 : s < 0
    · have hv : vPlan l w s ks = 1 := by simp [vPlan, h0, h1]
      simp (disch := omega) [Tryz.f18, c, h0, h1, jobV, planV, hv]
    · by_cases h2 : 12 < s
      · have hv : vPlan l w s ks = 1 := by simp [vPlan, h0, h2]
        simp (disch := omega) [Tryz.f18, c, h0, h1, h2, jobV, planV, hv]
      · by_cases h4 : ks.length = l.length
        · have hv : vPlan l w s ks = vCodes w s l ks ks.length 0 := by
            simp only [vPlan, h0, h1, h2, h4]; simp
          have hl' := vJob_len h0
          obtain ⟨s, rfl⟩ := Int.eq_ofNat_of_zero_le (Int.not_lt.1 h1)
          have h1' : decide ((s : Int) < 0) = false := decF h1
          have h2' : decide ((12 : Int) < s) = false := decF h2
          rw [hv]
          simp (disch := omega) [Tryz.f18, c, h0, h1', h2', h4, jobV, planV]
          generalize hx : loopL env _ _ _ = L
          apply gives_cut hx
          refine pvalid_loop l w s (by omega) ks hl' h4 _ _ ks.length 0 _ (by omega) (by simp) (by simp) (by simp) (by simp [h4]) (by simp) (fun sl' h' => ?_) (fun sl' h' => ?_)
          · simp [h', ← h4]
          · simp [h', ← h4]
        · have hv : vPlan l w s ks = 1 := by simp [vPlan, h0, h4]
          have h4' : decide ((ks.length : Int) = l.length) = false := decF (by omega)
          simp (disch := omega) [Tryz.f18, c, h0, h1, h2, h4', jobV, planV, hv]
  · have hv : vPlan l w s ks = vJob l w := by simp [vPlan, h0]
    simp (disch := omega) [Tryz.f18, c, h0, jobV, planV, hv]
set_option maxHeartbeats 4000000 in
set_option maxRecDepth 100000 in
theorem qvalid_ok (l : List It) (w s : Int) (ks : List Int) (hl : l.length < 2 ^ 62) : Gives (callL env 7 [jobV l w, planV s ks] []) fun r => r.1 = .int .i64 (vPlan l w s ks) := by
  apply gives_call
  have c := fun h => c20 l w hl h
  simp only [jobV] at c
  by_cases h0 : vJob l w = 0
  · by_cases h1 : s < 0
    · have hv : vPlan l w s ks = 1 := by simp [vPlan, h0, h1]
      simp (disch := omega) [Tryz.f7, c, h0, h1, jobV, planV, hv]
    · by_cases h2 : 12 < s
      · have hv : vPlan l w s ks = 1 := by simp [vPlan, h0, h2]
        simp (disch := omega) [Tryz.f7, c, h0, h1, h2, jobV, planV, hv]
      · by_cases h4 : ks.length = l.length
        · have hv : vPlan l w s ks = vCodes w s l ks ks.length 0 := by
            simp only [vPlan, h0, h1, h2, h4]; simp
          have hl' := vJob_len h0
          obtain ⟨s, rfl⟩ := Int.eq_ofNat_of_zero_le (Int.not_lt.1 h1)
          have h1' : decide ((s : Int) < 0) = false := decF h1
          have h2' : decide ((12 : Int) < s) = false := decF h2
          rw [hv]
          simp (disch := omega) [Tryz.f7, c, h0, h1', h2', h4, jobV, planV]
          generalize hx : loopL env _ _ _ = L
          apply gives_cut hx
          refine qvalid_loop l w s (by omega) ks hl' h4 _ _ ks.length 0 _ (by omega) (by simp) (by simp) (by simp) (fun sl' h' => ?_) (fun sl' h' => ?_)
          · simp [h', ← h4]
          · simp [h', ← h4]
        · have hv : vPlan l w s ks = 1 := by simp [vPlan, h0, h4]
          have h4' : decide ((ks.length : Int) = l.length) = false := decF (by omega)
          simp (disch := omega) [Tryz.f7, c, h0, h1, h2, h4', jobV, planV, hv]
  · have hv : vPlan l w s ks = vJob l w := by simp [vPlan, h0]
    simp (disch := omega) [Tryz.f7, c, h0, jobV, planV, hv]
theorem c18 (l : List It) (w s : Int) (ks : List Int) (hl : l.length < 2 ^ 62) (h : Heap) : callN env (callL env) 18 [jobV l w, planV s ks] h = some (.int .i64 (vPlan l w s ks), h) := by
  obtain ⟨r, hr, h1⟩ := gives_iff.1 (pvalid_ok l w s ks hl)
  exact callE rfl (by simp [closed?, depth, jobV, planV]) hr (by rw [h1]; rfl) h
theorem c7 (l : List It) (w s : Int) (ks : List Int) (hl : l.length < 2 ^ 62) (h : Heap) : callN env (callL env) 7 [jobV l w, planV s ks] h = some (.int .i64 (vPlan l w s ks), h) := by
  obtain ⟨r, hr, h1⟩ := gives_iff.1 (qvalid_ok l w s ks hl)
  exact callE rfl (by simp [closed?, depth, jobV, planV]) hr (by rw [h1]; rfl) h
end Rival

/- TopRival: are two lists, plans, proofs the same? -/
open Go Go.Proofs Go.Abs
namespace Rival
/-- A slice of numbers by value; the empty one may be nil. -/
inductive SlV : AV → List Int → Prop
  | lst (l : List Int) : SlV (.lst (ints l)) l
  | nil : SlV .nil []
theorem pl27_0 : plainD env (dr Tryz.f27 0) = true := by kernel_rfl
def eqFrom (a b : List Int) : Nat → Nat → Bool
  | 0, _ => true
  | n + 1, i => decide (nth 0 a i = nth 0 b i) && eqFrom a b n (i + 1)
set_option maxRecDepth 100000 in
theorem ints_loop (a b : List Int) (hl : b.length = a.length) (ha : a.length < 2 ^ 62) (h : Heap) (Q : Out → Prop) : ∀ (n i : Nat) (sl : List (Nat × AV)), i + n = a.length → getS sl (.tup []) 0 = .lst (ints a) → getS sl (.tup []) 1 = .lst (ints b) → getS sl (.tup []) 5 = .int .i64 i →
    (∀ sl', eqFrom a b n i = true → Q (.exit 0 ⟨26, .tup [], sl', []⟩ h)) → (∀ sl', getS sl' (.tup []) 4 = .bool false → eqFrom a b n i = false → Q (.ret ⟨26, .tup [], sl', []⟩ h)) →
    Gives (loopL env (lp Tryz.f27 0) ⟨26, .tup [], sl, []⟩ h) Q := by
  have p := pl27_0
  simp [dr, drs, Tryz.f27] at p
  intro n
  induction n with
  | zero =>
    intro i sl hi h0 h1 h5 q1 q2
    refine gives_loop ?_
    simp (disch := omega) [lp, Tryz.f27, loops, h0, h1, h5, decF]
    exact q1 _ rfl
  | succ n ih =>
    intro i sl hi h0 h1 h5 q1 q2
    refine gives_loop ?_
    by_cases c : nth 0 a i = nth 0 b i
    · have hv : eqFrom a b (n + 1) i = eqFrom a b n (i + 1) := by simp [eqFrom, c]
      simp (disch := omega) [lp, Tryz.f27, loops, h0, h1, h5, decT, index_ints, regionD_plain p, c, wrapI]
      refine ih (i + 1) _ (by omega) ?_ ?_ ?_ (fun sl' h => q1 sl' (by rw [hv, h])) (fun sl' h g => q2 sl' h (by rw [hv, g]))
      · simp [h0]
      · simp [h1]
      · simp
    · have hv : eqFrom a b (n + 1) i = false := by simp [eqFrom, c]
      simp (disch := omega) [lp, Tryz.f27, loops, h0, h1, h5, decT, index_ints, regionD_plain p, c]
      exact q2 _ (by simp) hv
theorem eqFrom_iff (a b : List Int) : ∀ (n i : Nat), i + n = a.length → (eqFrom a b n i = true ↔ ∀ k, i ≤ k → k < a.length → nth 0 a k = nth 0 b k)
  | 0, i, hi => ⟨fun _ k h1 h2 => by omega, fun _ => rfl⟩
  | n + 1, i, hi => by
    simp only [eqFrom, Bool.and_eq_true, decide_eq_true_eq, eqFrom_iff a b n (i + 1) (by omega)]
    constructor
    · rintro ⟨h1, h2⟩ k hk1 hk2
      by_cases h : k = i
      · subst h; exact h1
      · exact h2 k (by omega) hk2
    · intro h
      exact ⟨h i (Nat.le_refl _) (by omega), fun k h1 h2 => h k (by omega) h2⟩
theorem ext_nth {α : Type} (d : α) {a b : List α} (hl : b.length = a.length) (h : ∀ k, k < a.length → nth d a k = nth d b k) : a = b := by
  apply List.ext_getElem hl.symm
  intro i h1 h2
  have := h i h1
  simp only [nth_getD, List.getD_eq_getElem?_getD, List.getElem?_eq_getElem h1, List.getElem?_eq_getElem h2, Option.getD_some] at this
  exact this
theorem eqFrom_eq (a b : List Int) (hl : b.length = a.length) : eqFrom a b a.length 0 = decide (a = b) := by
  rw [Bool.eq_iff_iff, eqFrom_iff a b a.length 0 (by omega), decide_eq_true_eq]
  exact ⟨fun h => ext_nth 0 hl fun k hk => h k (Nat.zero_le _) hk, fun h k _ _ => by rw [h]⟩
set_option maxRecDepth 100000 in
theorem ints_ok {va vb : AV} {a b : List Int} (sa : SlV va a) (sb : SlV vb b) (ha : a.length < 2 ^ 62) (hb : b.length < 2 ^ 62) : Gives (callL env 27 [va, vb] []) fun r => r.1 = .bool (decide (a = b)) := by
  apply gives_call
  cases sa with
  | nil =>
    cases sb with
    | nil =>
      simp [Tryz.f27]
      generalize hx : loopL env _ _ _ = L
      apply gives_cut hx
      clear hx
      refine gives_loop ?_
      simp (disch := omega) [lp, Tryz.f27, loops]
    | lst =>
      by_cases hn : b = []
      · subst hn
        simp [Tryz.f27, ints_nil]
        generalize hx : loopL env _ _ _ = L
        apply gives_cut hx
        clear hx
        refine gives_loop ?_
        simp (disch := omega) [lp, Tryz.f27, loops]
      · have h1 : decide ((0 : Int) = b.length) = false := decF (by cases b <;> simp_all; omega)
        have h2 : ¬ [] = b := fun h => hn h.symm
        simp [Tryz.f27, h1, h2]
  | lst =>
    cases sb with
    | nil =>
      by_cases hn : a = []
      · subst hn
        simp [Tryz.f27, ints_nil]
        generalize hx : loopL env _ _ _ = L
        apply gives_cut hx
        clear hx
        refine gives_loop ?_
        simp (disch := omega) [lp, Tryz.f27, loops]
      · have h1 : decide ((a.length : Int) = 0) = false := decF (by cases a <;> simp_all; omega)
        simp [Tryz.f27, h1, hn]
    | lst =>
      by_cases hl : b.length = a.length
      · simp [Tryz.f27, hl]
        generalize hx : loopL env _ _ _ = L
        apply gives_cut hx
        refine ints_loop a b hl ha [] _ a.length 0 _ (by omega) (by simp) (by simp) (by simp) (fun sl' h' => ?_) (fun sl' h' g' => ?_)
        · rw [eqFrom_eq a b hl] at h'
          simp [h']
        · rw [eqFrom_eq a b hl] at g'
          simp [h', g']
      · have h1 : decide ((a.length : Int) = b.length) = false := decF (by omega)
        have h2 : ¬ a = b := fun h => hl (by rw [h])
        simp [Tryz.f27, h1, h2]
theorem SlV.closed {v : AV} {l : List Int} (h : SlV v l) : closed? depth v = true := by cases h <;> simp [closed?, depth]
theorem c27 {va vb : AV} {a b : List Int} (sa : SlV va a) (sb : SlV vb b) (ha : a.length < 2 ^ 62) (hb : b.length < 2 ^ 62) (h : Heap) : callN env (callL env) 27 [va, vb] h = some (.bool (decide (a = b)), h) := by
  obtain ⟨r, hr, h1⟩ := gives_iff.1 (ints_ok sa sb ha hb)
  exact callE rfl (by simp [sa.closed, sb.closed]) hr (by rw [h1]; rfl) h
set_option maxRecDepth 100000 in
theorem plans_ok {s t : Int} {va vb : AV} {a b : List Int} (sa : SlV va a) (sb : SlV vb b) (ha : a.length < 2 ^ 62) (hb : b.length < 2 ^ 62) : Gives (callL env 26 [.agg [.int .i64 s, va], .agg [.int .i64 t, vb]] []) fun r => r.1 = .bool (decide (s = t ∧ a = b)) := by
  apply gives_call
  have c := c27 sa sb ha hb
  by_cases h : s = t <;> simp [Tryz.f26, c, h]
theorem c26 {s t : Int} {va vb : AV} {a b : List Int} (sa : SlV va a) (sb : SlV vb b) (ha : a.length < 2 ^ 62) (hb : b.length < 2 ^ 62) (h : Heap) : callN env (callL env) 26 [.agg [.int .i64 s, va], .agg [.int .i64 t, vb]] h = some (.bool (decide (s = t ∧ a = b)), h) := by
  obtain ⟨r, hr, h1⟩ := gives_iff.1 (plans_ok sa sb ha hb)
  exact callE rfl (by cases sa <;> cases sb <;> simp [closed?, depth]) hr (by rw [h1]; rfl) h
theorem load_agg32 (a b c : AV) : loadE true 2 (.agg [a, b, c]) 0 = some (.agg [a, b]) := rfl
theorem load_agg3 (a b c : AV) : loadE true 3 (.agg [a, b, c]) 0 = some (.agg [a, b, c]) := rfl
attribute [simp] load_agg32 load_agg3
set_option maxRecDepth 100000 in
theorem proofs_ok {s t : Int} {va vb vc vd : AV} {a b c d : List Int} (sa : SlV va a) (sb : SlV vb b) (sc : SlV vc c) (sd : SlV vd d) (ha : a.length < 2 ^ 62) (hb : b.length < 2 ^ 62) (hc : c.length < 2 ^ 62) (hd : d.length < 2 ^ 62) :
    Gives (callL env 12 [.agg [.int .i64 s, va, vc], .agg [.int .i64 t, vb, vd]] []) fun r => r.1 = .bool (decide (s = t ∧ a = b ∧ c = d)) := by
  apply gives_call
  have c1 := fun (s t : Int) => c26 (s := s) (t := t) sa sb ha hb
  have c2 := c27 sc sd hc hd
  by_cases h : s = t <;> by_cases h' : a = b <;> simp [Tryz.f12, c1, c2, h, h']
theorem c12 {s t : Int} {va vb vc vd : AV} {a b c d : List Int} (sa : SlV va a) (sb : SlV vb b) (sc : SlV vc c) (sd : SlV vd d) (ha : a.length < 2 ^ 62) (hb : b.length < 2 ^ 62) (hc : c.length < 2 ^ 62) (hd : d.length < 2 ^ 62) (h : Heap) :
    callN env (callL env) 12 [.agg [.int .i64 s, va, vc], .agg [.int .i64 t, vb, vd]] h = some (.bool (decide (s = t ∧ a = b ∧ c = d)), h) := by
  obtain ⟨r, hr, h1⟩ := gives_iff.1 (proofs_ok (s := s) (t := t) sa sb sc sd ha hb hc hd)
  exact callE rfl (by cases sa <;> cases sb <;> cases sc <;> cases sd <;> simp [closed?, depth]) hr (by rw [h1]; rfl) h
end Rival

/- TopRival: which item comes before which. -/
open Go Go.Proofs Go.Abs
namespace Rival
/-- 2: x comes strictly before y; 1: before y; 0: it need not. -/
def kindV (l : List It) (x y : Nat) : Int := if (nth default l x).t ≠ (nth default l y).t ∨ (nth default l y).b ≤ (nth default l x).b then 0 else if y < x then 2 else 1
def od14 : List DOp := [⟨0, 0, 0⟩, ⟨1, 0, 1⟩, ⟨2, 0, 0⟩, ⟨3, 0, 7⟩, ⟨4, 0, 15⟩, ⟨5, 0, 0⟩, ⟨6, 0, 32⟩, ⟨7, 0, 0⟩, ⟨8, 0, 224⟩, ⟨9, 0, 480⟩, ⟨10, 0, 0⟩, ⟨11, 1, 0⟩, ⟨12, 2, 3103⟩, ⟨13, 2, 8191⟩]
theorem od52_0 : orderOf (dr Tryz.f52 0) = od14 := by kernel_rfl
theorem ok52_0 : okD (dr Tryz.f52 0) od14 = true := by kernel_rfl
theorem od45_0 : orderOf (dr Tryz.f45 0) = od14 := by kernel_rfl
theorem ok45_0 : okD (dr Tryz.f45 0) od14 = true := by kernel_rfl
theorem eqv_its (d : Nat) (l : List It) : eqvL (eqv (d + 2)) (its l) (its l) = true := by
  induction l with
  | nil => rfl
  | cons a l ih =>
    have : its (a :: l) = a.av :: its l := rfl
    rw [this]
    simp only [eqvL, ih, cond_true]
    simp [It.av, eqv, eqvL]
theorem gone_none : isGone none = false := rfl
theorem gone_gone : isGone (some .gone) = true := rfl
theorem eqv_it (p : It) : eqv depth p.av p.av = true := by simp [It.av, depth, eqv, eqvL]
theorem eqv_itp (p : It) (o : Nat) : eqv depth (.iptr p.av o) (.iptr p.av o) = true := by simp [It.av, depth, eqv, eqvL]
theorem eqv_lits (l : List It) : eqv depth (.lst (its l)) (.lst (its l)) = true := eqv_its _ l
theorem eqv_ptr (b g i o : Nat) : eqv depth (.ptr b g i o) (.ptr b g i o) = true := by simp [depth, eqv]
theorem int_le (a b : Int) : a.le b = (a ≤ b) := rfl
attribute [simp] eqv_it eqv_itp eqv_lits eqv_ptr
set_option maxRecDepth 100000 in
set_option maxHeartbeats 4000000 in
theorem kind_ok (l : List It) (w : Int) (x y : Nat) (hx : x < l.length) (hy : y < l.length) : Gives (callL env 52 [jobV l w, .int .i64 x, .int .i64 y] []) fun r => r.1 = .int .i64 (kindV l x y) := by
  have o := od52_0
  have k := ok52_0
  simp [dr, drs, Tryz.f52] at o k
  apply gives_call
  by_cases h1 : (nth default l x).t = (nth default l y).t
  · by_cases h2 : (nth default l y).b ≤ (nth default l x).b
    · simp (disch := omega) [Tryz.f52, jobV, regionD_ok o k, od14, runD, index_its, clsOf, extP, wantedA, act, gone_none, gone_gone, isGone, pads, held, quiet, Pend.holds, still, opA, h1, h2, kindV]
    · by_cases h3 : y < x
      · simp (disch := omega) [Tryz.f52, jobV, regionD_ok o k, od14, runD, index_its, clsOf, extP, wantedA, act, gone_none, gone_gone, isGone, pads, held, quiet, Pend.holds, still, opA, h1, h2, h3, kindV]
      · simp (disch := omega) [Tryz.f52, jobV, regionD_ok o k, od14, runD, index_its, clsOf, extP, wantedA, act, gone_none, gone_gone, isGone, pads, held, quiet, Pend.holds, still, opA, h1, h2, h3, kindV]
  · simp (disch := omega) [Tryz.f52, jobV, regionD_ok o k, od14, runD, index_its, clsOf, extP, wantedA, act, gone_none, gone_gone, isGone, pads, held, quiet, Pend.holds, still, opA, h1, kindV]
set_option maxRecDepth 100000 in
set_option maxHeartbeats 4000000 in
theorem relation_ok (l : List It) (w : Int) (x y : Nat) (hx : x < l.length) (hy : y < l.length) : Gives (callL env 45 [jobV l w, .int .i64 x, .int .i64 y] []) fun r => r.1 = .int .i64 (kindV l x y) := by
  have o := od45_0
  have k := ok45_0
  simp [dr, drs, Tryz.f45] at o k
  apply gives_call
  by_cases h1 : (nth default l x).t = (nth default l y).t
  · by_cases h2 : (nth default l y).b ≤ (nth default l x).b
    · simp (disch := omega) [Tryz.f45, jobV, regionD_ok o k, od14, runD, index_its, clsOf, extP, wantedA, act, gone_none, gone_gone, isGone, pads, held, quiet, Pend.holds, still, opA, h1, h2, kindV]
    · by_cases h3 : y < x
      · simp (disch := omega) [Tryz.f45, jobV, regionD_ok o k, od14, runD, index_its, clsOf, extP, wantedA, act, gone_none, gone_gone, isGone, pads, held, quiet, Pend.holds, still, opA, h1, h2, h3, kindV]
      · simp (disch := omega) [Tryz.f45, jobV, regionD_ok o k, od14, runD, index_its, clsOf, extP, wantedA, act, gone_none, gone_gone, isGone, pads, held, quiet, Pend.holds, still, opA, h1, h2, h3, kindV]
  · simp (disch := omega) [Tryz.f45, jobV, regionD_ok o k, od14, runD, index_its, clsOf, extP, wantedA, act, gone_none, gone_gone, isGone, pads, held, quiet, Pend.holds, still, opA, h1, kindV]
theorem c52 (l : List It) (w : Int) (x y : Nat) (hx : x < l.length) (hy : y < l.length) (h : Heap) : callN env (callL env) 52 [jobV l w, .int .i64 x, .int .i64 y] h = some (.int .i64 (kindV l x y), h) := by
  obtain ⟨r, hr, h1⟩ := gives_iff.1 (kind_ok l w x y hx hy)
  exact callE rfl (by simp [closed?, depth, jobV]) hr (by rw [h1]; rfl) h
theorem c45 (l : List It) (w : Int) (x y : Nat) (hx : x < l.length) (hy : y < l.length) (h : Heap) : callN env (callL env) 45 [jobV l w, .int .i64 x, .int .i64 y] h = some (.int .i64 (kindV l x y), h) := by
  obtain ⟨r, hr, h1⟩ := gives_iff.1 (relation_ok l w x y hx hy)
  exact callE rfl (by simp [closed?, depth, jobV]) hr (by rw [h1]; rfl) h
theorem kind_cases (l : List It) (x y : Nat) : kindV l x y = 0 ∨ kindV l x y = 1 ∨ kindV l x y = 2 := by
  unfold kindV
  split
  · simp
  · split <;> simp
set_option maxRecDepth 100000 in
theorem strict_ok (l : List It) (w : Int) (x y : Nat) (hx : x < l.length) (hy : y < l.length) : Gives (callL env 53 [jobV l w, .int .i64 x, .int .i64 y] []) fun r => r.1 = .int .i64 (kindV l x y / 2) := by
  apply gives_call
  have c := fun h => c52 l w x y hx hy h
  simp only [jobV] at c
  rcases kind_cases l x y with h | h | h <;> rw [h] at c ⊢ <;> simp (disch := omega) [Tryz.f53, jobV, c, wrapI]
theorem c53 (l : List It) (w : Int) (x y : Nat) (hx : x < l.length) (hy : y < l.length) (h : Heap) : callN env (callL env) 53 [jobV l w, .int .i64 x, .int .i64 y] h = some (.int .i64 (kindV l x y / 2), h) := by
  obtain ⟨r, hr, h1⟩ := gives_iff.1 (strict_ok l w x y hx hy)
  exact callE rfl (by simp [closed?, depth, jobV]) hr (by rw [h1]; rfl) h
set_option maxRecDepth 100000 in
set_option maxHeartbeats 4000000 in
/-- job.Relation at two items of a valid job. -/
theorem rel_ok (l : List It) (w : Int) (x y : Nat) (hv : vJob l w = 0) (hx : x < l.length) (hy : y < l.length) : Gives (callL env 23 [jobV l w, .int .i64 x, .int .i64 y] []) fun r => r.1 = .tup [.int .i64 (kindV l x y), .int .i64 0] := by
  apply gives_call
  have hl := vJob_len hv
  have c := fun h => c30 l w (by omega) h
  have d := fun h => c45 l w x y hx hy h
  simp only [jobV] at c d
  have b1 : inB x 0 (l.length - 1) = true := by simp [inB]; omega
  have b2 : inB y 0 (l.length - 1) = true := by simp [inB]; omega
  simp (disch := omega) [Tryz.f23, jobV, c, d, hv, wrapI, b1, b2]
theorem c23 (l : List It) (w : Int) (x y : Nat) (hv : vJob l w = 0) (hx : x < l.length) (hy : y < l.length) (h : Heap) : callN env (callL env) 23 [jobV l w, .int .i64 x, .int .i64 y] h = some (.tup [.int .i64 (kindV l x y), .int .i64 0], h) := by
  obtain ⟨r, hr, h1⟩ := gives_iff.1 (rel_ok l w x y hv hx hy)
  exact callE rfl (by simp [closed?, depth, jobV]) hr (by rw [h1]; rfl) h
end Rival

/- TopRival: the base of an item. -/
open Go Go.Proofs Go.Abs
namespace Rival
/-- The greatest of the values that the items before y ask for, from i on. -/
def baseF (l : List It) (v : List Int) (y : Nat) : Nat → Nat → Int → Int
  | 0, _, a => a
  | n + 1, i, a => baseF l v y n (i + 1) (if 0 < kindV l i y then max a (nth 0 v i + kindV l i y / 2) else a)
def baseV (l : List It) (v : List Int) (y : Nat) : Int := baseF l v y l.length 0 0
def small (v : List Int) : Prop := ∀ k, -1 ≤ nth 0 v k ∧ nth 0 v k ≤ 1000000
theorem max_ints (a b : Int) : minA (fun y x => decide (x < y)) [.int .i64 a, .int .i64 b] = some (.int .i64 (max a b)) := by
  show some (AV.int .i64 (bif decide (a < b) then b else a)) = _
  by_cases h : a < b
  · simp [h]; omega
  · simp [h]; omega
attribute [simp] max_ints
theorem pl37_0 : plainD env (dr Tryz.f37 0) = true := by kernel_rfl
set_option maxRecDepth 100000 in
set_option maxHeartbeats 4000000 in
theorem base_loop (l : List It) (w : Int) (v : List Int) (y : Nat) (hl : l.length < 2 ^ 62) (hv : v.length = l.length) (hy : y < l.length) (hs : small v) (tl : Heap) (Q : Out → Prop) : ∀ (n i : Nat) (a : Int) (sl : List (Nat × AV)), i + n = l.length → getS sl (.tup []) 1 = .lst (ints v) → getS sl (.tup []) 2 = .int .i64 y → getS sl (.tup []) 3 = .ptr 0 1 0 0 → getS sl (.tup []) 7 = .int .i64 a → getS sl (.tup []) 8 = .int .i64 i →
    (∀ sl', getS sl' (.tup []) 7 = .int .i64 (baseF l v y n i a) → Q (.exit 0 ⟨33, .tup [], sl', []⟩ (.row false 2 [jobV l w] :: tl))) →
    Gives (loopL env (lp Tryz.f37 0) ⟨33, .tup [], sl, []⟩ (.row false 2 [jobV l w] :: tl)) Q := by
  have p := pl37_0
  simp [dr, drs, Tryz.f37] at p
  intro n
  induction n with
  | zero =>
    intro i a sl hi h1 h2 h3 h7 h8 q
    refine gives_loop ?_
    simp (disch := omega) [lp, Tryz.f37, loops, h3, h8, decF, jobV]
    exact q _ (by simp [h7, baseF])
  | succ n ih =>
    intro i a sl hi h1 h2 h3 h7 h8 q
    refine gives_loop ?_
    have c := fun h => c52 l w i y (by omega) hy h
    have d := fun h => c53 l w i y (by omega) hy h
    simp only [jobV] at c d
    have hb := hs i
    have hc := kind_cases l i y
    have e := baseF.eq_2 l v y i a n
    generalize kindV l i y = k at c d hc e
    by_cases hk : 0 < k
    · rw [if_pos hk] at e
      simp (disch := omega) [lp, Tryz.f37, loops, h1, h2, h3, h7, h8, decT, index_ints, regionD_plain p, c, d, wrapI, hk, jobV]
      refine ih (i + 1) _ _ (by omega) ?_ ?_ ?_ ?_ ?_ (fun sl' h => q sl' (by rw [e, h]))
      · simp [h1]
      · simp [h2]
      · simp [h3]
      · simp
      · simp
    · rw [if_neg hk] at e
      simp (disch := omega) [lp, Tryz.f37, loops, h1, h2, h3, h7, h8, decT, regionD_plain p, c, wrapI, hk, jobV]
      refine ih (i + 1) _ _ (by omega) ?_ ?_ ?_ ?_ ?_ (fun sl' h => q sl' (by rw [e, h]))
      · simp [h1]
      · simp [h2]
      · simp [h3]
      · simp [h7]
      · simp
set_option maxRecDepth 100000 in
theorem base_ok (l : List It) (w : Int) (v : List Int) (y : Nat) (hl : l.length < 2 ^ 62) (hv : v.length = l.length) (hy : y < l.length) (hs : small v) : Gives (callL env 37 [jobV l w, .lst (ints v), .int .i64 y] []) fun r => r.1 = .int .i64 (baseV l v y) := by
  apply gives_call
  simp (disch := omega) [Tryz.f37, jobV]
  generalize hx : loopL env _ _ _ = L
  apply gives_cut hx
  refine base_loop l w v y hl hv hy hs [] _ l.length 0 0 _ (by omega) (by simp) (by simp) (by simp) (by simp) (by simp) (fun sl' h' => ?_)
  simp [h', baseV]
theorem callS {f : FuncId} (hm : cmR f = .pure) {args as0 : List AV} {h : Heap} {r : AV × Heap} {v : AV} (hcl : args.all (closed? depth) = false) (ha : args.mapM (snap .any depth h) = some as0) (hc : callL env f as0 [] = some r) (hs : snap .own depth r.2 r.1 = some v) : callN env (callL env) f args h = some (v, h) := by
  have h1 : env.nat f = none := nat_pure hm
  have h2 : env.cm f = .pure := hm
  unfold callN
  simp only [h1, h2, hcl, cond_false, ha, hc, Option.bind_some, hs, Option.map_some]
theorem snap_ints {fr : SM} {d : Nat} {h : Heap} : ∀ {es : List AV}, (∀ e ∈ es, ∃ k n, e = .int k n) → es.mapM (snap fr (d + 1) h) = some es
  | [], _ => rfl
  | e :: es, he => by
    obtain ⟨k, n, rfl⟩ := he e List.mem_cons_self
    simp only [List.mapM_cons, snap_ints fun e h => he e (List.mem_cons_of_mem _ h)]
    rfl
theorem snap_rowM {m : SM} (hm : m ≠ .frz) {d : Nat} {h : Heap} {b sz n : Nat} {ro : Bool} {es es' : List AV} (hb : h[b]? = some (.row ro sz es)) (hn : es.length = n) (he : es.mapM (snap m d h) = some es') : snap m (d + 1) h (.ref b n 0 n) = some (.lst es') := by
  subst hn
  cases es with
  | nil => simp at he; subst he; rfl
  | cons e es =>
    have h1 : m.row ro = true := by cases m <;> first | rfl | exact absurd rfl hm
    simp only [List.length_cons, snap]
    simp only [hb, List.length_cons, h1, and_self, if_true, List.drop_zero]
    rw [List.take_of_length_le (by simp), he]
    rfl
theorem snap_intsL {m : SM} {d : Nat} {h : Heap} (l : List Int) : (ints l).mapM (snap m (d + 1) h) = some (ints l) := snap_ints (es := ints l) fun e he => by
  obtain ⟨x, _, rfl⟩ := List.mem_map.1 he
  exact ⟨_, _, rfl⟩
theorem snap_rints {m : SM} (hm : m ≠ .frz) {d : Nat} {h : Heap} {b n : Nat} {ro : Bool} {l : List Int} (hb : h[b]? = some (.row ro 1 (ints l))) (hn : l.length = n) : snap m (d + 2) h (.ref b n 0 n) = some (.lst (ints l)) := snap_rowM hm hb (by simpa using hn) (snap_intsL l)
end Rival
