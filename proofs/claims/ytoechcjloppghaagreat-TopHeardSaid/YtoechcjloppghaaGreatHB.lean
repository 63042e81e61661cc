/- TopHeard: valid lists, steps. -/
import Derived.Test.YtoechcjloppghaaGreatHA
open Go Go.Proofs Go.Abs
namespace Heard
/-- The first error of a list of pulses from a place on. -/
def vld (l : List Pu) : Nat → Nat → Int
  | 0, _ => 0
  | k + 1, i => if (nth default l i).ok = false then 1 else if 0 < i ∧ (nth default l i).t < (nth default l (i - 1)).t then 12 else vld l k (i + 1)
def validP (l : List Pu) : Int := if 4096 < l.length then 3 else vld l l.length 0
theorem pl5_0 : plainD env (dr Tryz.f5 0) = true := by kernel_rfl
theorem pl14_0 : plainD env (dr Tryz.f14 0) = true := by kernel_rfl
set_option maxHeartbeats 2000000 in
set_option maxRecDepth 100000 in
theorem r4valid_loop (h : Heap) (l : List Pu) (hl : l.length ≤ 4096) (Q : Out → Prop) : ∀ (k i : Nat) (sl : List (Nat × AV)), i + k = l.length → getS sl (.tup []) 0 = .lst (puls l) → getS sl (.tup []) 3 = .int .i64 i →
    (∀ sl', vld l k i = 0 → Q (.exit 0 ⟨35, .tup [], sl', []⟩ h)) → (∀ sl', getS sl' (.tup []) 2 = .int .i64 (vld l k i) → Q (.ret ⟨35, .tup [], sl', []⟩ h)) →
    Gives (loopL env (lp Tryz.f5 0) ⟨35, .tup [], sl, []⟩ h) Q := by
  have p := pl5_0
  simp [dr, drs, Tryz.f5] at p
  intro k
  induction k with
  | zero =>
    intro i sl hi h0 h3 q1 q2
    refine gives_loop ?_
    simp (disch := omega) [lp, Tryz.f5, loops, h0, h3, decF]
    exact q1 _ rfl
  | succ k ih =>
    intro i sl hi h0 h3 q1 q2
    refine gives_loop ?_
    cases hok : (nth default l i).ok
    · simp (disch := omega) [lp, Tryz.f5, loops, h0, h3, decT, index_puls, regionD_plain p, hok]
      exact q2 _ (by simp [vld, hok])
    · by_cases h1 : 0 < i
      · have e1 : ((i : Int) - 1).toNat = i - 1 := by omega
        by_cases h2 : (nth default l i).t < (nth default l (i - 1)).t
        · simp (disch := omega) [lp, Tryz.f5, loops, h0, h3, decT, index_puls, regionD_plain p, hok, wrapI, h1, h2, e1]
          exact q2 _ (by simp [vld, hok, h1, h2])
        · simp (disch := omega) [lp, Tryz.f5, loops, h0, h3, decT, decF, index_puls, regionD_plain p, hok, wrapI, h1, h2, e1]
          exact ih (i + 1) _ (by omega) (by simp [h0]) (by simp) (fun sl' h => q1 sl' (by simp [vld, hok, h2, h])) (fun sl' h => q2 sl' (by simp [vld, hok, h2, h]))
      · simp (disch := omega) [lp, Tryz.f5, loops, h0, h3, decT, index_puls, regionD_plain p, hok, wrapI, h1]
        exact ih (i + 1) _ (by omega) (by simp [h0]) (by simp) (fun sl' h => q1 sl' (by simp [vld, hok, h1, h])) (fun sl' h => q2 sl' (by simp [vld, hok, h1, h]))
set_option maxHeartbeats 2000000 in
set_option maxRecDepth 100000 in
theorem r4valid_ok (l : List Pu) (hl : l.length < 2 ^ 62) : Gives (callL env 5 [.lst (puls l)] []) fun r => r.1 = .int .i64 (validP l) := by
  apply gives_call
  by_cases h1 : 4096 < l.length
  · simp (disch := omega) [Tryz.f5, decT, validP, h1]
  · simp (disch := omega) [Tryz.f5, decF]
    generalize hx : loopL env _ _ _ = L
    apply gives_cut hx
    refine (r4valid_loop [] l (by omega) _ l.length 0 _ (by omega) (by simp) (by simp) (fun sl' h => ?_) (fun sl' h => ?_))
    · simp [validP, h, h1]
    · simp [validP, h, h1]
set_option maxHeartbeats 2000000 in
set_option maxRecDepth 100000 in
theorem valid_loop (l : List Pu) (hl : l.length ≤ 4096) (Q : Out → Prop) : ∀ (k i : Nat) (sl : List (Nat × AV)) (h : Heap), i + k = l.length → getS sl (.tup []) 0 = .lst (puls l) → getS sl (.tup []) 8 = .lst (puls l) → getS sl (.tup []) 9 = .int .i64 l.length → getS sl (.tup []) 10 = .int .i64 i →
    (∀ sl' h', vld l k i = 0 → Q (.exit 0 ⟨57, .tup [], sl', []⟩ h')) → (∀ sl' h', getS sl' (.tup []) 2 = .int .i64 (vld l k i) → Q (.ret ⟨57, .tup [], sl', []⟩ h')) →
    Gives (loopL env (lp Tryz.f14 0) ⟨57, .tup [], sl, []⟩ h) Q := by
  have p := pl14_0
  simp [dr, drs, Tryz.f14] at p
  intro k
  induction k with
  | zero =>
    intro i sl h hi h0 h8 h9 h10 q1 q2
    refine gives_loop ?_
    simp (disch := omega) [lp, Tryz.f14, loops, h10, h9, decF]
    exact q1 _ _ rfl
  | succ k ih =>
    intro i sl h hi h0 h8 h9 h10 q1 q2
    refine gives_loop ?_
    by_cases c1 : (nth default l i).d < 0
    · have hok : (nth default l i).ok = false := by simp [Pu.ok]; omega
      simp (disch := omega) [lp, Tryz.f14, loops, h0, h8, h9, h10, decT, index_puls, regionD_plain p, c1]
      exact q2 _ _ (by simp [vld, hok])
    by_cases c2 : 32 ≤ (nth default l i).d
    · have hok : (nth default l i).ok = false := by simp [Pu.ok]; omega
      simp (disch := omega) [lp, Tryz.f14, loops, h0, h8, h9, h10, decT, index_puls, regionD_plain p, c1, c2]
      exact q2 _ _ (by simp [vld, hok])
    by_cases c3 : (nth default l i).t < 0
    · have hok : (nth default l i).ok = false := by simp [Pu.ok]; omega
      simp (disch := omega) [lp, Tryz.f14, loops, h0, h8, h9, h10, decT, index_puls, regionD_plain p, c1, c2, c3]
      exact q2 _ _ (by simp [vld, hok])
    by_cases c4 : 1000000000 < (nth default l i).t
    · have hok : (nth default l i).ok = false := by simp [Pu.ok]; omega
      simp (disch := omega) [lp, Tryz.f14, loops, h0, h8, h9, h10, decT, index_puls, regionD_plain p, c1, c2, c3, c4]
      exact q2 _ _ (by simp [vld, hok])
    by_cases c5 : (nth default l i).r = 1 ∨ (nth default l i).r = -1
    case neg =>
      have hok : (nth default l i).ok = false := by simp [Pu.ok]; omega
      have c6 : ¬ (nth default l i).r = 1 := by omega
      have c7 : ¬ (nth default l i).r = -1 := by omega
      simp (disch := omega) [lp, Tryz.f14, loops, h0, h8, h9, h10, decT, index_puls, regionD_plain p, c1, c2, c3, c4, c6, c7]
      exact q2 _ _ (by simp [vld, hok])
    have hok : (nth default l i).ok = true := by simp [Pu.ok]; omega
    have key : ∀ (Q : Out → Prop), (0 < i → (nth default l i).t < (nth default l (i - 1)).t → ∀ sl' h', getS sl' (.tup []) 2 = .int .i64 12 → Q (.ret ⟨57, .tup [], sl', []⟩ h')) →
        (¬ (0 < i ∧ (nth default l i).t < (nth default l (i - 1)).t) → ∀ sl' h', getS sl' (.tup []) 0 = .lst (puls l) → getS sl' (.tup []) 8 = .lst (puls l) → getS sl' (.tup []) 9 = .int .i64 l.length → getS sl' (.tup []) 10 = .int .i64 ((i + 1 : Nat) : Int) → Gives (loopL env (lp Tryz.f14 0) ⟨57, .tup [], sl', []⟩ h') Q) →
        Gives (round env (callL env) (loopL env) (lp Tryz.f14 0) ⟨57, .tup [], sl, []⟩ h) Q := by
      intro Q k1 k2
      by_cases c8 : 0 < i
      · have e1 : ((i : Int) - 1).toNat = i - 1 := by omega
        by_cases c9 : (nth default l i).t < (nth default l (i - 1)).t
        · rcases c5 with c5 | c5 <;> simp (disch := omega) [lp, Tryz.f14, loops, h0, h8, h9, h10, decT, index_puls, regionD_plain p, c1, c2, c3, c4, c5, c8, c9, wrapI, e1] <;> exact k1 c8 c9 _ _ (by simp)
        · rcases c5 with c5 | c5 <;> simp (disch := omega) [lp, Tryz.f14, loops, h0, h8, h9, h10, decT, index_puls, regionD_plain p, c1, c2, c3, c4, c5, c8, c9, wrapI, e1] <;> exact k2 (by simp [c9]) _ _ (by simp [h0]) (by simp [h8]) (by simp [h9]) (by simp)
      · rcases c5 with c5 | c5 <;> simp (disch := omega) [lp, Tryz.f14, loops, h0, h8, h9, h10, decT, index_puls, regionD_plain p, c1, c2, c3, c4, c5, c8, wrapI] <;> exact k2 (by simp [c8]) _ _ (by simp [h0]) (by simp [h8]) (by simp [h9]) (by simp)
    refine key Q (fun c8 c9 sl' h' h2 => q2 _ _ (by simp [vld, hok, c8, c9, h2])) (fun c8 sl' h' g0 g8 g9 g10 => ?_)
    have hv : vld l (k + 1) i = vld l k (i + 1) := by simp only [vld, hok, Bool.true_eq_false, if_false, if_neg c8]
    exact ih (i + 1) sl' h' (by omega) g0 g8 g9 g10 (fun sl' h' h => q1 sl' h' (by rw [hv, h])) (fun sl' h' h => q2 sl' h' (by rw [hv, h]))
set_option maxHeartbeats 2000000 in
set_option maxRecDepth 100000 in
theorem valid_ok (l : List Pu) (hl : l.length < 2 ^ 62) : Gives (callL env 14 [.lst (puls l)] []) fun r => r.1 = .int .i64 (validP l) := by
  apply gives_call
  by_cases h1 : 4096 < l.length
  · simp (disch := omega) [Tryz.f14, decT, validP, h1]
  · simp (disch := omega) [Tryz.f14, decF]
    generalize hx : loopL env _ _ _ = L
    apply gives_cut hx
    refine (valid_loop l (by omega) _ l.length 0 _ _ (by omega) (by simp) (by simp) (by simp) (by simp) (fun sl' h' h => ?_) (fun sl' h' h => ?_))
    · simp [validP, h, h1]
    · simp [validP, h, h1]
end Heard

open Go Go.Proofs Go.Abs
namespace Heard
/-- The place to which an edit leads, and whether it is possible there. -/
def stepP (a b : List Int) (i j : Nat) : Nat → Nat × Nat × Bool
  | 0 => (i + 1, j + 1, decide (i < a.length) && decide (j < b.length) && decide (nth 0 a i = nth 0 b j))
  | 1 => (i + 1, j + 1, decide (i < a.length) && decide (j < b.length) && !decide (nth 0 a i = nth 0 b j))
  | 2 => (i + 1, j, decide (i < a.length))
  | 3 => (i, j + 1, decide (j < b.length))
  | 4 => (i + 2, j + 2, decide (i + 1 < a.length) && decide (j + 1 < b.length) && decide (nth 0 a i = nth 0 b (j + 1)) && decide (nth 0 a (i + 1) = nth 0 b j) && !decide (nth 0 a i = nth 0 a (i + 1)))
  | _ => (0, 0, false)
theorem pl23_0 : plainD env (dr Tryz.f23 0) = true := by kernel_rfl
theorem pl23_1 : plainD env (dr Tryz.f23 1) = true := by kernel_rfl
theorem pl23_2 : plainD env (dr Tryz.f23 2) = true := by kernel_rfl
set_option maxHeartbeats 2000000 in
set_option maxRecDepth 100000 in
theorem step_ok (a b : List Int) (i j e : Nat) (ha : a.length ≤ 96) (hb : b.length ≤ 96) (hi : i ≤ a.length) (hj : j ≤ b.length) (he : e < 5) :
    Gives (callL env 23 [.lst (ints a), .lst (ints b), .int .i64 i, .int .i64 j, .int .i64 e] []) fun r => r.1 = .tup [.int .i64 (stepP a b i j e).1, .int .i64 (stepP a b i j e).2.1, .bool (stepP a b i j e).2.2] := by
  have p0 := pl23_0
  have p1 := pl23_1
  have p2 := pl23_2
  simp [dr, drs, Tryz.f23] at p0 p1 p2
  apply gives_call
  match e, he with
  | 0, _ =>
    by_cases c1 : i < a.length
    · by_cases c2 : j < b.length
      · simp (disch := omega) [Tryz.f23, decT, decF, index_ints, regionD_plain p0, wrapI, c1, c2, stepP]
      · simp (disch := omega) [Tryz.f23, decT, decF, index_ints, regionD_plain p0, wrapI, c1, c2, stepP]
    · simp (disch := omega) [Tryz.f23, decT, decF, index_ints, regionD_plain p0, wrapI, c1, stepP]
  | 1, _ =>
    by_cases c1 : i < a.length
    · by_cases c2 : j < b.length
      · simp (disch := omega) [Tryz.f23, decT, decF, index_ints, regionD_plain p1, wrapI, c1, c2, stepP]
      · simp (disch := omega) [Tryz.f23, decT, decF, index_ints, regionD_plain p1, wrapI, c1, c2, stepP]
    · simp (disch := omega) [Tryz.f23, decT, decF, index_ints, regionD_plain p1, wrapI, c1, stepP]
  | 2, _ => 
    by_cases c1 : i < a.length <;> by_cases c2 : j < b.length <;> simp (disch := omega) [Tryz.f23, decT, decF, index_ints, wrapI, c1, c2, stepP]
  | 3, _ =>
    by_cases c1 : i < a.length <;> by_cases c2 : j < b.length <;> simp (disch := omega) [Tryz.f23, decT, decF, index_ints, wrapI, c1, c2, stepP]
  | 4, _ =>
    by_cases c1 : i < a.length
    case neg => simp (disch := omega) [Tryz.f23, decT, decF, index_ints, regionD_plain p2, wrapI, c1, stepP]
    by_cases c2 : j < b.length
    case neg => by_cases c3 : i + 1 < a.length <;> simp (disch := omega) [Tryz.f23, decT, decF, index_ints, regionD_plain p2, wrapI, c1, c2, c3, stepP]
    by_cases c3 : i + 1 < a.length
    case neg => simp (disch := omega) [Tryz.f23, decT, decF, index_ints, regionD_plain p2, wrapI, c1, c2, c3, stepP]
    by_cases c4 : j + 1 < b.length
    case neg => simp (disch := omega) [Tryz.f23, decT, decF, index_ints, regionD_plain p2, wrapI, c1, c2, c3, c4, stepP]
    have e1 : ((i : Int) + 1).toNat = i + 1 := by omega
    have e2 : ((j : Int) + 1).toNat = j + 1 := by omega
    by_cases c5 : nth 0 a i = nth 0 b (j + 1)
    case neg => simp (disch := omega) [Tryz.f23, decT, decF, index_ints, regionD_plain p2, wrapI, c1, c2, c3, c4, c5, e1, e2, stepP]
    by_cases c6 : nth 0 a (i + 1) = nth 0 b j
    case neg => simp (disch := omega) [Tryz.f23, decT, decF, index_ints, regionD_plain p2, wrapI, c1, c2, c3, c4, c5, c6, e1, e2, stepP]
    simp (disch := omega) [Tryz.f23, decT, decF, index_ints, regionD_plain p2, wrapI, c1, c2, c3, c4, c5, c6, e1, e2, stepP]
end Heard
