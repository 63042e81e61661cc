/- TopHeard: the messages of detectors. -/
import Derived.Test.YtoechcjloppghaaGreatHC
open Go Go.Proofs Go.Abs
namespace Heard
def small (v : Int) : Bool := decide (0 ≤ v) && decide (v ≤ 1023)
def isMark (v : Int) : Bool := decide (1536 < v) && decide (v ≤ 1544)
theorem c20 (v : Int) (h : Heap) : callN env (callL env) 20 [.int .i64 v] h = some (.bool (isMark v), h) := callE rfl rfl (mark_ok v []) rfl h
theorem c30 (v : Int) (h : Heap) : callN env (callL env) 30 [.int .i64 v] h = some (.bool (small v), h) := callE rfl rfl (delta_ok v []) rfl h
/-- The pulses of a group's values from a place on. -/
def rdN (l : List Int) : Nat → Nat → Int → List Pu → Option (List Pu)
  | 0, _, _, out => some out
  | k + 1, i, t, out =>
    if nth 0 l i - 1024 < 0 ∨ 64 ≤ nth 0 l i - 1024 ∨ small (nth 0 l (i + 1)) = false then none
    else if 1000000000 < t + nth 0 l (i + 1) then none
    else rdN l k (i + 2) (t + nth 0 l (i + 1)) (out ++ [⟨(nth 0 l i - 1024) / 2, t + nth 0 l (i + 1), (nth 0 l i - 1024) % 2 * 2 - 1⟩])
def readP (l : List Int) : Option (List Pu × Nat) :=
  if isMark (nth 0 l 0) = false then none
  else if l.length < 4 + 2 * (nth 0 l 0 - 1536).toNat ∨ small (nth 0 l 1) = false ∨ small (nth 0 l 2) = false ∨ small (nth 0 l 3) = false then none
  else (rdN l (nth 0 l 0 - 1536).toNat 4 (nth 0 l 1 * 1048576 + nth 0 l 2 * 1024 + nth 0 l 3) []).map fun o => (o, 4 + 2 * (nth 0 l 0 - 1536).toNat)
set_option maxHeartbeats 2000000 in
set_option maxRecDepth 100000 in
theorem read_loop (l : List Int) (n : Nat) (hn : n ≤ l.length) (hn2 : n ≤ 20) (hv : ∀ v ∈ l, -1 ≤ v ∧ v ≤ 2047) (Q : Out → Prop) : ∀ (k i : Nat) (t : Int) (out : List Pu) (sl : List (Nat × AV)) (tail : Heap), i + 2 * k = n → 0 ≤ t → t ≤ 2000000000 → out.length ≤ i →
    getS sl (.tup []) 0 = .lst (ints l) → getS sl (.tup []) 2 = .ref 0 out.length 0 out.length → getS sl (.tup []) 3 = .int .i64 n → getS sl (.tup []) 5 = .int .i64 t → getS sl (.tup []) 6 = .int .i64 i →
    (∀ sl' tail' o, rdN l k i t out = some o → getS sl' (.tup []) 2 = .ref 0 o.length 0 o.length → getS sl' (.tup []) 3 = .int .i64 n → Q (.exit 0 ⟨104, .tup [], sl', []⟩ (Ent.row false 3 (puls o) :: tail'))) →
    (∀ sl' h' b, rdN l k i t out = none → getS sl' (.tup []) 2 = .ref b 0 0 0 → getS sl' (.tup []) 3 = .int .i64 0 → getS sl' (.tup []) 4 = .bool false → Q (.ret ⟨104, .tup [], sl', []⟩ h')) →
    Gives (loopL env (lp Tryz.f19 0) ⟨104, .tup [], sl, []⟩ (Ent.row false 3 (puls out) :: tail)) Q := by
  intro k
  induction k with
  | zero =>
    intro i t out sl tail hi ht ht2 ho g0 g2 g3 g5 g6 q1 q2
    refine gives_loop ?_
    simp (disch := omega) [lp, Tryz.f19, loops, g3, g6, decF]
    exact q1 _ _ _ rfl (by simp [g2]) (by simp [g3])
  | succ k ih =>
    intro i t out sl tail hi ht ht2 ho g0 g2 g3 g5 g6 q1 q2
    have v1 := hv _ (mem_nth 0 l i (by omega))
    have v2 := hv _ (mem_nth 0 l (i + 1) (by omega))
    have e3 : ((i : Int) + 1).toNat = i + 1 := by omega
    refine gives_loop ?_
    by_cases c1 : nth 0 l i - 1024 < 0
    · simp (disch := omega) [lp, Tryz.f19, loops, g0, g2, g3, g5, g6, decT, index_ints, wrapI]
      exact q2 _ _ _ (by simp [rdN, c1]) (by simp; rfl) (by simp) (by simp)
    obtain ⟨w, hw⟩ := Int.eq_ofNat_of_zero_le (Int.not_lt.1 c1)
    by_cases c2 : 64 ≤ nth 0 l i - 1024
    · simp (disch := omega) [lp, Tryz.f19, loops, g0, g2, g3, g5, g6, decT, decF, index_ints, wrapI]
      exact q2 _ _ _ (by simp only [rdN]; rw [if_pos (.inr (.inl c2))]) (by simp; rfl) (by simp) (by simp)
    cases c3 : small (nth 0 l (i + 1))
    · simp (disch := omega) [lp, Tryz.f19, loops, g0, g2, g3, g5, g6, decT, decF, index_ints, wrapI, c30, e3, c3]
      exact q2 _ _ _ (by simp only [rdN]; rw [if_pos (.inr (.inr c3))]) (by simp; rfl) (by simp) (by simp)
    have c3' := c3
    simp [small] at c3'
    have hneg : ¬ (nth 0 l i - 1024 < 0 ∨ 64 ≤ nth 0 l i - 1024 ∨ small (nth 0 l (i + 1)) = false) := by simp [c1, c2, c3]
    by_cases c4 : 1000000000 < t + nth 0 l (i + 1)
    · simp (disch := omega) [lp, Tryz.f19, loops, g0, g2, g3, g5, g6, decT, decF, index_ints, wrapI, c30, e3, c3]
      exact q2 _ _ _ (by simp only [rdN]; rw [if_neg hneg, if_pos c4]) (by simp; rfl) (by simp) (by simp)
    have hst : rdN l (k + 1) i t out = rdN l k (i + 2) (t + nth 0 l (i + 1)) (out ++ [⟨(nth 0 l i - 1024) / 2, t + nth 0 l (i + 1), (nth 0 l i - 1024) % 2 * 2 - 1⟩]) := by
      simp only [rdN]; rw [if_neg hneg, if_neg c4]
    rw [hst] at q1 q2
    have hw2 : (w : Int) % 2 * 2 - 1 = (nth 0 l i - 1024) % 2 * 2 - 1 := by rw [hw]
    have hw3 : (w : Int) / 2 = (nth 0 l i - 1024) / 2 := by rw [hw]
    rw [← hw2, ← hw3] at q1 q2
    simp (disch := omega) [lp, Tryz.f19, loops, g0, g2, g3, g5, g6, decT, decF, index_ints, wrapI, c30, e3, c3, hw, tmodN]
    exact ih (i + 2) _ _ _ _ (by omega) (by omega) (by omega) (by simp; omega) (by simp [g0]) (by simp) (by simp [g3]) (by simp) (by simp) q1 q2
theorem or20' (a b : Nat) (ha : a ≤ 1023) (hb : b ≤ 1023) : ∃ x y : Nat, (∀ k', binA env .shl 3 (.int .i64 a) (.int k' 20) = some (.int .i64 x)) ∧ (∀ k', binA env .shl 3 (.int .i64 b) (.int k' 10) = some (.int .i64 y)) ∧ x = a * 1048576 ∧ y = b * 1024 ∧
    binA env .or 3 (.int .i64 x) (.int .i64 y) = some (.int .i64 ((a * 1048576 + b * 1024 : Nat) : Int)) ∧ (∀ c : Nat, c ≤ 1023 → binA env .or 3 (.int .i64 ((a * 1048576 + b * 1024 : Nat) : Int)) (.int .i64 c) = some (.int .i64 ((a * 1048576 + b * 1024 + c : Nat) : Int))) := by
  refine ⟨a <<< 20, b <<< 10, fun k' => ?_, fun k' => ?_, ?_, ?_, ?_, fun c hc => ?_⟩
  · rw [bin_shl, ← bin_shl (E := env) 3 .i64 a 20 .i64]
    exact bin_shlN 3 a 20 (by rw [Nat.shiftLeft_eq]; omega) (by omega)
  · rw [bin_shl, ← bin_shl (E := env) 3 .i64 b 10 .i64]
    exact bin_shlN 3 b 10 (by rw [Nat.shiftLeft_eq]; omega) (by omega)
  · rw [Nat.shiftLeft_eq]
  · rw [Nat.shiftLeft_eq]
  · have h1 : b <<< 10 < 2 ^ 20 := by rw [Nat.shiftLeft_eq]; omega
    rw [bin_orN 3 _ _ (by rw [Nat.shiftLeft_eq]; omega) (by omega), ← Nat.shiftLeft_add_eq_or_of_lt h1, Nat.shiftLeft_eq, Nat.shiftLeft_eq]
  · have h1 : a * 1048576 + b * 1024 = (a * 1024 + b) <<< 10 := by rw [Nat.shiftLeft_eq]; omega
    rw [bin_orN 3 _ _ (by omega) (by omega), h1, ← Nat.shiftLeft_add_eq_or_of_lt (by omega : c < 2 ^ 10)]
theorem or20 (a b c : Nat) (ha : a ≤ 1023) (hb : b ≤ 1023) (hc : c ≤ 1023) : ∃ x y u v : Nat, (∀ k', binA env .shl 3 (.int .i64 a) (.int k' 20) = some (.int .i64 x)) ∧ (∀ k', binA env .shl 3 (.int .i64 b) (.int k' 10) = some (.int .i64 y)) ∧
    binA env .or 3 (.int .i64 x) (.int .i64 y) = some (.int .i64 u) ∧ binA env .or 3 (.int .i64 u) (.int .i64 c) = some (.int .i64 v) ∧ (v : Int) = (a : Int) * 1048576 + (b : Int) * 1024 + (c : Int) ∧ v ≤ 2000000000 := by
  obtain ⟨x, y, h1, h2, _, _, h3, h4⟩ := or20' a b ha hb
  exact ⟨x, y, _, _, h1, h2, h3, h4 c hc, by omega, by omega⟩
theorem pl19_0 : plainD env (dr Tryz.f19 0) = true := by kernel_rfl
/-- What a group reads as. -/
def readV : Option (List Pu × Nat) → AV
  | some (o, n) => .tup [.lst (puls o), .int .i64 n, .bool true]
  | none => .tup [.lst [], .int .i64 0, .bool false]
theorem snap_none (m : SM) (h : Heap) (b : Nat) : snap m depth h (.tup [.ref b 0 0 0, .int .i64 0, .bool false]) = some (readV none) := rfl
set_option maxHeartbeats 2000000 in
set_option maxRecDepth 100000 in
theorem read_ok (l : List Int) (h0 : 0 < l.length) (hl : l.length < 2 ^ 40) (hv : ∀ v ∈ l, -1 ≤ v ∧ v ≤ 2047) :
    Gives (callL env 19 [.lst (ints l)] []) fun r => ∀ m, m ≠ .frz → snap m depth r.2 r.1 = some (readV (readP l)) := by
  have p := pl19_0
  simp [dr, drs, Tryz.f19] at p
  apply gives_call
  have v0 := hv _ (mem_nth 0 l 0 h0)
  cases c0 : isMark (nth 0 l 0)
  · simp (disch := omega) [Tryz.f19, index_ints, c20, c0]
    intro m hm
    rw [snap_none, readP, if_pos c0]
  have c0' := c0
  simp [isMark] at c0'
  obtain ⟨w, hw⟩ := Int.eq_ofNat_of_zero_le (show 0 ≤ nth 0 l 0 - 1536 by omega)
  have hw' : (nth 0 l 0 - 1536).toNat = w := by rw [hw]; simp
  have hp : readP l = if l.length < 4 + 2 * w ∨ small (nth 0 l 1) = false ∨ small (nth 0 l 2) = false ∨ small (nth 0 l 3) = false then none else (rdN l w 4 (nth 0 l 1 * 1048576 + nth 0 l 2 * 1024 + nth 0 l 3) []).map fun o => (o, 4 + 2 * w) := by
    unfold readP
    rw [if_neg (by simp [c0]), hw']
  by_cases c1 : l.length < 4 + 2 * w
  · have c1' : (l.length : Int) < 4 + 2 * (w : Int) := by omega
    simp (disch := omega) [Tryz.f19, index_ints, c20, c0, hw, wrapI, c1']
    intro m hm
    rw [snap_none, hp, if_pos (.inl c1)]
  have c1' : ¬ (l.length : Int) < 4 + 2 * (w : Int) := by omega
  cases c2 : small (nth 0 l 1)
  · simp (disch := omega) [Tryz.f19, index_ints, c20, c0, hw, wrapI, c1', c30, c2]
    intro m hm
    rw [snap_none, hp, if_pos (.inr (.inl c2))]
  cases c3 : small (nth 0 l 2)
  · simp (disch := omega) [Tryz.f19, index_ints, c20, c0, hw, wrapI, c1', c30, c2, c3]
    intro m hm
    rw [snap_none, hp, if_pos (.inr (.inr (.inl c3)))]
  cases c4 : small (nth 0 l 3)
  · simp (disch := omega) [Tryz.f19, index_ints, c20, c0, hw, wrapI, c1', c30, c2, c3, c4]
    intro m hm
    rw [snap_none, hp, if_pos (.inr (.inr (.inr c4)))]
  rw [if_neg (by simp [c2, c3, c4, c1])] at hp
  have s2 := c2
  have s3 := c3
  have s4 := c4
  simp [small] at s2 s3 s4
  obtain ⟨x1, h1⟩ := Int.eq_ofNat_of_zero_le s2.1
  obtain ⟨x2, h2⟩ := Int.eq_ofNat_of_zero_le s3.1
  obtain ⟨x3, h3⟩ := Int.eq_ofNat_of_zero_le s4.1
  obtain ⟨z1, z2, y1, y2, a1, a2, a3, a5, ht, hb⟩ := or20 x1 x2 x3 (by omega) (by omega) (by omega)
  rw [h1, h2, h3] at hp
  rw [← ht] at hp
  rw [h1] at c2
  rw [h2] at c3
  rw [h3] at c4
  simp (disch := omega) [-bin_shl, -bin_or, Tryz.f19, index_ints, c20, c0, hw, wrapI, c1', c30, c2, c3, c4, h1, h2, h3, a1, a2, a3, a5, regionD_plain p]
  generalize hx : loopL env _ _ _ = L
  apply gives_cut hx
  refine read_loop l (4 + 2 * w) (by omega) (by omega) hv _ w 4 y2 [] _ _ (by omega) (by omega) (by omega) (by simp) ?_ ?_ ?_ ?_ ?_ (fun sl' tail' o ho g2 g3 => ?_) (fun sl' h' b ho g2 g3 g4 => ?_)
  · simp
  · simp
  · simp
  · simp
  · simp
  · simp [g2, g3]
    intro m hm
    rw [hp, ho]
    show (List.mapM (snap m 11 _) _).map AV.tup = _
    simp only [List.mapM_cons, List.mapM_nil]
    rw [snap_rpuls (d := 8) hm (l := o) rfl rfl]
    simp [readV, snap]
  · simp [g2, g3, g4]
    intro m hm
    rw [hp, ho, snap_none]
    rfl
end Heard

open Go Go.Proofs Go.Abs
namespace Heard
/-- The values of pulses behind a time. -/
def pv : Int → List Pu → List Int
  | _, [] => []
  | t, p :: r => (1024 + 2 * p.d + (if p.r = 1 then 1 else 0)) :: (p.t - t) :: pv p.t r
def lastT : Int → List Pu → Int
  | t, [] => t
  | _, p :: r => lastT p.t r
theorem pv_length : ∀ (t : Int) (l : List Pu), (pv t l).length = 2 * l.length
  | _, [] => rfl
  | t, p :: r => by simp [pv, pv_length p.t r]; omega
def head4 (n : Nat) (t : Int) : List Int := [1536 + n, t / 1048576, t / 1024 % 1024, t % 1024]
/-- The values of all groups. -/
def encV : Nat → List Pu → List Int
  | 0, _ => []
  | _ + 1, [] => []
  | k + 1, p :: r => head4 (grpN (p :: r) 8 1) p.t ++ pv p.t ((p :: r).take (grpN (p :: r) 8 1)) ++ encV k ((p :: r).drop (grpN (p :: r) 8 1))
theorem grpN_le (l : List Pu) : ∀ (k n : Nat), n ≤ l.length → grpN l k n ≤ l.length ∧ n ≤ grpN l k n ∧ (n ≤ 8 → grpN l k n ≤ 8)
  | 0, n, h => ⟨h, Nat.le_refl _, fun h => h⟩
  | k + 1, n, h => by
    simp only [grpN]
    split
    · rename_i c
      obtain ⟨h1, h2, h3⟩ := grpN_le l k (n + 1) (by omega)
      exact ⟨h1, by omega, fun _ => h3 (by omega)⟩
    · exact ⟨h, Nat.le_refl _, fun h => h⟩
theorem c15 (l : List Pu) (ht : ∀ p ∈ l, 0 ≤ p.t ∧ p.t ≤ 1000000000) (hl : l.length < 2 ^ 40) (h : Heap) : callN env (callL env) 15 [.lst (puls l)] h = some (.int .i64 (grpN l 8 1), h) := by
  obtain ⟨r, hr, h1⟩ := gives_iff.1 (group_ok l hl ht)
  exact callE rfl rfl hr (by rw [h1]; rfl) h
theorem c14 (l : List Pu) (hl : l.length < 2 ^ 62) (h : Heap) : callN env (callL env) 14 [.lst (puls l)] h = some (.int .i64 (validP l), h) := by
  obtain ⟨r, hr, h1⟩ := gives_iff.1 (valid_ok l hl)
  exact callE rfl rfl hr (by rw [h1]; rfl) h
theorem shr20 (t : Int) (h0 : 0 ≤ t) (k' : IntKind) : binA env .shr 3 (.int .i64 t) (.int k' 20) = some (.int .i64 (t / 1048576)) := by
  rw [bin_shr, if_neg (by omega)]
  have : min (20 : Int).toNat IntKind.i64.bits = 20 := by simp [IntKind.bits]
  rw [this, Int.fdiv_eq_ediv_of_nonneg _ (by decide)]; rfl
theorem shr10 (t : Int) (h0 : 0 ≤ t) (k' : IntKind) : binA env .shr 3 (.int .i64 t) (.int k' 10) = some (.int .i64 (t / 1024)) := by
  rw [bin_shr, if_neg (by omega)]
  have : min (10 : Int).toNat IntKind.i64.bits = 10 := by simp [IntKind.bits]
  rw [this, Int.fdiv_eq_ediv_of_nonneg _ (by decide)]; rfl
theorem and1023 (t : Int) (h0 : 0 ≤ t) (h1 : t < 2 ^ 40) : binA env .and 3 (.int .i64 t) (.int .i64 1023) = some (.int .i64 (t % 1024)) := by
  obtain ⟨n, rfl⟩ := Int.eq_ofNat_of_zero_le h0
  have := bin_andN (E := env) 3 n 1023 (by omega) (by omega)
  have e : n &&& 1023 = n % 1024 := Nat.and_two_pow_sub_one_eq_mod n 10
  rw [e] at this
  simpa using this
set_option maxHeartbeats 2000000 in
set_option maxRecDepth 100000 in
theorem enc_inner (e0 : Ent) (g : List Pu) (n : Nat) (hg : g.length = n) (hn : n ≤ 8) (hok : ∀ p ∈ g, p.ok = true) (L : AV) (Q : Out → Prop) : ∀ (r : List Pu) (j : Nat) (t : Int) (vs : List Int) (sl : List (Nat × AV)) (tail : Heap), j + r.length = n → g.drop j = r → 0 ≤ t → t ≤ 1000000000 → vs.length + 2 * r.length < 2 ^ 20 →
    getS sl (.tup []) 0 = L → getS sl (.tup []) 5 = .ref 1 vs.length 0 vs.length → getS sl (.tup []) 6 = .int .i64 n → getS sl (.tup []) 7 = .int .i64 t → getS sl (.tup []) 39 = .lst (puls g) → getS sl (.tup []) 40 = .int .i64 n → getS sl (.tup []) 41 = .int .i64 j →
    (∀ sl' tail', getS sl' (.tup []) 0 = L → getS sl' (.tup []) 5 = .ref 1 (vs ++ pv t r).length 0 (vs ++ pv t r).length → getS sl' (.tup []) 6 = .int .i64 n → Q (.exit 2 ⟨72, .tup [], sl', []⟩ (e0 :: Ent.row false 1 (ints (vs ++ pv t r)) :: tail'))) →
    Gives (loopL env (lp Tryz.f4 1) ⟨72, .tup [], sl, []⟩ (e0 :: Ent.row false 1 (ints vs) :: tail)) Q := by
  intro r
  induction r with
  | nil =>
    intro j t vs sl tail hj hr ht ht2 hvs g0 g5 g6 g7 g39 g40 g41 q
    simp only [List.length_nil] at hj
    refine gives_loop ?_
    simp (disch := omega) [lp, Tryz.f4, loops, g40, g41, decF]
    simpa [pv] using q _ tail (by simp [g0]) (by simp [pv, g5]) (by simp [g6])
  | cons p r ih =>
    intro j t vs sl tail hj hr ht ht2 hvs g0 g5 g6 g7 g39 g40 g41 q
    simp only [List.length_cons] at hj hvs
    have hr' : g.drop (j + 1) = r := by rw [← List.drop_drop, hr]; rfl
    have hp : nth default g j = p := by
      rw [nth_getD, List.getD_eq_getElem?_getD]
      have := congrArg (·[0]?) hr
      simp at this
      simp [this]
    have hpk := hok p (by rw [← List.take_append_drop j g, hr]; simp)
    simp [Pu.ok] at hpk
    obtain ⟨⟨⟨⟨d0, d1⟩, t0⟩, t1⟩, _⟩ := hpk
    refine gives_loop ?_
    by_cases c : p.r = 1
    · have hpv : vs ++ pv t (p :: r) = (vs ++ [1024 + 2 * p.d + 1, p.t - t]) ++ pv p.t r := by simp [pv, c]
      rw [hpv] at q
      simp (disch := omega) [lp, Tryz.f4, loops, g0, g5, g6, g7, g39, g40, g41, decT, index_puls, hp, wrapI, c, ints_snoc2]
      exact ih (j + 1) p.t (vs ++ [1024 + 2 * p.d + 1, p.t - t]) _ _ (by omega) hr' t0 t1 (by simp; omega) (by simp [g0]) (by simp) (by simp [g6]) (by simp) (by simp [g39]) (by simp [g40]) (by simp) q
    · have hpv : vs ++ pv t (p :: r) = (vs ++ [1024 + 2 * p.d, p.t - t]) ++ pv p.t r := by simp [pv, c]
      rw [hpv] at q
      simp (disch := omega) [lp, Tryz.f4, loops, g0, g5, g6, g7, g39, g40, g41, decT, index_puls, hp, wrapI, c, ints_snoc2]
      exact ih (j + 1) p.t (vs ++ [1024 + 2 * p.d, p.t - t]) _ _ (by omega) hr' t0 t1 (by simp; omega) (by simp [g0]) (by simp) (by simp [g6]) (by simp) (by simp [g39]) (by simp [g40]) (by simp) q
theorem drop_getD {l : List Pu} {p : Pu} {r : List Pu} (h : l = p :: r) : nth default l 0 = p := by subst h; rfl
set_option maxHeartbeats 2000000 in
set_option maxRecDepth 100000 in
theorem enc_outer (e0 : Ent) (Q : Out → Prop) : ∀ (k : Nat) (l : List Pu) (vs : List Int) (sl : List (Nat × AV)) (tail : Heap), l.length ≤ k → (∀ p ∈ l, p.ok = true) → vs.length + 6 * l.length < 2 ^ 19 →
    getS sl (.tup []) 0 = .lst (puls l) → getS sl (.tup []) 5 = .ref 1 vs.length 0 vs.length →
    (∀ sl' tail', getS sl' (.tup []) 5 = .ref 1 (vs ++ encV k l).length 0 (vs ++ encV k l).length → Q (.exit 0 ⟨72, .tup [], sl', []⟩ (e0 :: Ent.row false 1 (ints (vs ++ encV k l)) :: tail'))) →
    Gives (loopL env (lp Tryz.f4 0) ⟨72, .tup [], sl, []⟩ (e0 :: Ent.row false 1 (ints vs) :: tail)) Q := by
  intro k
  induction k with
  | zero =>
    intro l vs sl tail hk hok hvs g0 g5 q
    obtain rfl : l = [] := List.eq_nil_of_length_eq_zero (by omega)
    refine gives_loop ?_
    simp (disch := omega) [lp, Tryz.f4, loops, g0, puls_nil]
    simpa [encV] using q _ tail (by simp [encV, g5])
  | succ k ih =>
    intro l vs sl tail hk hok hvs g0 g5 q
    cases l with
    | nil =>
      refine gives_loop ?_
      simp (disch := omega) [lp, Tryz.f4, loops, g0, puls_nil]
      simpa [encV] using q _ tail (by simp [encV, g5])
    | cons p r =>
      have htm : ∀ q ∈ p :: r, 0 ≤ q.t ∧ q.t ≤ 1000000000 := fun q hq => by
        have := hok q hq
        simp [Pu.ok] at this
        omega
      have hpt := htm p List.mem_cons_self
      have hp0 : nth default (p :: r) 0 = p := rfl
      have c1 := c15 (p :: r) htm (by omega)
      obtain ⟨n1, n2, n3⟩ := grpN_le (p :: r) 8 1 (by simp)
      have n3' := n3 (by omega)
      have hen : encV (k + 1) (p :: r) = head4 (grpN (p :: r) 8 1) p.t ++ pv p.t ((p :: r).take (grpN (p :: r) 8 1)) ++ encV k ((p :: r).drop (grpN (p :: r) 8 1)) := rfl
      have hlen : 0 < (p :: r).length := by simp
      rw [hen] at q
      generalize hl : p :: r = l at *
      generalize grpN l 8 1 = n at *
      have hq1 : vs ++ (head4 n p.t ++ pv p.t (l.take n) ++ encV k (l.drop n)) = ((vs ++ head4 n p.t) ++ pv p.t (l.take n)) ++ encV k (l.drop n) := by simp
      rw [hq1] at q
      have a1 := shr20 p.t
      have a2 := shr10 p.t
      have a3 := and1023 p.t hpt.1 (by omega)
      have a4 := and1023 (p.t / 1024) (by omega) (by omega)
      have h4 : ints vs ++ [.int .i64 (1536 + n), .int .i64 (p.t / 1048576), .int .i64 (p.t / 1024 % 1024), .int .i64 (p.t % 1024)] = ints (vs ++ head4 n p.t) := by simp [head4, ints]
      have h4l : (vs ++ head4 n p.t).length = vs.length + 4 := by simp [head4]
      refine gives_loop ?_
      simp (disch := omega) [-bin_shr, -bin_and, lp, Tryz.f4, loops, g0, g5, decT, index_puls, hp0, wrapI, c1, a1, a2, a3, a4, h4, slice_puls_hi]
      generalize hx : loopL env _ _ _ = LL
      apply gives_cut hx
      clear hx
      refine enc_inner e0 (l.take n) n (by simp; omega) n3' (fun q hq => hok q (List.mem_of_mem_take hq)) (.lst (puls l)) _ (l.take n) 0 p.t (vs ++ head4 n p.t) _ _ (by simp; omega) rfl hpt.1 hpt.2 (by simp [head4]; omega) (by simp [g0]) (by simp [head4]) (by simp) (by simp) (by simp) (by simp) (by simp) (fun sl' tail' k0 k5 k6 => ?_)
      simp (disch := omega) [k0, k6, slice_puls_lo]
      have hln : (head4 n p.t).length = 4 := rfl
      refine ih (l.drop n) (vs ++ (head4 n p.t ++ pv p.t (l.take n))) _ _ (by simp; omega) (fun q hq => hok q (List.mem_of_mem_drop hq)) (by simp [hln, pv_length]; omega) (by simp) (by simp [k5]) (fun sl' tail' k5 => ?_)
      have := q sl' tail' (by rw [k5]; simp)
      simpa using this
/-- The two bytes of a value's word. -/
def bw (v : Nat) : List Nat := [wordN v >>> 8, wordN v % 256]
theorem wb_bw (l : List Nat) : l.flatMap wb = byts (l.flatMap bw) := by
  induction l with
  | nil => rfl
  | cons v l ih =>
    rw [List.flatMap_cons, List.flatMap_cons, ih]
    simp [byts, wb, bw]
set_option maxHeartbeats 2000000 in
set_option maxRecDepth 100000 in
theorem encode_ok (l : List Pu) (nl : List Nat) (hl : l.length ≤ 4096) (hv : validP l = 0) (hok : ∀ p ∈ l, p.ok = true) (hnl : encV l.length l = nats' nl) (h2 : ∀ v ∈ nl, v < 2048) (hlen : nl.length ≤ 65536) :
    Gives (callL env 4 [.lst (puls l)] []) fun r => snap .any depth r.2 r.1 = some (.tup [.lst (byts (nl.flatMap bw)), .int .i64 0]) := by
  have cv := c14 l (by omega)
  have he : ints (nats' nl) = nats nl := by simp [ints, nats', nats]
  have hn' : (nats' nl).length = nl.length := by simp [nats']
  apply gives_call
  simp (disch := omega) [Tryz.f4, cv, hv]
  generalize hx : loopL env _ _ _ = L
  apply gives_cut hx
  clear hx
  refine enc_outer _ _ l.length l [] _ _ (by omega) hok (by simp; omega) (by simp) (by simp) (fun sl' tail' k5 => ?_)
  rw [hnl] at k5 ⊢
  simp only [List.nil_append] at k5 ⊢
  have c16 : ∀ h : Heap, h[1]? = some (.row false 1 (ints (nats' nl))) → callN env (callL env) 16 [.ref 1 nl.length 0 nl.length] h = some (.tup [.lst (byts (nl.flatMap bw)), .int .i64 0], h) := by
    intro h hh
    obtain ⟨r, hr, h1⟩ := gives_iff.1 (pack_ok nl hlen h2)
    have g1 : env.nat 16 = none := rfl
    have g2 : env.cm 16 = .pure := rfl
    have g3 : ([.ref 1 nl.length 0 nl.length] : List AV).all (closed? depth) = false := rfl
    have g4 : snap .any depth h (.ref 1 nl.length 0 nl.length) = some (.lst (nats nl)) := by
      rw [← he]
      exact snap_rints (d := 10) (by simp) hh hn'
    have g5 : ([.ref 1 nl.length 0 nl.length] : List AV).mapM (snap .any depth h) = some [.lst (nats nl)] := by
      simp only [List.mapM_cons, List.mapM_nil, g4]; rfl
    unfold callN
    simp only [g1, g2, g3, cond_false, g5, Option.bind_some, hr]
    rw [h1 .own (by simp), wb_bw]
    rfl
  rw [hn'] at k5
  simp [k5, c16]
  rfl
end Heard

open Go Go.Proofs Go.Abs
namespace Heard
set_option maxHeartbeats 2000000 in
set_option maxRecDepth 100000 in
theorem encode_bad (l : List Pu) (hl : l.length < 2 ^ 62) (hv : validP l ≠ 0) :
    Gives (callL env 4 [.lst (puls l)] []) fun r => snap .any depth r.2 r.1 = some (.tup [.lst [], .int .i64 (validP l)]) := by
  have cv := c14 l hl
  apply gives_call
  simp (disch := omega) [Tryz.f4, cv, hv]
  rfl
/-- An interval. -/
structure Iv where
  lo : Int
  hi : Int
  deriving Inhabited, DecidableEq
def Iv.av (p : Iv) : AV := .agg [.int .i64 p.lo, .int .i64 p.hi]
def ivs (l : List Iv) : List AV := l.map Iv.av
theorem ivs_length (l : List Iv) : (ivs l).length = l.length := by simp [ivs]
theorem ivs_snoc (a : List Iv) (x y : Int) : ivs a ++ [.agg [.int .i64 x, .int .i64 y]] = ivs (a ++ [⟨x, y⟩]) := by simp [ivs, Iv.av]
attribute [simp] ivs_length ivs_snoc
theorem snap_ivsL {m : SM} {d : Nat} {h : Heap} : ∀ l : List Iv, (ivs l).mapM (snap m (d + 2) h) = some (ivs l)
  | [] => rfl
  | p :: l => by
    have h1 : snap m (d + 2) h p.av = some p.av := rfl
    show ((p.av :: ivs l).mapM (snap m (d + 2) h)) = _
    simp only [List.mapM_cons, h1, snap_ivsL l]
    rfl
theorem snap_rivs {m : SM} (hm : m ≠ .frz) {d : Nat} {h : Heap} {b n : Nat} {ro : Bool} {l : List Iv} (hb : h[b]? = some (.row ro 2 (ivs l))) (hn : l.length = n) : snap m (d + 3) h (.ref b n 0 n) = some (.lst (ivs l)) := snap_rowM hm hb (by simpa using hn) (snap_ivsL l)
theorem rdN_length (l : List Int) : ∀ (k i : Nat) (t : Int) (out o : List Pu), rdN l k i t out = some o → o.length = out.length + k
  | 0, _, _, out, o, h => by cases h; rfl
  | k + 1, i, t, out, o, h => by
    simp only [rdN] at h
    split at h
    · cases h
    split at h
    · cases h
    have := rdN_length l k _ _ _ _ h
    simp at this
    omega
theorem readP_le {l : List Int} {o : List Pu} {n : Nat} (h : readP l = some (o, n)) : n = 4 + 2 * o.length ∧ n ≤ l.length ∧ 1 ≤ o.length ∧ o.length ≤ 8 := by
  unfold readP at h
  split at h
  · cases h
  rename_i c0
  split at h
  · cases h
  rename_i c1
  simp only [Option.map_eq_some_iff, Prod.mk.injEq] at h
  obtain ⟨o', h1, rfl, rfl⟩ := h
  have h2 := rdN_length _ _ _ _ _ _ h1
  simp only [List.length_nil, Nat.zero_add] at h2
  simp [isMark] at c0
  rw [h2]
  omega
/-- The next place of a mark. -/
def skp (vs : List Int) : Nat → Nat → Nat
  | 0, i => i
  | k + 1, i => if i < vs.length ∧ isMark (nth 0 vs i) = false then skp vs k (i + 1) else i
theorem skp_le (vs : List Int) : ∀ k i, i ≤ vs.length → i ≤ skp vs k i ∧ skp vs k i ≤ vs.length
  | 0, i, h => ⟨Nat.le_refl _, h⟩
  | k + 1, i, h => by
    simp only [skp]
    split
    · rename_i c
      have := skp_le vs k (i + 1) (by omega)
      omega
    · exact ⟨Nat.le_refl _, h⟩
/-- The pulses and the gaps of values from a place on. -/
def decG (vs : List Int) : Nat → Nat → List Pu → List Iv → List Pu × List Iv
  | 0, _, ps, gs => (ps, gs)
  | k + 1, i, ps, gs => if i < vs.length then match readP (vs.drop i) with
    | some (o, n) => decG vs k (i + n) (ps ++ o) gs
    | none => decG vs k (skp vs vs.length (i + 1)) ps (gs ++ [⟨i, skp vs vs.length (i + 1) - 1⟩])
    else (ps, gs)
theorem c19 (l : List Int) (h0 : 0 < l.length) (hl : l.length < 2 ^ 40) (hv : ∀ v ∈ l, -1 ≤ v ∧ v ≤ 2047) (h : Heap) : callN env (callL env) 19 [.lst (ints l)] h = some (readV (readP l), h) := by
  obtain ⟨r, hr, h1⟩ := gives_iff.1 (read_ok l h0 hl hv)
  exact callE rfl rfl hr (h1 .any (by simp)) h
set_option maxHeartbeats 2000000 in
set_option maxRecDepth 100000 in
theorem skip_loop (h : Heap) (vs : List Int) (hl : vs.length ≤ 65536) (Q : Out → Prop) : ∀ (k i : Nat) (sl : List (Nat × AV)), vs.length ≤ k + i → i ≤ vs.length → getS sl (.tup []) 5 = .lst (ints vs) → getS sl (.tup []) 10 = .int .i64 i →
    ∀ A B C, getS sl (.tup []) 8 = A → getS sl (.tup []) 9 = B → getS sl (.tup []) 14 = C →
    (∀ sl', getS sl' (.tup []) 5 = .lst (ints vs) → getS sl' (.tup []) 10 = .int .i64 (skp vs k i) → getS sl' (.tup []) 8 = A → getS sl' (.tup []) 9 = B → getS sl' (.tup []) 14 = C → Q (.exit 2 ⟨72, .tup [], sl', []⟩ h)) →
    Gives (loopL env (lp Tryz.f6 1) ⟨72, .tup [], sl, []⟩ h) Q := by
  intro k
  induction k with
  | zero =>
    intro i sl hi hi2 g5 g10 A B C g8 g9 g14 q
    refine gives_loop ?_
    simp (disch := omega) [lp, Tryz.f6, loops, g5, g10, decF]
    exact q _ (by simp [g5]) (by simp [g10, skp]) (by simp [g8]) (by simp [g9]) (by simp [g14])
  | succ k ih =>
    intro i sl hi hi2 g5 g10 A B C g8 g9 g14 q
    refine gives_loop ?_
    by_cases c : i < vs.length
    · cases c1 : isMark (nth 0 vs i)
      · simp (disch := omega) [lp, Tryz.f6, loops, g5, g10, decT, index_ints, c20, c, c1, wrapI]
        exact ih (i + 1) _ (by omega) (by omega) (by simp [g5]) (by simp) A B C (by simp [g8]) (by simp [g9]) (by simp [g14]) (fun sl' h5 h10 => q sl' h5 (by rw [h10]; simp only [skp]; rw [if_pos ⟨c, c1⟩]))
      · simp (disch := omega) [lp, Tryz.f6, loops, g5, g10, decT, index_ints, c20, c, c1, wrapI]
        exact q _ (by simp [g5]) (by simp [g10, skp, c1]) (by simp [g8]) (by simp [g9]) (by simp [g14])
    · simp (disch := omega) [lp, Tryz.f6, loops, g5, g10, decF, c]
      exact q _ (by simp [g5]) (by simp [g10, skp, c]) (by simp [g8]) (by simp [g9]) (by simp [g14])
set_option maxHeartbeats 2000000 in
set_option maxRecDepth 100000 in
theorem dec_outer (r0 r1 : Ent) (vs : List Int) (hl : vs.length ≤ 65536) (hv : ∀ v ∈ vs, -1 ≤ v ∧ v ≤ 2047) (Q : Out → Prop) : ∀ (k i : Nat) (ps : List Pu) (gs : List Iv) (sl : List (Nat × AV)) (tail : Heap), vs.length ≤ k + i → i ≤ vs.length → ps.length ≤ i → gs.length ≤ i →
    getS sl (.tup []) 5 = .lst (ints vs) → getS sl (.tup []) 8 = .ref 2 ps.length 0 ps.length → getS sl (.tup []) 9 = .ref 3 gs.length 0 gs.length → getS sl (.tup []) 10 = .int .i64 i →
    (∀ sl' tail' ps' gs', decG vs k i ps gs = (ps', gs') → getS sl' (.tup []) 8 = .ref 2 ps'.length 0 ps'.length → getS sl' (.tup []) 9 = .ref 3 gs'.length 0 gs'.length → Q (.exit 0 ⟨72, .tup [], sl', []⟩ (r0 :: r1 :: Ent.row false 3 (puls ps') :: Ent.row false 2 (ivs gs') :: tail'))) →
    Gives (loopL env (lp Tryz.f6 0) ⟨72, .tup [], sl, []⟩ (r0 :: r1 :: Ent.row false 3 (puls ps) :: Ent.row false 2 (ivs gs) :: tail)) Q := by
  intro k
  induction k with
  | zero =>
    intro i ps gs sl tail hi hi2 hps hgs g5 g8 g9 g10 q
    refine gives_loop ?_
    simp (disch := omega) [lp, Tryz.f6, loops, g5, g10, decF]
    exact q _ tail ps gs rfl (by simp [g8]) (by simp [g9])
  | succ k ih =>
    intro i ps gs sl tail hi hi2 hps hgs g5 g8 g9 g10 q
    refine gives_loop ?_
    by_cases c : i < vs.length
    · have cr := c19 (vs.drop i) (by simp; omega) (by simp; omega) (fun v hm => hv v (List.mem_of_mem_drop hm))
      cases hr : readP (vs.drop i) with
      | some x =>
        obtain ⟨o, n⟩ := x
        rw [hr] at cr
        obtain ⟨e1, e2, e3, e4⟩ := readP_le hr
        simp only [List.length_drop] at e2
        have hs : decG vs (k + 1) i ps gs = decG vs k (i + n) (ps ++ o) gs := by simp only [decG, if_pos c, hr]
        rw [hs] at q
        simp (disch := omega) [lp, Tryz.f6, loops, g5, g8, g9, g10, decT, slice_ints_lo, cr, readV, wrapI]
        exact ih (i + n) (ps ++ o) gs _ _ (by omega) (by omega) (by simp; omega) (by omega) (by simp [g5]) (by simp) (by simp [g9]) (by simp) q
      | none =>
        rw [hr] at cr
        obtain ⟨e1, e2⟩ := skp_le vs vs.length (i + 1) (by omega)
        have hs : decG vs (k + 1) i ps gs = decG vs k (skp vs vs.length (i + 1)) ps (gs ++ [⟨i, skp vs vs.length (i + 1) - 1⟩]) := by simp only [decG, if_pos c, hr]
        rw [hs] at q
        simp (disch := omega) [lp, Tryz.f6, loops, g5, g8, g9, g10, decT, slice_ints_lo, cr, readV, wrapI]
        generalize hx : loopL env _ _ _ = L
        apply gives_cut hx
        clear hx
        refine skip_loop _ vs hl _ vs.length (i + 1) _ (by omega) (by omega) (by simp [g5]) (by simp) (.ref 2 ps.length 0 ps.length) (.ref 3 gs.length 0 gs.length) (.int .i64 i) (by simp [g8]) (by simp [g9]) (by simp) (fun sl' k5 k10 k8 k9 k14 => ?_)
        generalize skp vs vs.length (i + 1) = e at *
        simp (disch := omega) [k5, k8, k9, k10, k14, wrapI, g5, g8, g9, g10]
        exact ih e ps _ _ _ (by omega) (by omega) (by omega) (by simp; omega) (by simp [k5]) (by simp [k8]) (by simp) (by simp [k10]) q
    · have hs : decG vs (k + 1) i ps gs = (ps, gs) := by simp only [decG, if_neg c]
      rw [hs] at q
      simp (disch := omega) [lp, Tryz.f6, loops, g5, g10, decF]
      exact q _ tail ps gs rfl (by simp [g8]) (by simp [g9])
theorem c18 (bs : List Nat) (k : Nat) (hk : bs.length = 2 * k) (hl : bs.length ≤ 131072) (hb : ∀ x ∈ bs, x < 256) : ∃ ls : List Int, ∀ h, callN env (callL env) 18 [.lst (byts bs)] h = some (.tup [.lst (ints (unp bs k 0)), .lst (ints ls), .int .i64 0], h) := by
  obtain ⟨r, hr, ls, h1⟩ := gives_iff.1 (unpack_ok bs k hk hl hb)
  exact ⟨ls, fun h => callE rfl rfl hr (h1 .any (by simp)) h⟩
theorem unp_length (bs : List Nat) : ∀ k i, (unp bs k i).length = k
  | 0, _ => rfl
  | k + 1, i => by simp [unp, unp_length bs k (i + 2)]
theorem gathN_lt : ∀ (r : List Nat) (i w v : Nat), i + r.length ≤ 11 → v < 2048 → gathN r i w v < 2048
  | [], _, _, v, _, hv => hv
  | p :: r, i, w, v, hi, hv => by
    simp only [gathN]
    simp only [List.length_cons] at hi
    refine gathN_lt r (i + 1) w _ (by omega) (Nat.or_lt_two_pow (n := 11) hv ?_)
    have h1 : w >>> p &&& 1 ≤ 1 := Nat.and_le_right
    rw [Nat.shiftLeft_eq]
    have h2 : 2 ^ i ≤ 2 ^ 10 := Nat.pow_le_pow_right (by omega) (by omega)
    have h3 : (w >>> p &&& 1) * 2 ^ i ≤ 1 * 2 ^ i := Nat.mul_le_mul_right _ h1
    omega
theorem decV_le (w : Nat) : -1 ≤ decV w ∧ decV w ≤ 2047 := by
  unfold decV
  split
  · unfold decN
    split
    · have := gathN_lt PL 0 (w ^^^ (1 <<< synN 15 1 w 0)) 0 (by decide) (by omega)
      simp; omega
    split
    · have := gathN_lt PL 0 w 0 (by decide) (by omega)
      simp; omega
    · simp
  · omega
theorem unp_le (bs : List Nat) : ∀ k i, ∀ v ∈ unp bs k i, -1 ≤ v ∧ v ≤ 2047
  | 0, _, v, h => by cases h
  | k + 1, i, v, h => by
    simp only [unp, List.mem_cons] at h
    rcases h with rfl | h
    · exact decV_le _
    · exact unp_le bs k (i + 2) v h
set_option maxHeartbeats 2000000 in
set_option maxRecDepth 100000 in
theorem decode_ok (bs : List Nat) (k : Nat) (hk : bs.length = 2 * k) (hl : bs.length ≤ 131072) (hb : ∀ x ∈ bs, x < 256) (ps : List Pu) (gs : List Iv) (hd : decG (unp bs k 0) k 0 [] [] = (ps, gs)) (hps : ps.length ≤ 4096) :
    Gives (callL env 6 [.lst (byts bs)] []) fun r => ∀ m, m ≠ .frz → snap m depth r.2 r.1 = some (.tup [.lst (puls ps), .lst (ivs gs), .int .i64 0]) := by
  obtain ⟨ls, c⟩ := c18 bs k hk hl hb
  have h1 := unp_length bs k 0
  have h2 := unp_le bs k 0
  generalize unp bs k 0 = vs at *
  apply gives_call
  simp (disch := omega) [Tryz.f6, c]
  generalize hx : loopL env _ _ _ = L
  apply gives_cut hx
  clear hx
  refine dec_outer _ _ vs (by omega) h2 _ k 0 [] [] _ _ (by omega) (by omega) (by simp) (by simp) (by simp) (by simp) (by simp) (by simp) (fun sl' tail' ps' gs' hd' k8 k9 => ?_)
  rw [hd] at hd'
  cases hd'
  have e1 : ¬ (4096 : Int) < ps.length := by omega
  simp (disch := omega) [k8, k9, e1]
  intro m hm
  show (List.mapM (snap m 11 _) _).map AV.tup = _
  simp only [List.mapM_cons, List.mapM_nil]
  rw [snap_rpuls (d := 8) hm (l := ps) rfl rfl, snap_rivs (d := 8) hm (l := gs) rfl rfl]
  rfl
end Heard
