/- TopRival: the next code. -/
import Derived.Test.YtgdcimpndddepaaGreatRA
/- TopRival: sums of bits; the next code. -/
open Go Go.Proofs Go.Abs
namespace Rival
theorem popS_zero : ∀ k, popS k 0 = 0
  | 0 => rfl
  | k + 1 => by simp [popS]
theorem popS_succ (k z : Nat) : popS (k + 1) z = z % 2 + popS k (z / 2) := by
  by_cases h : z = 0
  · subst h; simp [popS_zero]
  · simp [popS, h]
theorem popS_add (n a : Nat) : ∀ (m j : Nat), j < 2 ^ m → popS (m + n) (a * 2 ^ m + j) = popS n a + popS m j
  | 0, j, hj => by
    obtain rfl : j = 0 := by simpa using hj
    simp [popS]
  | m + 1, j, hj => by
    have e0 : m + 1 + n = (m + n) + 1 := by omega
    have e1 : a * 2 ^ (m + 1) = 2 * (a * 2 ^ m) := by rw [Nat.pow_succ, ← Nat.mul_assoc, Nat.mul_comm]
    have e2 : 2 ^ (m + 1) = 2 ^ m * 2 := Nat.pow_succ ..
    have ih := popS_add n a m (j / 2) (by omega)
    rw [e0, popS_succ, e1, popS_succ m j]
    have e3 : (2 * (a * 2 ^ m) + j) / 2 = a * 2 ^ m + j / 2 := by omega
    rw [e3, ih]
    omega
/-- The lowest one. -/
def lowN (x : Nat) : Nat := x &&& (18446744073709551616 - x)
def lowIn (c n : Nat) : Bool := Nat.rec (motive := fun _ => Bool) true (fun v ih => Bool.and ih ((List.range 13).any fun m => Bool.and (Nat.beq (lowN (Nat.add c v)) (2 ^ m)) (Nat.beq (Nat.mod (Nat.add c v) (2 ^ m)) 0))) n
theorem lowIn_spec (c : Nat) : ∀ n, lowIn c n = true → ∀ v, v < n → ∃ m, m < 13 ∧ lowN (c + v) = 2 ^ m ∧ (c + v) % 2 ^ m = 0
  | 0, _, v, hv => absurd hv (by omega)
  | n + 1, h, v, hv => by
    have h' : Bool.and (lowIn c n) ((List.range 13).any fun m => Bool.and (Nat.beq (lowN (c + n)) (2 ^ m)) (Nat.beq ((c + n) % (2 ^ m)) 0)) = true := h
    rw [Bool.and_eq_true] at h'
    obtain ⟨h1, h2⟩ := h'
    by_cases e : v = n
    · subst e
      obtain ⟨m, hm, h3⟩ := List.any_eq_true.1 h2
      rw [Bool.and_eq_true] at h3
      exact ⟨m, List.mem_range.1 hm, Nat.eq_of_beq_eq_true h3.1, Nat.eq_of_beq_eq_true h3.2⟩
    · exact lowIn_spec c n h1 v (by omega)
theorem low_first : lowIn 1 63 = true := by kernel_rfl
def lowOut (n : Nat) : Bool := Nat.rec (motive := fun _ => Bool) true (fun v ih => Bool.and ih (lowIn (Nat.mul 64 (v + 1)) 64)) n
theorem lowOut_spec : ∀ n, lowOut n = true → ∀ v, v < n → lowIn (64 * (v + 1)) 64 = true
  | 0, _, v, hv => absurd hv (by omega)
  | n + 1, h, v, hv => by
    have h' : Bool.and (lowOut n) (lowIn (64 * (n + 1)) 64) = true := h
    rw [Bool.and_eq_true] at h'
    obtain ⟨h1, h2⟩ := h'
    by_cases e : v = n
    · subst e; exact h2
    · exact lowOut_spec n h1 v (by omega)
theorem low_spec (x : Nat) (h0 : 0 < x) (hx : x < 4096) : ∃ m, m < 13 ∧ lowN x = 2 ^ m ∧ x % 2 ^ m = 0 := by
  by_cases h : x < 64
  · have := lowIn_spec 1 63 low_first (x - 1) (by omega)
    rwa [show 1 + (x - 1) = x by omega] at this
  · have := lowIn_spec (64 * (x / 64 - 1 + 1)) 64 (lowOut_spec 63 (by kernel_rfl) (x / 64 - 1) (by omega)) (x % 64) (by omega)
    rwa [show 64 * (x / 64 - 1 + 1) + x % 64 = x by omega] at this
/-- Between a number and itself with its lowest one added nothing has fewer ones. -/
theorem pop_low (x j : Nat) (h0 : 0 < x) (hx : x < 4096) (hj : j < lowN x) : popS 26 x ≤ popS 26 (x + j) := by
  obtain ⟨m, hm, h1, h2⟩ := low_spec x h0 hx
  rw [h1] at hj
  have e : x = x / 2 ^ m * 2 ^ m := by
    have := Nat.div_add_mod x (2 ^ m)
    rw [h2, Nat.mul_comm] at this
    omega
  have a1 := popS_add (26 - m) (x / 2 ^ m) m j hj
  have a2 := popS_add (26 - m) (x / 2 ^ m) m 0 (by exact Nat.pow_pos (by omega))
  rw [show m + (26 - m) = 26 by omega, ← e] at a1 a2
  rw [Nat.add_zero, popS_zero] at a2
  omega
theorem popS_le13 : ∀ (k z n : Nat), z < 2 ^ k → popS (k + n) z = popS k z
  | 0, z, n, h => by
    obtain rfl : z = 0 := by simpa using h
    simp [popS_zero]
  | k + 1, z, n, h => by
    rw [show k + 1 + n = (k + n) + 1 by omega, popS_succ, popS_succ k z, popS_le13 k (z / 2) n (by rw [Nat.pow_succ] at h; omega)]
end Rival

/- TopRival: the next code. -/
open Go Go.Proofs Go.Abs
namespace Rival
theorem ones_pop (v : Nat) (hv : v < 4096) : onesN 65536 v = popS 26 v := by rw [← pop_ones v hv]; exact (popS_le13 13 v 13 (by omega)).symm
theorem bin_low (x : Nat) (h0 : 0 < x) (hx : x < 4096) : binA env .and 3 (.int .i64 x) (.int .i64 (IntKind.i64.wrap (-(x : Int)))) = some (.int .i64 ((lowN x : Nat) : Int)) := by
  have h3 : lowN x ≤ x := Nat.and_le_left
  rw [wrapI (by omega) (by omega), bin_and]
  show some (AV.int .i64 (IntKind.i64.wrap (((BitVec.ofInt 64 (x : Int) &&& BitVec.ofInt 64 (-(x : Int))).toNat : Nat) : Int))) = _
  have e : (BitVec.ofInt 64 (-(x : Int))).toNat = 18446744073709551616 - x := by
    simp [BitVec.toNat_ofInt]; omega
  rw [BitVec.toNat_and, ofN x (by omega), e]
  show some (AV.int .i64 (IntKind.i64.wrap ((lowN x : Nat) : Int))) = _
  rw [wrapN _ (by omega)]
set_option maxHeartbeats 2000000 in
set_option maxRecDepth 100000 in
theorem next_loop (h : Heap) (w : Int) (r : AV) (hw : 0 ≤ w) (Q : Out → Prop) : ∀ (n x : Nat) (sl : List (Nat × AV)), 4096 - x ≤ n → x < 4096 → getS sl (.tup []) 8 = .int .i64 x → getS sl (.tup []) 2 = .int .i64 w → getS sl (.tup []) 1 = r →
    (∀ sl' y, getS sl' (.tup []) 1 = r → getS sl' (.tup []) 8 = .int .i64 ((y : Nat) : Int) → x ≤ y → y < 4096 → (popS 26 y : Int) ≤ w → (∀ v, x ≤ v → v < y → w < (popS 26 v : Int)) → Q (.exit 0 ⟨56, .tup [], sl', []⟩ h)) →
    (∀ sl', getS sl' (.tup []) 6 = .int .i64 0 → getS sl' (.tup []) 7 = .int .i64 15 → (∀ v, x ≤ v → v < 4096 → w < (popS 26 v : Int)) → Q (.ret ⟨56, .tup [], sl', []⟩ h)) →
    Gives (loopL env (lp Tryz.f46 0) ⟨56, .tup [], sl, []⟩ h) Q := by
  intro n
  induction n with
  | zero => intro x sl hn hx; omega
  | succ n ih =>
    intro x sl hn hx h8 h2 h1 q1 q2
    refine gives_loop ?_
    have c := c56 x (by omega)
    rw [ones_pop x hx] at c
    by_cases hc : w < (popS 26 x : Int)
    · have h0 : 0 < x := by
        by_cases h : x = 0
        · subst h; rw [popS_zero] at hc; simp at hc; omega
        · omega
      have e0 : intA .sub .i64 0 (x : Int) = some (.int .i64 (-(x : Int))) := by simp [intA, wrapI (x := -(x : Int)) (by omega) (by omega)]
      have e1 := bin_low x h0 hx
      rw [wrapI (by omega) (by omega)] at e1
      have hl : lowN x ≤ x := Nat.and_le_left
      have hp : 0 < lowN x := by
        obtain ⟨m, _, h3, _⟩ := low_spec x h0 hx
        rw [h3]; exact Nat.pow_pos (by omega)
      have hlow := fun j => pop_low x j h0 hx
      have e2 : IntKind.i64.wrap ((x : Int) + ((lowN x : Nat) : Int)) = ((x + lowN x : Nat) : Int) := by rw [wrapI (by omega) (by omega)]; omega
      generalize lowN x = y at e1 e2 hl hp hlow
      have hall : ∀ v, x ≤ v → v < x + y → w < (popS 26 v : Int) := fun v h3 h4 => by
        have := hlow (v - x) (by omega)
        rw [show x + (v - x) = v by omega] at this
        omega
      by_cases h4 : 4096 ≤ x + y
      · have h4' : (4096 : Int) ≤ x + y := by omega
        simp [lp, Tryz.f46, loops, h8, h2, h1, c, hc, e0, e1, e2, h4, h4', -bin_and]
        exact q2 _ (by simp) (by simp) (fun v h3 h5 => hall v h3 (by omega))
      · have h4' : ¬ (4096 : Int) ≤ x + y := by omega
        simp [lp, Tryz.f46, loops, h8, h2, h1, c, hc, e0, e1, e2, h4, h4', -bin_and]
        refine ih (x + y) _ (by omega) (by omega) ?_ ?_ ?_ (fun sl' z g1 g8 k1 k2 k3 k4 => q1 sl' z g1 g8 (by omega) k2 k3 fun v m1 m2 => ?_) (fun sl' g6 g7 k4 => q2 sl' g6 g7 fun v m1 m2 => ?_)
        · simp
        · simp [h2]
        · simp [h1]
        · by_cases m3 : v < x + y
          · exact hall v m1 m3
          · exact k4 v (by omega) m2
        · by_cases m3 : v < x + y
          · exact hall v m1 m3
          · exact k4 v (by omega) m2
    · simp [lp, Tryz.f46, loops, h8, h2, h1, c, hc]
      exact q1 _ x (by simp [h1]) (by simp [h8]) (by omega) hx (by omega) (fun v a b => by omega)
end Rival

/- TopRival: the next code, whole. -/
open Go Go.Proofs Go.Abs
namespace Rival
/-- The next code, searched one by one. -/
def nx (r w : Int) : Nat → Nat → Int × Int
  | 0, _ => (0, 15)
  | n + 1, k => if isB k r w = true then (k, 0) else nx r w n (k + 1)
def nextV (l : Int) (r w : Int) : Int × Int := if formB r w = false ∨ l < 0 then (0, 2) else nx r w (4096 - l.toNat) l.toNat
theorem nx_found (r w : Int) : ∀ (n k y : Nat), k ≤ y → y < k + n → isB y r w = true → (∀ v : Nat, k ≤ v → v < y → isB v r w = false) → nx r w n k = ((y : Int), 0)
  | 0, k, y, h1, h2, _, _ => by omega
  | n + 1, k, y, h1, h2, h3, h4 => by
    unfold nx
    by_cases e : k = y
    · subst e; rw [if_pos h3]
    · rw [if_neg (by rw [h4 k (by omega) (by omega)]; simp), nx_found r w n (k + 1) y (by omega) (by omega) h3 fun v a b => h4 v (by omega) b]
theorem nx_none (r w : Int) : ∀ (n k : Nat), (∀ v : Nat, k ≤ v → v < k + n → isB v r w = false) → nx r w n k = (0, 15)
  | 0, k, _ => rfl
  | n + 1, k, h => by
    unfold nx
    rw [if_neg (by rw [h k (by omega) (by omega)]; simp), nx_none r w n (k + 1) fun v a b => h v (by omega) (by omega)]
set_option maxRecDepth 100000 in
theorem rnext_loop (h : Heap) (r w : Int) (Q : Out → Prop) : ∀ (n k : Nat) (sl : List (Nat × AV)), k + n = 4096 → getS sl (.tup []) 8 = .int .i64 k → getS sl (.tup []) 1 = .int .i64 r → getS sl (.tup []) 2 = .int .i64 w →
    (∀ sl', nx r w n k = (0, 15) → Q (.exit 0 ⟨27, .tup [], sl', []⟩ h)) → (∀ sl', getS sl' (.tup []) 6 = .int .i64 (nx r w n k).1 → getS sl' (.tup []) 7 = .int .i64 (nx r w n k).2 → Q (.ret ⟨27, .tup [], sl', []⟩ h)) →
    Gives (loopL env (lp Tryz.f36 0) ⟨27, .tup [], sl, []⟩ h) Q := by
  intro n
  induction n with
  | zero =>
    intro k sl hk h8 h1 h2 q1 q2
    refine gives_loop ?_
    obtain rfl : k = 4096 := by omega
    simp [lp, Tryz.f36, loops, h8]
    exact q1 _ rfl
  | succ n ih =>
    intro k sl hk h8 h1 h2 q1 q2
    refine gives_loop ?_
    have e1 : IntKind.i64.wrap ((k : Int) + 1) = ((k + 1 : Nat) : Int) := by rw [wrapI (by omega) (by omega)]; omega
    have e2 : (k : Int) < 4096 := by omega
    cases hc : isB k r w
    · have hn : nx r w (n + 1) k = nx r w n (k + 1) := by simp [nx, hc]
      simp [lp, Tryz.f36, loops, h8, h1, h2, e1, e2, hc]
      refine ih (k + 1) _ (by omega) ?_ ?_ ?_ (fun sl' h => q1 sl' (by rw [hn, h])) (fun sl' g6 g7 => q2 sl' (by rw [hn, g6]) (by rw [hn, g7]))
      · simp
      · simp [h1]
      · simp [h2]
    · simp [lp, Tryz.f36, loops, h8, h1, h2, e1, e2, hc]
      exact q2 _ (by simp [nx, hc]) (by simp [nx, hc])
set_option maxRecDepth 100000 in
theorem rnext_ok (l r w : Int) : Gives (callL env 36 [.int .i64 l, .int .i64 r, .int .i64 w] []) fun x => x.1 = .tup [.int .i64 (nextV l r w).1, .int .i64 (nextV l r w).2] := by
  apply gives_call
  cases h1 : formB r w
  · simp [Tryz.f36, nextV, h1]
  by_cases h2 : l < 0
  · simp [Tryz.f36, nextV, h1, h2]
  obtain ⟨l, rfl⟩ := Int.eq_ofNat_of_zero_le (by omega : 0 ≤ l)
  have h5 := decF h2
  by_cases h3 : 4096 ≤ l
  · have h4 : ¬ (l : Int) < 4096 := by omega
    have e : 4096 - l = 0 := by omega
    simp [Tryz.f36, nextV, h1, h2, h5, e, nx]
    generalize hx : loopL env _ _ _ = L
    apply gives_cut hx
    refine gives_loop ?_
    simp [lp, Tryz.f36, loops, h3, h4]
  · simp [Tryz.f36, nextV, h1, h2, h5]
    generalize hx : loopL env _ _ _ = L
    apply gives_cut hx
    refine rnext_loop [] r w _ (4096 - l) l _ (by omega) (by simp) (by simp) (by simp) (fun sl' h => ?_) (fun sl' h6 h7 => ?_)
    · simp [h]
    · simp [h6, h7]
end Rival

/- TopRival: code.Next. -/
open Go Go.Proofs Go.Abs
namespace Rival
theorem isB_iff (v r : Nat) (w : Int) (hf : formB r w = true) : isB v r w = true ↔ v < 4096 ∧ v % 2 ^ r = 2 ^ r - 1 ∧ (popS 26 (v / 2 ^ r) : Int) ≤ w := by
  by_cases hv : v < 4096
  · have h1 : inB v 0 4095 = true := by simp [inB]; omega
    have h2 : v / 2 ^ r < 4096 := Nat.lt_of_le_of_lt (Nat.div_le_self ..) hv
    simp [isB, hf, h1, hv, Nat.and_two_pow_sub_one_eq_mod, Nat.shiftRight_eq_div_pow, ones_pop _ h2]
  · have h1 : inB v 0 4095 = false := by simp [inB]; omega
    simp [isB, h1, hv]
/-- The law of the next code: from y, the least one with few ones, the code is made. -/
theorem next_some (l r y : Nat) (w : Int) (hf : formB r w = true) (hr : r ≤ 12) (h1 : l / 2 ^ r ≤ y) (h2 : (popS 26 y : Int) ≤ w) (h3 : ∀ v, l / 2 ^ r ≤ v → v < y → w < (popS 26 v : Int)) (hk : y * 2 ^ r + (2 ^ r - 1) < 4096) : nextV l r w = (((y * 2 ^ r + (2 ^ r - 1) : Nat) : Int), 0) := by
  have hp := pow_le r hr
  have hl : ¬ (l : Int) < 0 := by omega
  simp only [nextV, hf, hl, Bool.true_eq_false, or_self, if_false, Int.toNat_natCast]
  have hd : (y * 2 ^ r + (2 ^ r - 1)) / 2 ^ r = y := by
    rw [Nat.add_comm, Nat.add_mul_div_right _ _ (by omega), Nat.div_eq_of_lt (by omega), Nat.zero_add]
  have hm : (y * 2 ^ r + (2 ^ r - 1)) % 2 ^ r = 2 ^ r - 1 := by
    rw [Nat.add_comm, Nat.add_mul_mod_self_right, Nat.mod_eq_of_lt (by omega)]
  have hle : l ≤ y * 2 ^ r + (2 ^ r - 1) := by
    have a := Nat.div_add_mod l (2 ^ r)
    have b := Nat.mod_lt l (show 0 < 2 ^ r by omega)
    have c := Nat.mul_le_mul_right (2 ^ r) h1
    rw [Nat.mul_comm] at a
    omega
  refine nx_found r w _ _ _ hle (by omega) ((isB_iff _ r w hf).2 ⟨hk, hm, by rw [hd]; exact h2⟩) fun v h4 h5 => ?_
  cases hb : isB v r w
  · rfl
  · obtain ⟨g1, g2, g3⟩ := (isB_iff v r w hf).1 hb
    have a := Nat.div_add_mod v (2 ^ r)
    have hu : v / 2 ^ r < y := by
      by_cases c : v / 2 ^ r < y
      · exact c
      · have := Nat.mul_le_mul_right (2 ^ r) (show y ≤ v / 2 ^ r by omega)
        rw [Nat.mul_comm] at a
        omega
    have := h3 (v / 2 ^ r) (Nat.div_le_div_right h4) hu
    omega
theorem next_none (l r y : Nat) (w : Int) (hf : formB r w = true) (hr : r ≤ 12) (h3 : ∀ v, l / 2 ^ r ≤ v → v < y → w < (popS 26 v : Int)) (hk : 4096 ≤ y * 2 ^ r + (2 ^ r - 1)) : nextV l r w = (0, 15) := by
  have hp := pow_le r hr
  have hl : ¬ (l : Int) < 0 := by omega
  simp only [nextV, hf, hl, Bool.true_eq_false, or_self, if_false, Int.toNat_natCast]
  refine nx_none r w _ _ fun v h4 h5 => ?_
  cases hb : isB v r w
  · rfl
  · obtain ⟨g1, g2, g3⟩ := (isB_iff v r w hf).1 hb
    have a := Nat.div_add_mod v (2 ^ r)
    have hu : v / 2 ^ r < y := by
      by_cases c : v / 2 ^ r < y
      · exact c
      · have := Nat.mul_le_mul_right (2 ^ r) (show y ≤ v / 2 ^ r by omega)
        rw [Nat.mul_comm] at a
        omega
    have := h3 (v / 2 ^ r) (Nat.div_le_div_right h4) hu
    omega
end Rival

/- TopRival: code.Next. -/
open Go Go.Proofs Go.Abs
namespace Rival
theorem pl46_0 : plainD env (dr Tryz.f46 0) = true := by kernel_rfl
theorem shlN (y r : Nat) (hr : r ≤ 12) (hy : y < 4096) : binA env .shl 3 (.int .i64 y) (.int .i64 r) = some (.int .i64 ((y * 2 ^ r : Nat) : Int)) := by
  have hp := pow_le r hr
  have h1 : y * 2 ^ r ≤ 4096 * 4096 := Nat.mul_le_mul (by omega) hp.2
  rw [bin_shl, if_neg (by omega)]
  have h2 : min (r : Int).toNat IntKind.i64.bits = r := by simp [IntKind.bits]; omega
  rw [h2]
  have h3 : (y : Int) * 2 ^ r = ((y * 2 ^ r : Nat) : Int) := by push_cast; rfl
  rw [h3, wrapN _ (by omega)]
theorem orN (y r : Nat) (hr : r ≤ 12) (hy : y < 4096) : binA env .or 3 (.int .i64 ((y * 2 ^ r : Nat) : Int)) (.int .i64 ((2 ^ r - 1 : Nat) : Int)) = some (.int .i64 ((y * 2 ^ r + (2 ^ r - 1) : Nat) : Int)) := by
  have hp := pow_le r hr
  have h1 : y * 2 ^ r ≤ 4096 * 4096 := Nat.mul_le_mul (by omega) hp.2
  rw [bin_orN 3 _ _ (by omega) (by omega), ← Nat.shiftLeft_eq, ← Nat.shiftLeft_add_eq_or_of_lt (by omega)]
set_option maxHeartbeats 4000000 in
set_option maxRecDepth 100000 in
theorem next_ok (l r w : Int) : Gives (callL env 46 [.int .i64 l, .int .i64 r, .int .i64 w] []) fun x => x.1 = .tup [.int .i64 (nextV l r w).1, .int .i64 (nextV l r w).2] := by
  have p := pl46_0
  simp [dr, drs, Tryz.f46] at p
  apply gives_call
  cases h1 : formB r w
  · simp [Tryz.f46, nextV, h1]
  by_cases h2 : l < 0
  · simp [Tryz.f46, nextV, h1, h2]
  obtain ⟨l, rfl⟩ := Int.eq_ofNat_of_zero_le (by omega : 0 ≤ l)
  have h5 := decF h2
  by_cases h3 : 4096 ≤ l
  · have h4 : (4096 : Int) ≤ l := by omega
    have e : 4096 - l = 0 := by omega
    simp [Tryz.f46, nextV, h1, h2, h5, e, nx, h3, h4]
  have h4 : ¬ (4096 : Int) ≤ l := by omega
  have hr : (0 ≤ r ∧ r ≤ 12) ∧ (0 ≤ w ∧ w ≤ 12) := by simp [formB, inB] at h1; omega
  obtain ⟨r, rfl⟩ := Int.eq_ofNat_of_zero_le hr.1.1
  have hr' : r ≤ 12 := by omega
  have c := c55 r hr'
  have hp := pow_le r hr'
  have sh := shl1 r hr'
  have hx : l / 2 ^ r < 4096 := Nat.lt_of_le_of_lt (Nat.div_le_self ..) (by omega)
  have key : ∀ sl : List (Nat × AV), getS sl (.tup []) 8 = .int .i64 ((l / 2 ^ r : Nat) : Int) → getS sl (.tup []) 2 = .int .i64 w → getS sl (.tup []) 1 = .int .i64 r → ∀ Q : Out → Prop,
      (∀ sl' y, getS sl' (.tup []) 1 = .int .i64 r → getS sl' (.tup []) 8 = .int .i64 ((y : Nat) : Int) → y < 4096 → (y * 2 ^ r + (2 ^ r - 1) < 4096 → nextV l r w = (((y * 2 ^ r + (2 ^ r - 1) : Nat) : Int), 0)) → (4096 ≤ y * 2 ^ r + (2 ^ r - 1) → nextV l r w = (0, 15)) → Q (.exit 0 ⟨56, .tup [], sl', []⟩ [])) →
      (∀ sl', getS sl' (.tup []) 6 = .int .i64 0 → getS sl' (.tup []) 7 = .int .i64 15 → nextV l r w = (0, 15) → Q (.ret ⟨56, .tup [], sl', []⟩ [])) →
      Gives (loopL env (lp Tryz.f46 0) ⟨56, .tup [], sl, []⟩ []) Q := by
    intro sl g8 g2 g1 Q q1 q2
    refine next_loop [] w (.int .i64 r) hr.2.1 Q 4096 (l / 2 ^ r) sl (Nat.sub_le ..) hx g8 g2 g1 (fun sl' y k1 k2 k3 k4 k5 k6 => q1 sl' y k1 k2 k4 (fun h => next_some l r y w h1 hr' k3 k5 k6 h) (fun h => next_none l r y w h1 hr' k6 h)) (fun sl' k1 k2 k3 => q2 sl' k1 k2 (next_none l r 4096 w h1 hr' k3 ?_))
    have := Nat.le_mul_of_pos_right 4096 (show 0 < 2 ^ r by omega)
    omega
  by_cases hl : ((2 ^ r - 1 : Nat) : Int) < l
  · have s1 : IntKind.i64.wrap ((l : Int) - ((2 ^ r - 1 : Nat) : Int)) = ((l - (2 ^ r - 1) : Nat) : Int) := by rw [wrapI (by omega) (by omega)]; omega
    have s2 : IntKind.i64.wrap (((l - (2 ^ r - 1) : Nat) : Int) + ((2 ^ r : Nat) : Int)) = ((l + 1 : Nat) : Int) := by rw [wrapI (by omega) (by omega)]; omega
    have s3 : IntKind.i64.wrap (((l + 1 : Nat) : Int) - 1) = ((l : Nat) : Int) := by rw [wrapI (by omega) (by omega)]; omega
    have s4 := bin_shrN (E := env) 3 l r (by omega)
    rw [Nat.shiftRight_eq_div_pow] at s4
    have m1 := fun y (h : y < 4096) => shlN y r hr' h
    have m2 := fun y (h : y < 4096) => orN y r hr' h
    generalize l / 2 ^ r = x at s4 key
    generalize hu : 2 ^ r - 1 = u at *
    generalize 2 ^ r = t at *
    generalize l - u = v at s1 s2
    generalize hm : l + 1 = m at s2 s3
    simp [Tryz.f46, h1, h2, h5, h4, h3, c, sh, hl, s1, s2, s3, s4, -bin_shl, -bin_shr, -bin_or]
    generalize hx : loopL env _ _ _ = L
    apply gives_cut hx
    clear hx
    refine key _ (by simp) (by simp) (by simp) _ (fun sl' y k1 k8 ky a b => ?_) (fun sl' k6 k7 a => ?_)
    · have n1 := m1 y ky
      have n2 := m2 y ky
      by_cases hk : y * t + u < 4096
      · have hk' : ((y * t + u : Nat) : Int) < 4096 := by omega
        have a' := a hk
        generalize y * t + u = z at *
        generalize y * t = x2 at *
        simp [regionD_plain p, k1, k8, c, n1, n2, hk, hk', a', -bin_shl, -bin_or]
      · have hk' : ¬ ((y * t + u : Nat) : Int) < 4096 := by omega
        have b' := b (by omega)
        generalize y * t + u = z at *
        generalize y * t = x2 at *
        simp [regionD_plain p, k1, k8, c, n1, n2, hk, hk', b', -bin_shl, -bin_or]
    · simp [k6, k7, a]
  · have m1 := fun y (h : y < 4096) => shlN y r hr' h
    have m2 := fun y (h : y < 4096) => orN y r hr' h
    rw [Nat.div_eq_of_lt (by omega)] at key
    generalize hu : 2 ^ r - 1 = u at *
    generalize 2 ^ r = t at *
    have hl' := decF hl
    simp [Tryz.f46, h1, h2, h5, h4, h3, c, sh, hl, hl', -bin_shl, -bin_shr, -bin_or]
    generalize hx : loopL env _ _ _ = L
    apply gives_cut hx
    clear hx
    refine key _ (by simp) (by simp) (by simp) _ (fun sl' y k1 k8 ky a b => ?_) (fun sl' k6 k7 a => ?_)
    · have n1 := m1 y ky
      have n2 := m2 y ky
      by_cases hk : y * t + u < 4096
      · have hk' : ((y * t + u : Nat) : Int) < 4096 := by omega
        have a' := a hk
        generalize y * t + u = z at *
        generalize y * t = x2 at *
        simp [regionD_plain p, k1, k8, c, n1, n2, hk, hk', a', -bin_shl, -bin_or]
      · have hk' : ¬ ((y * t + u : Nat) : Int) < 4096 := by omega
        have b' := b (by omega)
        generalize y * t + u = z at *
        generalize y * t = x2 at *
        simp [regionD_plain p, k1, k8, c, n1, n2, hk, hk', b', -bin_shl, -bin_or]
    · simp [k6, k7, a]
theorem c46 (l r w : Int) (h : Heap) : callN env (callL env) 46 [.int .i64 l, .int .i64 r, .int .i64 w] h = some (.tup [.int .i64 (nextV l r w).1, .int .i64 (nextV l r w).2], h) := by
  obtain ⟨x, hr, h1⟩ := gives_iff.1 (next_ok l r w)
  exact callE rfl rfl hr (by rw [h1]; rfl) h
theorem c36 (l r w : Int) (h : Heap) : callN env (callL env) 36 [.int .i64 l, .int .i64 r, .int .i64 w] h = some (.tup [.int .i64 (nextV l r w).1, .int .i64 (nextV l r w).2], h) := by
  obtain ⟨x, hr, h1⟩ := gives_iff.1 (rnext_ok l r w)
  exact callE rfl rfl hr (by rw [h1]; rfl) h
attribute [simp] c46 c36
end Rival

/- TopRival: how long a code is. -/
open Go Go.Proofs Go.Abs
namespace Rival
/-- How many digits a number has. -/
def lng : Nat → Nat → Nat
  | 0, _ => 0
  | k + 1, z => if z = 0 then 0 else lng k (z / 2) + 1
set_option maxRecDepth 100000 in
theorem steps_loop (h : Heap) (Q : Out → Prop) : ∀ (k z n : Nat) (sl : List (Nat × AV)), z < 2 ^ k → n + k < 2 ^ 62 → k < 60 → getS sl (.tup []) 0 = .int .i64 z → getS sl (.tup []) 4 = .int .i64 n →
    (∀ sl', getS sl' (.tup []) 4 = .int .i64 ((n + lng k z : Nat) : Int) → Q (.exit 0 ⟨15, .tup [], sl', []⟩ h)) →
    Gives (loopL env (lp Tryz.f25 0) ⟨15, .tup [], sl, []⟩ h) Q := by
  intro k
  induction k with
  | zero =>
    intro z n sl hz hn hk h0 h4 q
    obtain rfl : z = 0 := by omega
    refine gives_loop ?_
    simp [lp, Tryz.f25, loops, h0, h4]
    exact q _ (by simp [h4, lng])
  | succ k ih =>
    intro z n sl hz hn hk h0 h4 q
    refine gives_loop ?_
    have hz' : z < 2 ^ k * 2 := by rw [Nat.pow_succ] at hz; exact hz
    by_cases hc : z = 0
    · subst hc
      simp [lp, Tryz.f25, loops, h0, h4]
      exact q _ (by simp [h4, lng])
    · have e2 : ∀ k', binA env .shr 3 (.int .i64 z) (.int k' 1) = some (.int .i64 ((z / 2 : Nat) : Int)) := fun k' => by
        rw [bin_shr, ← bin_shr (E := env) 3 .i64 z 1 .i64]
        exact bin_shrN 3 z 1 (by omega)
      have e3 : IntKind.i64.wrap ((n : Int) + 1) = ((n + 1 : Nat) : Int) := by rw [wrapI (by omega) (by omega)]; omega
      have e5 : 0 < z := by omega
      have e6 : n + 1 + lng k (z / 2) = n + lng (k + 1) z := by simp only [lng, hc, if_false]; omega
      generalize hx : z / 2 = x at e2 e6
      simp [lp, Tryz.f25, loops, h0, h4, e2, e3, e5, -bin_shr]
      refine ih x (n + 1) _ (by omega) (by omega) (by omega) ?_ ?_ (fun sl' h' => q sl' (by rw [h', e6]))
      · simp
      · simp
def stepsV (k : Int) : Int × Int := if inB k 0 4095 = true then ((lng 12 k.toNat : Nat), 0) else (0, 2)
theorem steps_ok (k : Int) : Gives (callL env 25 [.int .i64 k] []) fun x => x.1 = .tup [.int .i64 (stepsV k).1, .int .i64 (stepsV k).2] := by
  apply gives_call
  cases h : inB k 0 4095
  · simp [Tryz.f25, stepsV, h]
  · have hk : 0 ≤ k ∧ k ≤ 4095 := by simpa [inB] using h
    obtain ⟨k, rfl⟩ := Int.eq_ofNat_of_zero_le hk.1
    simp [Tryz.f25, stepsV, h]
    generalize hx : loopL env _ _ _ = L
    apply gives_cut hx
    refine steps_loop [] _ 12 k 0 _ (by omega) (by omega) (by omega) (by simp) (by simp) (fun sl' h' => ?_)
    simp [h']
theorem c25 (k : Int) (h : Heap) : callN env (callL env) 25 [.int .i64 k] h = some (.tup [.int .i64 (stepsV k).1, .int .i64 (stepsV k).2], h) := by
  obtain ⟨x, hr, h1⟩ := gives_iff.1 (steps_ok k)
  exact callE rfl rfl hr (by rw [h1]; rfl) h
attribute [simp] c25
set_option maxRecDepth 100000 in
theorem long_loop (h : Heap) (Q : Out → Prop) : ∀ (k z n : Nat) (sl : List (Nat × AV)), z < 2 ^ k → n + k < 2 ^ 62 → k < 60 → getS sl (.tup []) 0 = .int .i64 z → getS sl (.tup []) 3 = .int .i64 n →
    (∀ sl', getS sl' (.tup []) 3 = .int .i64 ((n + lng k z : Nat) : Int) → Q (.exit 0 ⟨11, .tup [], sl', []⟩ h)) →
    Gives (loopL env (lp Tryz.f38 0) ⟨11, .tup [], sl, []⟩ h) Q := by
  intro k
  induction k with
  | zero =>
    intro z n sl hz hn hk h0 h4 q
    obtain rfl : z = 0 := by omega
    refine gives_loop ?_
    simp [lp, Tryz.f38, loops, h0, h4]
    exact q _ (by simp [h4, lng])
  | succ k ih =>
    intro z n sl hz hn hk h0 h4 q
    refine gives_loop ?_
    have hz' : z < 2 ^ k * 2 := by rw [Nat.pow_succ] at hz; exact hz
    by_cases hc : z = 0
    · subst hc
      simp [lp, Tryz.f38, loops, h0, h4]
      exact q _ (by simp [h4, lng])
    · have hp : 2 ^ k ≤ 2 ^ 60 := Nat.pow_le_pow_right (by omega) (by omega)
      have e2 : (z : Int).tdiv 2 = ((z / 2 : Nat) : Int) := by rw [tdivN (by omega)]; omega
      have e4 : IntKind.i64.wrap ((z / 2 : Nat) : Int) = ((z / 2 : Nat) : Int) := wrapI (by omega) (by omega)
      have e3 : IntKind.i64.wrap ((n : Int) + 1) = ((n + 1 : Nat) : Int) := by rw [wrapI (by omega) (by omega)]; omega
      have e5 : 0 < z := by omega
      have e6 : n + 1 + lng k (z / 2) = n + lng (k + 1) z := by simp only [lng, hc, if_false]; omega
      generalize hx : z / 2 = x at e2 e4 e6
      simp [lp, Tryz.f38, loops, h0, h4, e2, e3, e4, e5]
      refine ih x (n + 1) _ (by omega) (by omega) (by omega) ?_ ?_ (fun sl' h' => q sl' (by rw [h', e6]))
      · simp
      · simp
theorem long_ok (k : Nat) (hk : k < 4096) : Gives (callL env 38 [.int .i64 k] []) fun x => x.1 = .int .i64 ((lng 12 k : Nat) : Int) := by
  apply gives_call
  simp [Tryz.f38]
  generalize hx : loopL env _ _ _ = L
  apply gives_cut hx
  refine long_loop [] _ 12 k 0 _ (by omega) (by omega) (by omega) (by simp) (by simp) (fun sl' h' => ?_)
  simp [h']
theorem c38 (k : Nat) (hk : k < 4096) (h : Heap) : callN env (callL env) 38 [.int .i64 k] h = some (.int .i64 ((lng 12 k : Nat) : Int), h) := by
  obtain ⟨x, hr, h1⟩ := gives_iff.1 (long_ok k hk)
  exact callE rfl rfl hr (by rw [h1]; rfl) h
end Rival

/- TopRival: which plans are valid. -/
open Go Go.Proofs Go.Abs
namespace Rival
def planV (s : Int) (ks : List Int) : AV := .agg [.int .i64 s, .lst (ints ks)]
def kOk (w s : Int) (k : Int) (x : It) : Bool := isB k x.r w && decide (k < 2 ^ s.toNat)
def vCodes (w s : Int) (l : List It) (ks : List Int) : Nat → Nat → Int
  | 0, _ => 0
  | n + 1, i => if kOk w s (nth 0 ks i) (nth default l i) = false then 1 else vCodes w s l ks n (i + 1)
def vPlan (l : List It) (w s : Int) (ks : List Int) : Int := if vJob l w ≠ 0 then vJob l w else if s < 0 ∨ 12 < s ∨ ks.length ≠ l.length then 1 else vCodes w s l ks ks.length 0
theorem isB_range {k r w : Int} (h : isB k r w = true) : 0 ≤ k ∧ k ≤ 4095 := by
  simp [isB, inB] at h
  omega
theorem shr_zero (k s : Nat) : (k >>> s = 0) ↔ k < 2 ^ s := by
  rw [Nat.shiftRight_eq_div_pow, Nat.div_eq_zero_iff]
  have : 0 < 2 ^ s := Nat.pow_pos (by omega)
  omega
theorem pl18_0 : plainD env (dr Tryz.f18 0) = true := by kernel_rfl
theorem pl7_0 : plainD env (dr Tryz.f7 0) = true := by kernel_rfl
set_option maxHeartbeats 4000000 in
set_option maxRecDepth 100000 in
theorem pvalid_loop (l : List It) (w : Int) (s : Nat) (hs : s ≤ 12) (ks : List Int) (hl : l.length ≤ 96) (hk : ks.length = l.length) (tl : Heap) (Q : Out → Prop) : ∀ (n i : Nat) (sl : List (Nat × AV)), i + n = ks.length → getS sl (.tup []) 2 = .ptr 0 1 0 0 → getS sl (.tup []) 3 = .ptr 1 1 0 0 → getS sl (.tup []) 31 = .lst (ints ks) → getS sl (.tup []) 32 = .int .i64 ks.length → getS sl (.tup []) 33 = .int .i64 i →
    (∀ sl', vCodes w s l ks n i = 0 → Q (.exit 0 ⟨57, .tup [], sl', []⟩ (.row false 2 [jobV l w] :: .row false 2 [planV s ks] :: tl))) → (∀ sl', getS sl' (.tup []) 4 = .int .i64 (vCodes w s l ks n i) → Q (.ret ⟨57, .tup [], sl', []⟩ (.row false 2 [jobV l w] :: .row false 2 [planV s ks] :: tl))) →
    Gives (loopL env (lp Tryz.f18 0) ⟨57, .tup [], sl, []⟩ (.row false 2 [jobV l w] :: .row false 2 [planV s ks] :: tl)) Q := by
  have p := pl18_0
  simp [dr, drs, Tryz.f18] at p
  intro n
  induction n with
  | zero =>
    intro i sl hi h2 h3 h31 h32 h33 q1 q2
    refine gives_loop ?_
    simp (disch := omega) [lp, Tryz.f18, loops, h32, h33, decF]
    exact q1 _ rfl
  | succ n ih =>
    intro i sl hi h2 h3 h31 h32 h33 q1 q2
    refine gives_loop ?_
    cases hb : isB (nth 0 ks i) (nth default l i).r w
    · have hv : vCodes w s l ks (n + 1) i = 1 := by simp [vCodes, kOk, hb]
      simp (disch := omega) [lp, Tryz.f18, loops, h2, h3, h31, h32, h33, decT, index_ints, index_its, regionD_plain p, hb, jobV, planV]
      exact q2 _ (by simp [hv])
    · have hr := isB_range hb
      obtain ⟨k, hk'⟩ := Int.eq_ofNat_of_zero_le hr.1
      rw [hk'] at hb hr
      have e1 := bin_shrN (E := env) 3 k s (by omega)
      by_cases hz : k < 2 ^ s
      · have hv : vCodes w s l ks (n + 1) i = vCodes w s l ks n (i + 1) := by
          have : ((k : Nat) : Int) < 2 ^ s := by exact_mod_cast hz
          simp [vCodes, kOk, hk', hb, this]
        have hz' := (shr_zero k s).2 hz
        simp (disch := omega) [lp, Tryz.f18, loops, h2, h3, h31, h32, h33, decT, index_ints, index_its, regionD_plain p, hk', hb, jobV, planV, e1, hz', wrapI, -bin_shr]
        refine ih (i + 1) _ (by omega) ?_ ?_ ?_ ?_ ?_ (fun sl' h => q1 sl' (by rw [hv, h])) (fun sl' h => q2 sl' (by rw [hv, h]))
        · simp [h2]
        · simp [h3]
        · simp [h31]
        · simp [h32]
        · simp
      · have hv : vCodes w s l ks (n + 1) i = 1 := by
          have : ¬ ((k : Nat) : Int) < 2 ^ s := by exact_mod_cast hz
          simp [vCodes, kOk, hk', hb]; omega
        have hz' : ¬ k >>> s = 0 := fun h => hz ((shr_zero k s).1 h)
        generalize k >>> s = z at e1 hz'
        have hz2 : decide ((z : Int) = 0) = false := decF (by omega)
        simp (disch := omega) [lp, Tryz.f18, loops, h2, h3, h31, h32, h33, decT, index_ints, index_its, regionD_plain p, hk', hb, jobV, planV, e1, hz', hz2, wrapI, -bin_shr]
        exact q2 _ (by simp [hv])
end Rival
