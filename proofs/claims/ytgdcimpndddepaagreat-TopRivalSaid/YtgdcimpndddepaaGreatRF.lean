/- TopRival: Witness, Make. -/
import Derived.Test.YtgdcimpndddepaaGreatRE
/- TopRival: slices.Index, slices.Max, slices.Reverse. -/
open Go Go.Proofs Go.Abs
namespace Rival
def maxF (v : List Int) : Nat → Nat → Int → Int
  | 0, _, a => a
  | n + 1, i, a => maxF v n (i + 1) (max a (nth 0 v i))
set_option maxRecDepth 100000 in
set_option maxHeartbeats 4000000 in
theorem max_loop (v : List Int) (hv : v.length < 2 ^ 62) (h : Heap) (Q : Out → Prop) : ∀ (n i : Nat) (a : Int) (sl : List (Nat × AV)), i + n = v.length →
    getS sl (.tup []) 0 = .lst (ints v) → getS sl (.tup []) 3 = .int .i64 a → getS sl (.tup []) 4 = .int .i64 i →
    (∀ sl', getS sl' (.tup []) 3 = .int .i64 (maxF v n i a) → Q (.exit 0 ⟨25, .tup [], sl', []⟩ h)) →
    Gives (loopL env (lp Tryz.f34 0) ⟨25, .tup [], sl, []⟩ h) Q := by
  intro n
  induction n with
  | zero =>
    intro i a sl hi g0 g3 g4 q
    refine gives_loop ?_
    simp (disch := omega) [lp, Tryz.f34, loops, g0, g4, decF]
    exact q _ (by simp [g3, maxF])
  | succ n ih =>
    intro i a sl hi g0 g3 g4 q
    refine gives_loop ?_
    simp (disch := omega) [lp, Tryz.f34, loops, g0, g3, g4, decT, wrapI, index_ints]
    refine ih (i + 1) _ _ (by omega) ?_ ?_ ?_ q
    · simp [g0]
    · simp
    · simp
theorem maxF_ge (v : List Int) : ∀ (n i : Nat) (a : Int), a ≤ maxF v n i a ∧ ∀ x, i ≤ x → x < i + n → nth 0 v x ≤ maxF v n i a
  | 0, i, a => ⟨Int.le_refl _, fun x h1 h2 => by omega⟩
  | n + 1, i, a => by
    obtain ⟨h1, h2⟩ := maxF_ge v n (i + 1) (max a (nth 0 v i))
    simp only [maxF]
    refine ⟨by omega, fun x g1 g2 => ?_⟩
    by_cases hx : x = i
    · subst hx; omega
    · exact h2 x (by omega) (by omega)
theorem maxF_hit (v : List Int) : ∀ (n i : Nat) (a : Int), maxF v n i a = a ∨ ∃ x, i ≤ x ∧ x < i + n ∧ nth 0 v x = maxF v n i a
  | 0, i, a => .inl rfl
  | n + 1, i, a => by
    simp only [maxF]
    rcases maxF_hit v n (i + 1) (max a (nth 0 v i)) with h | ⟨x, h1, h2, h3⟩
    · by_cases hc : nth 0 v i ≤ a
      · left; omega
      · right; exact ⟨i, Nat.le_refl _, by omega, by omega⟩
    · right; exact ⟨x, by omega, by omega, h3⟩
/-- The greatest of some numbers. -/
def IsMax (v : List Int) (M : Int) : Prop := (∃ x, x < v.length ∧ nth 0 v x = M) ∧ ∀ x, x < v.length → nth 0 v x ≤ M
set_option maxRecDepth 100000 in
set_option maxHeartbeats 4000000 in
theorem max_ok (v : List Int) (hv : v.length < 2 ^ 62) (h0 : 0 < v.length) : Gives (callL env 34 [.lst (ints v)] []) fun r => ∃ M, r.1 = .int .i64 M ∧ IsMax v M := by
  apply gives_call
  have h1 : decide ((v.length : Int) < 1) = false := decF (by omega)
  have i0 : ∀ h, indexAddrA env 25 h (.lst (ints v)) (.int .i64 0) = some (.iptr (.int .i64 (nth 0 v 0)) 0) := fun h => index_ints v 0 h (by omega) (by omega)
  simp (disch := omega) [Tryz.f34, h1, i0]
  generalize hx : loopL env _ _ _ = L
  apply gives_cut hx
  clear hx
  refine max_loop v hv _ _ (v.length - 1) 1 (nth 0 v 0) _ (by omega) ?_ ?_ ?_ (fun sl' h3 => ?_)
  · simp
  · simp
  · simp
  · simp [h3]
    obtain ⟨g1, g2⟩ := maxF_ge v (v.length - 1) 1 (nth 0 v 0)
    refine ⟨?_, fun x hx => ?_⟩
    · rcases maxF_hit v (v.length - 1) 1 (nth 0 v 0) with h | ⟨x, g1, g2, g3⟩
      · exact ⟨0, h0, h.symm⟩
      · exact ⟨x, by omega, g3⟩
    · by_cases h : x = 0
      · subst h; exact g1
      · exact g2 x (by omega) (by omega)
theorem c34 (v : List Int) (hv : v.length < 2 ^ 62) (h0 : 0 < v.length) : ∃ M, (∀ h, callN env (callL env) 34 [.lst (ints v)] h = some (.int .i64 M, h)) ∧ IsMax v M := by
  obtain ⟨r, hr, M, h1, h2⟩ := gives_iff.1 (max_ok v hv h0)
  exact ⟨M, fun h => callE rfl (by simp [closed?, depth]) hr (by rw [h1]; rfl) h, h2⟩
set_option maxRecDepth 100000 in
set_option maxHeartbeats 4000000 in
theorem index_loop (v : List Int) (hv : v.length < 2 ^ 62) (M : Int) (h : Heap) (Q : Out → Prop) : ∀ (n i : Nat) (sl : List (Nat × AV)), i + n = v.length → (∃ x, i ≤ x ∧ x < v.length ∧ nth 0 v x = M) →
    getS sl (.tup []) 0 = .lst (ints v) → getS sl (.tup []) 1 = .int .i64 M → getS sl (.tup []) 7 = .int .i64 v.length → getS sl (.tup []) 8 = .int .i64 i →
    (∀ sl' (x : Nat), x < v.length → nth 0 v x = M → getS sl' (.tup []) 4 = .int .i64 x → Q (.ret ⟨19, .tup [], sl', []⟩ h)) →
    Gives (loopL env (lp Tryz.f33 0) ⟨19, .tup [], sl, []⟩ h) Q := by
  intro n
  induction n with
  | zero =>
    intro i sl hi hx
    obtain ⟨x, h1, h2, _⟩ := hx
    omega
  | succ n ih =>
    intro i sl hi hx g0 g1 g7 g8 q
    refine gives_loop ?_
    by_cases hc : M = nth 0 v i
    · simp (disch := omega) [lp, Tryz.f33, loops, g0, g1, g7, g8, decT, index_ints, ← hc]
      exact q _ i (by omega) hc.symm (by simp)
    · simp (disch := omega) [lp, Tryz.f33, loops, g0, g1, g7, g8, decT, wrapI, index_ints, hc]
      refine ih (i + 1) _ (by omega) ?_ ?_ ?_ ?_ ?_ q
      · obtain ⟨x, h1, h2, h3⟩ := hx
        refine ⟨x, ?_, h2, h3⟩
        by_cases he : x = i
        · subst he; exact absurd h3.symm hc
        · omega
      · simp [g0]
      · simp [g1]
      · simp [g7]
      · simp
set_option maxRecDepth 100000 in
set_option maxHeartbeats 4000000 in
theorem index_ok (v : List Int) (hv : v.length < 2 ^ 62) (M : Int) (hx : ∃ x, x < v.length ∧ nth 0 v x = M) : Gives (callL env 33 [.lst (ints v), .int .i64 M] []) fun r => ∃ x : Nat, r.1 = .int .i64 x ∧ x < v.length ∧ nth 0 v x = M := by
  apply gives_call
  simp (disch := omega) [Tryz.f33]
  generalize hx : loopL env _ _ _ = L
  apply gives_cut hx
  clear hx
  obtain ⟨x, h1, h2⟩ := hx
  refine index_loop v hv M _ _ v.length 0 _ (by omega) ⟨x, by omega, h1, h2⟩ ?_ ?_ ?_ ?_ (fun sl' y h3 h4 h5 => ?_)
  · simp
  · simp
  · simp
  · simp
  · simp [h5]
    exact ⟨y, rfl, h3, h4⟩
theorem c33 (v : List Int) (hv : v.length < 2 ^ 62) (M : Int) (hx : ∃ x, x < v.length ∧ nth 0 v x = M) : ∃ x : Nat, (∀ h, callN env (callL env) 33 [.lst (ints v), .int .i64 M] h = some (.int .i64 x, h)) ∧ x < v.length ∧ nth 0 v x = M := by
  obtain ⟨r, hr, x, h1, h2⟩ := gives_iff.1 (index_ok v hv M hx)
  exact ⟨x, fun h => callE rfl (by simp [closed?, depth]) hr (by rw [h1]; rfl) h, h2⟩
end Rival

/- TopRival: slices.Reverse. -/
open Go Go.Proofs Go.Abs
namespace Rival
/-- A list whose first and last i elements have changed places. -/
def revU (c : List Int) (i : Nat) : List Int := (List.range c.length).map fun k => if k < i ∨ c.length - i ≤ k then nth 0 c (c.length - 1 - k) else nth 0 c k
theorem revU_length (c : List Int) (i : Nat) : (revU c i).length = c.length := by simp [revU]
attribute [simp] revU_length
theorem revU_nth (c : List Int) (i k : Nat) (hk : k < c.length) : nth 0 (revU c i) k = if k < i ∨ c.length - i ≤ k then nth 0 c (c.length - 1 - k) else nth 0 c k := by
  simp [revU, nth_getD, List.getD_eq_getElem?_getD, hk]
theorem revU_zero (c : List Int) : revU c 0 = c := by
  refine ext_nth 0 (by simp) fun k hk => ?_
  simp at hk
  rw [revU_nth _ _ _ hk, if_neg (by omega)]
theorem revU_last (c : List Int) (i : Nat) (h : c.length ≤ 2 * i + 1) : revU c i = c.reverse := by
  refine ext_nth 0 (by simp) fun k hk => ?_
  simp at hk
  have e : nth 0 c.reverse k = nth 0 c (c.length - 1 - k) := by
    simp only [nth_getD, List.getD_eq_getElem?_getD]
    rw [List.getElem?_reverse hk]
  rw [revU_nth _ _ _ hk, e]
  split
  · rfl
  · congr 1; omega
theorem revU_swap (c : List Int) (i : Nat) (h : 2 * i + 1 < c.length) : ((revU c i).set i (nth 0 (revU c i) (c.length - 1 - i))).set (c.length - 1 - i) (nth 0 (revU c i) i) = revU c (i + 1) := by
  refine ext_nth 0 (by simp) fun k hk => ?_
  simp at hk
  rw [nth_set _ _ _ _ _ (by simp; omega), nth_set _ _ _ _ _ (by simp; omega)]
  simp only [revU_nth c _ _ hk, revU_nth c i i (by omega), revU_nth c i (c.length - 1 - i) (by omega)]
  by_cases h1 : k = c.length - 1 - i
  · subst h1
    rw [if_pos rfl, if_neg (by omega), if_pos (by omega)]
    congr 1; omega
  · rw [if_neg h1]
    by_cases h2 : k = i
    · subst h2
      rw [if_pos rfl, if_neg (by omega), if_pos (by omega)]
    · rw [if_neg h2]
      by_cases h3 : k < i ∨ c.length - i ≤ k
      · rw [if_pos h3, if_pos (by omega)]
      · rw [if_neg h3, if_neg (by omega)]
theorem pl35_0 : plainD env (dr Tryz.f35 0) = true := by kernel_rfl
set_option maxRecDepth 100000 in
set_option maxHeartbeats 4000000 in
theorem rev_loop (c : List Int) (hc : c.length < 2 ^ 62) (H : Heap) (b : Nat) (hb : b < H.length) (Q : Out → Prop) : ∀ (n i : Nat) (sl : List (Nat × AV)), c.length ≤ 2 * (i + n) →
    getS sl (.tup []) 0 = .ref b c.length 0 c.length → getS sl (.tup []) 2 = .int .i64 i → getS sl (.tup []) 3 = .int .i64 (c.length - 1 - i) →
    (∀ sl', Q (.exit 0 ⟨28, .tup [], sl', []⟩ (H.set b (.row false 1 (ints c.reverse))))) →
    Gives (loopL env (lp Tryz.f35 0) ⟨28, .tup [], sl, []⟩ (H.set b (.row false 1 (ints (revU c i))))) Q := by
  have p := pl35_0
  simp [dr, drs, Tryz.f35] at p
  intro n
  induction n with
  | zero =>
    intro i sl hi g0 g2 g3 q
    refine gives_loop ?_
    have h1 : decide ((i : Int) < (c.length : Int) - 1 - i) = false := decF (by omega)
    simp (disch := omega) [lp, Tryz.f35, loops, g0, g2, g3, h1, revU_last]
    exact q _
  | succ n ih =>
    intro i sl hi g0 g2 g3 q
    refine gives_loop ?_
    by_cases h : 2 * i + 1 < c.length
    · have hj : (c.length : Int) - 1 - i = ((c.length - 1 - i : Nat) : Int) := by omega
      rw [hj] at g3
      have sw := revU_swap c i h
      have l1 : ∀ u : List Int, u.length = c.length → (ints u).length = c.length := fun u hu => by simp [hu]
      have gb : ∀ v, (H.set b v)[b]? = some v := fun v => by rw [List.getElem?_set_self hb]
      have en1 := nthIs (v := revU c i) (i := i) (by simp; omega)
      have en2 := nthIs (v := revU c i) (i := c.length - 1 - i) (by simp; omega)
      have en3 := nthIs (v := (revU c i).set i (nth 0 (revU c i) (c.length - 1 - i))) (i := c.length - 1 - i) (by simp; omega)
      have hlt : ((i : Int) < ((c.length - 1 - i : Nat) : Int)) := by omega
      have eih := ih (i + 1)
      generalize hJ : c.length - 1 - i = J at *
      have hJ1 : ((J : Int) - 1) = (c.length : Int) - 1 - ((i + 1 : Nat) : Int) := by omega
      have L1 := l1 (revU c i) (by simp)
      have L2 := l1 ((revU c i).set i (nth 0 (revU c i) J)) (by simp)
      simp (disch := omega) [lp, Tryz.f35, loops, g0, g2, g3, decT, wrapI, regionD_plain p, ix25 (gb _) L1, ix25 (gb _) L2, gb, L1, L2, en1, en2, en3, ints_set, sw, -getElem?_pos]
      rw [hJ1]
      refine eih _ (by omega) ?_ ?_ ?_ q
      · simp [g0]
      · simp
      · simp
    · have h1 : decide ((i : Int) < (c.length : Int) - 1 - i) = false := decF (by omega)
      simp (disch := omega) [lp, Tryz.f35, loops, g0, g2, g3, h1, revU_last]
      exact q _
set_option maxRecDepth 100000 in
set_option maxHeartbeats 4000000 in
theorem c35 (c : List Int) (hc : c.length < 2 ^ 62) (H : Heap) (b : Nat) (hb : H[b]? = some (.row false 1 (ints c))) : callN env (callL env) 35 [.ref b c.length 0 c.length] H = some (.tup [], H.set b (.row false 1 (ints c.reverse))) := by
  have hlt : b < H.length := (List.getElem?_eq_some_iff.1 hb).1
  have he : H = H.set b (.row false 1 (ints (revU c 0))) := by
    rw [revU_zero]
    apply List.ext_getElem (by simp)
    intro i h1 h2
    rw [List.getElem_set]
    split
    · rename_i e; subst e
      rw [List.getElem?_eq_getElem h1] at hb
      simpa using hb
    · rfl
  have hg : Gives (callL env 35 [.ref b c.length 0 c.length] H) fun r => r = (.tup [], H.set b (.row false 1 (ints c.reverse))) := by
    apply gives_call
    simp (disch := omega) [Tryz.f35, wrapI]
    generalize hx : loopL env _ _ _ = L
    apply gives_cut hx
    clear hx
    conv => arg 1; arg 4; rw [he]
    refine rev_loop c hc H b hlt _ c.length 0 _ (by omega) ?_ ?_ ?_ (fun sl' => ?_)
    · simp
    · simp
    · simp
    · simp
  obtain ⟨r, hr, h1⟩ := gives_iff.1 hg
  subst h1
  exact hr
end Rival

/- TopRival: leastcode.Witness. -/
open Go Go.Proofs Go.Abs
namespace Rival
theorem pl15_0 : plainD env (dr Tryz.f15 0) = true := by kernel_rfl
theorem app25 (h : Heap) (p b n : Nat) (ins : Heap → Ent → Heap) (x : AV) : appendA env 25 25 h p ins (.ref b n 0 n) x = (newsA h 1 x).bind fun new => appR 1 8 h b n new := append_ref k25 ((envti 3).trans ti3) (by decide) h p b n ins x
theorem app33 (h : Heap) (p b n : Nat) (ins : Heap → Ent → Heap) (x : AV) : appendA env 33 33 h p ins (.ref b n 0 n) x = (newsA h 1 x).bind fun new => appR 1 24 h b n new := append_ref k33 ((envti 25).trans ti25) (by decide) h p b n ins x
theorem app39 (h : Heap) (p b n : Nat) (ins : Heap → Ent → Heap) (x : AV) : appendA env 39 39 h p ins (.ref b n 0 n) x = (newsA h 1 x).bind fun new => appR 1 1 h b n new := append_ref k39 ((envti 5).trans ti5) (by decide) h p b n ins x
/-- x asks for the base of y. -/
def Asks (l : List It) (v : List Int) (x y : Nat) : Prop := x < l.length ∧ 0 < kindV l x y ∧ nth 0 v x + kindV l x y / 2 = baseV l v y
set_option maxRecDepth 100000 in
set_option maxHeartbeats 4000000 in
/-- The search for an item that asks for the base of y. -/
theorem ask_loop (l : List It) (hl : l.length ≤ 96) (v bs : List Int) (hv : v.length = l.length) (hb : bs.length = l.length) (hbv : ∀ y, y < l.length → nth 0 bs y = baseV l v y) (hr : ∀ k, 0 ≤ nth 0 v k ∧ nth 0 v k ≤ 4095) (y : Nat) (hy : y < l.length) (h : Heap) (Q : Out → Prop) : ∀ (n i : Nat) (sl : List (Nat × AV)), i + n = l.length → (∃ x, i ≤ x ∧ Asks l v x y) →
    getS sl (.tup []) 5 = .lst (tabV (kTab l)) → getS sl (.tup []) 6 = .lst (ints bs) → getS sl (.tup []) 7 = .lst (ints v) → getS sl (.tup []) 9 = .int .i64 y → getS sl (.tup []) 45 = .int .i64 l.length → getS sl (.tup []) 46 = .int .i64 i →
    (∀ sl' x, Asks l v x y → Keep [2, 5, 6, 7, 10] sl sl' → getS sl' (.tup []) 9 = .int .i64 x → Q (.exit 2 ⟨81, .tup [], sl', []⟩ h)) →
    Gives (loopL env (lp Tryz.f15 1) ⟨81, .tup [], sl, []⟩ h) Q := by
  have p := pl15_0
  simp [dr, drs, Tryz.f15] at p
  intro n
  induction n with
  | zero =>
    intro i sl hi hx
    obtain ⟨x, h1, h2, _⟩ := hx
    omega
  | succ n ih =>
    intro i sl hi hx g5 g6 g7 g9 g45 g46 q
    refine gives_loop ?_
    have r1 := fun h => index_ktab l i h (by omega)
    have r2 := fun h => index_krow l i y h hy
    have hk := kind_cases l i y
    have hri := hr i
    have hby := hbv y hy
    have hA : Asks l v i y ↔ (0 < kindV l i y ∧ nth 0 v i + kindV l i y / 2 = baseV l v y) := ⟨fun h => h.2, fun h => ⟨by omega, h⟩⟩
    generalize kindV l i y = k at r2 hk hA
    by_cases hk0 : 0 < k
    · have em : nth 0 v i + k - 1 = nth 0 v i + k / 2 := by omega
      by_cases he : nth 0 v i + k / 2 = nth 0 bs y
      · have he' : decide (nth 0 v i + k / 2 = nth 0 bs y) = true := decT he
        simp (disch := omega) [lp, Tryz.f15, loops, g5, g6, g7, g9, g45, g46, decT, wrapI, r1, r2, hk0, regionD_plain p, index_ints, em, he]
        refine q _ i (hA.2 ⟨hk0, he.trans hby⟩) ?_ ?_
        · repeat (first | exact Keep.refl _ _ | refine Keep.put ?_ (by decide))
        · simp
      · simp (disch := omega) [lp, Tryz.f15, loops, g5, g6, g7, g9, g45, g46, decT, wrapI, r1, r2, hk0, regionD_plain p, index_ints, em, he]
        refine ih (i + 1) _ (by omega) ?_ ?_ ?_ ?_ ?_ ?_ ?_ (fun sl' x h1 h2 h3 => q sl' x h1 (Keep.trans ?_ h2) h3)
        · obtain ⟨x, h1, h2⟩ := hx
          refine ⟨x, ?_, h2⟩
          by_cases hxi : x = i
          · subst hxi; exact absurd ((hA.1 h2).2.trans hby.symm) he
          · omega
        · simp [g5]
        · simp [g6]
        · simp [g7]
        · simp [g9]
        · simp [g45]
        · simp
        · repeat (first | exact Keep.refl _ _ | refine Keep.put ?_ (by decide))
    · simp (disch := omega) [lp, Tryz.f15, loops, g5, g6, g7, g9, g45, g46, decT, wrapI, r1, r2, hk0, regionD_plain p, index_ints]
      refine ih (i + 1) _ (by omega) ?_ ?_ ?_ ?_ ?_ ?_ ?_ (fun sl' x h1 h2 h3 => q sl' x h1 (Keep.trans ?_ h2) h3)
      · obtain ⟨x, h1, h2⟩ := hx
        refine ⟨x, ?_, h2⟩
        by_cases hxi : x = i
        · subst hxi; exact absurd (hA.1 h2).1 hk0
        · omega
      · simp [g5]
      · simp [g6]
      · simp [g7]
      · simp [g9]
      · simp [g45]
      · simp
      · repeat (first | exact Keep.refl _ _ | refine Keep.put ?_ (by decide))
/-- A chain, from its end back. -/
structure Chain (l : List It) (v : List Int) (c : List Nat) (y : Nat) : Prop where
  ne : 0 < c.length
  last : nth 0 c (c.length - 1) = y
  lt : ∀ i, i < c.length → nth 0 c i < l.length
  link : ∀ i, i + 1 < c.length → Asks l v (nth 0 c (i + 1)) (nth 0 c i)
  blk : (c.length : Int) + (nth default l y).b ≤ 32
theorem nth_append {α : Type} (d : α) (a b : List α) (i : Nat) : nth d (a ++ b) i = if i < a.length then nth d a i else nth d b (i - a.length) := by
  simp only [nth_getD, List.getD_eq_getElem?_getD]
  split
  · rw [List.getElem?_append_left (by assumption)]
  · rw [List.getElem?_append_right (by omega)]
theorem Chain.push {l : List It} {v : List Int} {c : List Nat} {y x : Nat} (h : Chain l v c y) (hx : Asks l v x y) : Chain l v (c ++ [x]) x := by
  have hb := (kind_block hx.2.1).1
  have h1 := h.blk
  have hn := h.ne
  have hz : nth 0 [x] 0 = x := rfl
  refine ⟨by simp, ?_, fun i hi => ?_, fun i hi => ?_, by simp; omega⟩
  · rw [nth_append, if_neg (by simp)]; simp
  · simp at hi
    rw [nth_append]
    split
    · exact h.lt i (by assumption)
    · obtain rfl : i = c.length := by omega
      simp [hx.1]
  · simp at hi
    rw [nth_append, nth_append, if_pos (show i < c.length by omega)]
    split
    · exact h.link i (by assumption)
    · obtain rfl : i = c.length - 1 := by omega
      rw [h.last, show c.length - 1 + 1 - c.length = 0 by omega, hz]
      exact hx
set_option maxRecDepth 100000 in
set_option maxHeartbeats 4000000 in
theorem chain_loop (l : List It) (w : Int) (hf : Fine l w) (v bs : List Int) (hv : v.length = l.length) (hb : bs.length = l.length) (hbv : ∀ y, y < l.length → nth 0 bs y = baseV l v y) (hr : ∀ k, 0 ≤ nth 0 v k ∧ nth 0 v k ≤ 4095) (j e1 : Ent) (Q : Out → Prop) : ∀ (n : Nat) (c : List Nat) (y : Nat) (tl : Heap) (sl : List (Nat × AV)), (nth default l y).b < n → Chain l v c y → y < l.length →
    getS sl (.tup []) 5 = .lst (tabV (kTab l)) → getS sl (.tup []) 6 = .lst (ints bs) → getS sl (.tup []) 7 = .lst (ints v) → getS sl (.tup []) 9 = .int .i64 y → getS sl (.tup []) 10 = .ref 2 c.length 0 c.length →
    (∀ sl' c' y' tl', Chain l v (c ++ c') y' → y' < l.length → baseV l v y' = 0 → getS sl' (.tup []) 10 = .ref 2 (c ++ c').length 0 (c ++ c').length → Q (.exit 0 ⟨81, .tup [], sl', []⟩ (j :: e1 :: .row false 1 (ints ((c ++ c').map Int.ofNat)) :: tl'))) →
    Gives (loopL env (lp Tryz.f15 0) ⟨81, .tup [], sl, []⟩ (j :: e1 :: .row false 1 (ints (c.map Int.ofNat)) :: tl)) Q := by
  have hl := hf.len
  intro n
  induction n with
  | zero =>
    intro c y tl sl hn hc hy
    have := hf.item y hy
    simp at hn
    omega
  | succ n ih =>
    intro c y tl sl hn hc hy g5 g6 g7 g9 g10 q
    refine gives_loop ?_
    have hby := hbv y hy
    have h0 := baseV_nonneg l v y
    by_cases hz : 0 < nth 0 bs y
    · have hcl := hc.blk
      have hit := hf.item y hy
      obtain ⟨x, hx1, hx2, hx3⟩ := baseV_hit (show 0 < baseV l v y by omega)
      simp (disch := omega) [lp, Tryz.f15, loops, g5, g6, g7, g9, g10, decT, wrapI, index_ints, hz]
      generalize hx : loopL env _ _ _ = L
      apply gives_cut hx
      clear hx
      refine ask_loop l hl v bs hv hb hbv hr y hy _ _ l.length 0 _ (by omega) ⟨x, by omega, hx1, hx2, hx3⟩ ?_ ?_ ?_ ?_ ?_ ?_ (fun sl' x' h1 h2 h3 => ?_)
      · simp [g5]
      · simp [g6]
      · simp [g7]
      · simp [g9]
      · simp [hv]
      · simp
      · have k5 : getS sl' (.tup []) 5 = .lst (tabV (kTab l)) := h2.get (by simp [g5]) (by simp)
        have k6 : getS sl' (.tup []) 6 = .lst (ints bs) := h2.get (by simp [g6]) (by simp)
        have k7 : getS sl' (.tup []) 7 = .lst (ints v) := h2.get (by simp [g7]) (by simp)
        have k10 : getS sl' (.tup []) 10 = .ref 2 c.length 0 c.length := h2.get (by simp [g10]) (by simp)
        have hb' := (kind_block h1.2.1).1
        simp (disch := omega) [k5, k6, k7, k10, h3, app25]
        have e : c.map Int.ofNat ++ [(x' : Int)] = (c ++ [x']).map Int.ofNat := by simp
        rw [e]
        refine ih (c ++ [x']) x' _ _ (by omega) (hc.push h1) h1.1 ?_ ?_ ?_ ?_ ?_ (fun sl2 c' y' tl' f1 f2 f3 f4 => ?_)
        · simp [k5]
        · simp [k6]
        · simp [k7]
        · simp [h3]
        · simp
        · rw [List.append_assoc] at f1 f4 ⊢
          exact q sl2 ([x'] ++ c') y' tl' f1 f2 f3 f4
    · simp (disch := omega) [lp, Tryz.f15, loops, g5, g6, g7, g9, g10, decT, wrapI, index_ints, hz]
      have q' := fun sl' => q sl' [] y tl (by simpa using hc) hy (by omega)
      simp only [List.append_nil] at q'
      exact q' _ (by simp [g10])
/-- What the witness is: a chain from an item without a base to the greatest code. -/
structure Wit (l : List It) (v : List Int) (c : List Nat) : Prop where
  ne : 0 < c.length
  len : c.length ≤ 32
  lt : ∀ i, i < c.length → nth 0 c i < l.length
  first : baseV l v (nth 0 c 0) = 0
  link : ∀ i, i + 1 < c.length → Asks l v (nth 0 c i) (nth 0 c (i + 1))
  last : ∀ x, x < l.length → nth 0 v x ≤ nth 0 v (nth 0 c (c.length - 1))
theorem Chain.wit {l : List It} {w : Int} (hf : Fine l w) {v : List Int} {c : List Nat} {y : Nat} (h : Chain l v c y) (h0 : baseV l v y = 0) (hy : y < l.length) (hm : ∀ x, x < l.length → nth 0 v x ≤ nth 0 v (nth 0 c 0)) : Wit l v c.reverse := by
  have e : ∀ k, k < c.length → nth 0 c.reverse k = nth 0 c (c.length - 1 - k) := fun k hk => by
    simp only [nth_getD, List.getD_eq_getElem?_getD]
    rw [List.getElem?_reverse hk]
  have hn := h.ne
  have hb := h.blk
  have hi := hf.item y hy
  refine ⟨by simpa using hn, by simp; omega, fun i hi => ?_, ?_, fun i hi => ?_, fun x hx => ?_⟩
  · simp at hi
    rw [e i hi]
    exact h.lt _ (by omega)
  · rw [e 0 hn, Nat.sub_zero, h.last, h0]
  · simp at hi
    rw [e i (by omega), e (i + 1) hi]
    have := h.link (c.length - 1 - (i + 1)) (by omega)
    rwa [show c.length - 1 - (i + 1) + 1 = c.length - 1 - i by omega] at this
  · simp only [List.length_reverse]
    rw [e _ (by omega), show c.length - 1 - (c.length - 1) = 0 by omega]
    exact hm x hx
def witOk (l : List It) (w : Int) (r : AV) : Prop :=
  (vJob l w ≠ 0 ∧ ∃ a, r = .tup [a, .int .i64 (vJob l w)]) ∨
  (vJob l w = 0 ∧ ∃ v, Sol l w v ∧ (∀ k, 0 ≤ nth 0 v k ∧ nth 0 v k ≤ 4095) ∧ ∃ c : List Nat, ((c = [] ∧ l = []) ∨ Wit l v c) ∧ r = .tup [.lst (ints (c.map Int.ofNat)), .int .i64 0]) ∨
  (vJob l w = 0 ∧ (∀ v, ¬ Sol l w v) ∧ ∃ a, r = .tup [a, .int .i64 15])
set_option maxRecDepth 100000 in
set_option maxHeartbeats 4000000 in
theorem wit_ok (l : List It) (w : Int) (hl : l.length < 2 ^ 62) (ho : Ord l (sortL l (List.range l.length))) : Gives (callL env 15 [jobV l w] []) fun r => ∃ v, snap .any depth r.2 r.1 = some v ∧ witOk l w v := by
  apply gives_call
  have c := fun h => c30 l w hl h
  simp only [jobV] at c
  by_cases h0 : vJob l w = 0
  · have hf := fine_of h0
    have c2 := fun h => c32 l w hf.len h
    obtain ⟨v, c3, hv⟩ := c31 l w hf ho
    simp only [jobV] at c2 c3
    have hll := hf.len
    rcases hv with ⟨bs, v, hs, hb, hbv, hr, rfl⟩ | ⟨hn, rfl⟩
    · by_cases hz : l.length = 0
      · have hl0 : l = [] := List.eq_nil_of_length_eq_zero hz
        have hv0 : v.length = 0 := by rw [hs.1, hz]
        simp (disch := omega) [Tryz.f15, jobV, c, h0, c2, c3, hv0]
        exact ⟨_, rfl, .inr (.inl ⟨h0, v, hs, hr, [], .inl ⟨rfl, hl0⟩, rfl⟩)⟩
      · have hv0 : ¬ v = [] := fun h => hz (by rw [← hs.1, h]; rfl)
        have hvl : v.length < 2 ^ 62 := by rw [hs.1]; omega
        obtain ⟨M, c4, hM⟩ := c34 v hvl (by rw [hs.1]; omega)
        obtain ⟨y, c5, hy1, hy2⟩ := c33 v hvl M hM.1
        simp (disch := omega) [Tryz.f15, jobV, c, h0, c2, c3, hv0, c4, c5]
        generalize hx : loopL env _ _ _ = L
        apply gives_cut hx
        clear hx
        have hy : y < l.length := by rw [← hs.1]; exact hy1
        have hit := hf.item y hy
        refine chain_loop l w hf v bs hs.1 hb hbv hr _ _ _ 32 [y] y [] _ (by omega) ⟨by simp, rfl, fun i hi => ?_, fun i hi => ?_, by simp; omega⟩ hy ?_ ?_ ?_ ?_ ?_ (fun sl' c' y' tl' f1 f2 f3 f4 => ?_)
        · obtain rfl : i = 0 := by simpa using hi
          exact hy
        · simp at hi
        · simp
        · simp
        · simp
        · simp
        · simp
        · have hw := f1.wit hf f3 f2 fun x hx => by
            have e0 : nth 0 ([y] ++ c') 0 = y := by simp
            rw [e0, hy2]
            exact hM.2 x (by rw [hs.1]; exact hx)
          have hlen := f1.blk
          have hit' := hf.item y' f2
          generalize [y] ++ c' = cc at f1 f4 hw hlen
          have c6 := c35 (cc.map Int.ofNat) (by simp; omega) (.row false 2 [.agg [.lst (its l), .int .i64 w]] :: .row false 1 [] :: .row false 1 (ints (cc.map Int.ofNat)) :: tl') 2 rfl
          simp only [List.length_map] at c6
          simp [f4, c6]
          refine ⟨_, ?_, .inr (.inl ⟨h0, v, hs, hr, cc.reverse, .inr hw, rfl⟩)⟩
          show (List.mapM (snap .any 11 _) _).map AV.tup = _
          simp only [List.mapM_cons, List.mapM_nil]
          rw [snap_rints (d := 9) (l := (cc.reverse.map Int.ofNat)) (n := cc.length) (by simp) (ro := false) (by simp) (by simp)]
          rfl
    · simp (disch := omega) [Tryz.f15, jobV, c, h0, c2, c3]
      exact ⟨_, rfl, .inr (.inr ⟨h0, hn, _, rfl⟩)⟩
  · simp (disch := omega) [Tryz.f15, jobV, c, h0]
    exact ⟨_, rfl, .inl ⟨h0, _, rfl⟩⟩
theorem c15 (l : List It) (w : Int) (hl : l.length < 2 ^ 62) (ho : Ord l (sortL l (List.range l.length))) : ∃ v, (∀ h, callN env (callL env) 15 [jobV l w] h = some (v, h)) ∧ witOk l w v := by
  obtain ⟨r, hr, v, hv, hR⟩ := gives_iff.1 (wit_ok l w hl ho)
  exact ⟨v, fun h => callF rfl (by simp [Abs.freeze, depth, jobV]) (by simp [snap, depth, jobV]) hr hv, hR⟩
end Rival

/- TopRival: certificate.Make. -/
open Go Go.Proofs Go.Abs
namespace Rival
theorem Sol.unique {l : List It} {w : Int} (hf : Fine l w) {v v' : List Int} (h : Sol l w v) (h' : Sol l w v') : v = v' := by
  have key : ∀ (n : Nat) (y : Nat), y < l.length → (nth default l y).b < n → nth 0 v y = nth 0 v' y := by
    intro n
    induction n with
    | zero =>
      intro y hy hb
      have := hf.item y hy
      simp at hb
      omega
    | succ n ih =>
      intro y hy hb
      have h1 := h.2 y hy
      rw [baseV_congr (v' := v') fun x hx hk => ih x hx (by have := (kind_block hk).1; omega)] at h1
      rw [h'.2 y hy] at h1
      exact (Prod.mk.inj h1).1.symm
  refine ext_nth 0 (by rw [h.1, h'.1]) fun k hk => key 32 k (by rw [← h.1]; exact hk) ?_
  have := hf.item k (by rw [← h.1]; exact hk)
  omega
def proofV (s : Int) (ks c : List Int) : AV := .agg [.int .i64 s, .lst (ints ks), .lst (ints c)]
def makeOk (l : List It) (w : Int) (r : AV) : Prop :=
  (vJob l w ≠ 0 ∧ r = .tup [.agg [.int .i64 0, .nil, .nil], .int .i64 (vJob l w)]) ∨
  (vJob l w = 0 ∧ ∃ v, Sol l w v ∧ (∀ k, 0 ≤ nth 0 v k ∧ nth 0 v k ≤ 4095) ∧ ∃ c : List Nat, ((c = [] ∧ l = []) ∨ Wit l v c) ∧ r = .tup [proofV (mxV v) v (c.map Int.ofNat), .int .i64 0]) ∨
  (vJob l w = 0 ∧ (∀ v, ¬ Sol l w v) ∧ r = .tup [.agg [.int .i64 0, .nil, .nil], .int .i64 15])
set_option maxRecDepth 100000 in
set_option maxHeartbeats 4000000 in
theorem make_ok (l : List It) (w : Int) (hl : l.length < 2 ^ 62) (ho : Ord l (sortL l (List.range l.length))) : Gives (callL env 4 [jobV l w] []) fun r => ∃ v, snap .any depth r.2 r.1 = some v ∧ makeOk l w v := by
  apply gives_call
  obtain ⟨p, c, hp⟩ := c14 l w hl ho
  obtain ⟨q, d, hq⟩ := c15 l w hl ho
  simp only [jobV] at c d
  rcases hp with ⟨h0, rfl⟩ | ⟨h0, v, hs, hr, rfl⟩ | ⟨h0, hn, rfl⟩
  · simp (disch := omega) [Tryz.f4, jobV, c, h0]
    exact ⟨_, rfl, .inl ⟨h0, rfl⟩⟩
  · rcases hq with ⟨h1, b, rfl⟩ | ⟨h1, v', hs', hr', cc, hc, rfl⟩ | ⟨h1, hn, b, rfl⟩
    · exact absurd h0 h1
    · obtain rfl := hs.unique (fine_of h0) hs'
      simp (disch := omega) [Tryz.f4, jobV, c, d, h0, planV]
      exact ⟨_, rfl, .inr (.inl ⟨h0, v, hs, hr, cc, hc, rfl⟩)⟩
    · exact absurd hs (hn v)
  · simp (disch := omega) [Tryz.f4, jobV, c, h0]
    exact ⟨_, rfl, .inr (.inr ⟨h0, hn, rfl⟩)⟩
theorem c4 (l : List It) (w : Int) (hl : l.length < 2 ^ 62) (ho : Ord l (sortL l (List.range l.length))) : ∃ v, (∀ h, callN env (callL env) 4 [jobV l w] h = some (v, h)) ∧ makeOk l w v := by
  obtain ⟨r, hr, v, hv, hR⟩ := gives_iff.1 (make_ok l w hl ho)
  exact ⟨v, fun h => callF rfl (by simp [Abs.freeze, depth, jobV]) (by simp [snap, depth, jobV]) hr hv, hR⟩
end Rival
