/- TopHeard: costs, groups, words that are unpacked. -/
import Derived.Test.YtoechcjloppghaaGreatHB
open Go Go.Proofs Go.Abs
namespace Heard
def cst (e : Nat) : Int := nth 0 [0, 3, 4, 4, 4] e
theorem c21 (a b : List Int) (h : Heap) : callN env (callL env) 21 [.lst (ints a), .lst (ints b)] h = some (.bool (decide (96 < a.length) || decide (96 < b.length)), h) := by
  have := long_ok (ints a) (ints b)
  simp only [ints_length] at this
  exact callE rfl (by simp [closed?, depth]) this rfl h
theorem c23 (a b : List Int) (i j e : Nat) (ha : a.length ≤ 96) (hb : b.length ≤ 96) (hi : i ≤ a.length) (hj : j ≤ b.length) (he : e < 5) (h : Heap) :
    callN env (callL env) 23 [.lst (ints a), .lst (ints b), .int .i64 i, .int .i64 j, .int .i64 e] h = some (.tup [.int .i64 (stepP a b i j e).1, .int .i64 (stepP a b i j e).2.1, .bool (stepP a b i j e).2.2], h) := by
  obtain ⟨r, hr, h1⟩ := gives_iff.1 (step_ok a b i j e ha hb hi hj he)
  exact callE rfl (by simp [closed?, depth]) hr (by rw [h1]; rfl) h
theorem c24 (e : Nat) (he : e < 5) (h : Heap) : callN env (callL env) 24 [.int .i64 e] h = some (.int .i64 (cst e), h) := by
  have h1 := cost_ok e (by omega) (by omega) []
  have h2 : ([0, 3, 4, 4, 4] : List Int).getD (e : Int).toNat 0 = cst e := by
    match e, he with
    | 0, _ | 1, _ | 2, _ | 3, _ | 4, _ => rfl
  rw [h2] at h1
  exact callE rfl (by simp [closed?, depth]) h1 rfl h
theorem cst_le (e : Nat) (he : e < 5) : 0 ≤ cst e ∧ cst e ≤ 4 := by
  match e, he with
  | 0, _ | 1, _ | 2, _ | 3, _ | 4, _ => decide
theorem stepP_le {a b : List Int} {i j e : Nat} (h : (stepP a b i j e).2.2 = true) : (stepP a b i j e).1 ≤ a.length ∧ (stepP a b i j e).2.1 ≤ b.length ∨ ¬ (i ≤ a.length ∧ j ≤ b.length) := by
  match e with
  | 0 | 1 | 2 | 3 | 4 => simp [stepP] at h ⊢; omega
  | e + 5 => simp [stepP] at h
/-- The way of a script: the place and the cost at its end. -/
def walk (a b : List Int) : List Nat → Nat → Nat → Int → Option (Nat × Nat × Int)
  | [], i, j, s => some (i, j, s)
  | e :: es, i, j, s => if (stepP a b i j e).2.2 = true then walk a b es (stepP a b i j e).1 (stepP a b i j e).2.1 (s + cst e) else none
def nats' (l : List Nat) : List Int := l.map (fun (n : Nat) => (n : Int))
theorem nth_nats' (l : List Nat) (k e : Nat) (h : l.drop k = e :: l.drop (k + 1)) : nth 0 (nats' l) k = e := by
  rw [nth_getD, List.getD_eq_getElem?_getD]
  have : l[k]? = some e := by
    have := congrArg (·[0]?) h
    simpa using this
  simp [nats', this]
set_option maxHeartbeats 2000000 in
set_option maxRecDepth 100000 in
theorem cost_loop (h : Heap) (a b : List Int) (l : List Nat) (ha : a.length ≤ 96) (hb : b.length ≤ 96) (hl : l.length < 2 ^ 20) (h5 : ∀ e ∈ l, e < 5) (Q : Out → Prop) : ∀ (r : List Nat) (k i j : Nat) (s : Int) (sl : List (Nat × AV)), k + r.length = l.length → l.drop k = r → i ≤ a.length → j ≤ b.length → 0 ≤ s → s ≤ 4 * k →
    getS sl (.tup []) 0 = .lst (ints a) → getS sl (.tup []) 1 = .lst (ints b) → getS sl (.tup []) 8 = .int .i64 i → getS sl (.tup []) 9 = .int .i64 j → getS sl (.tup []) 10 = .int .i64 s → getS sl (.tup []) 19 = .lst (ints (nats' l)) → getS sl (.tup []) 20 = .int .i64 l.length → getS sl (.tup []) 21 = .int .i64 k →
    (∀ sl' i' j' s', walk a b r i j s = some (i', j', s') → getS sl' (.tup []) 0 = .lst (ints a) → getS sl' (.tup []) 1 = .lst (ints b) → getS sl' (.tup []) 8 = .int .i64 (i' : Nat) → getS sl' (.tup []) 9 = .int .i64 (j' : Nat) → getS sl' (.tup []) 10 = .int .i64 s' → Q (.exit 0 ⟨55, .tup [], sl', []⟩ h)) →
    (∀ sl', walk a b r i j s = none → getS sl' (.tup []) 6 = .int .i64 0 → getS sl' (.tup []) 7 = .int .i64 1 → Q (.ret ⟨55, .tup [], sl', []⟩ h)) →
    Gives (loopL env (lp Tryz.f11 0) ⟨55, .tup [], sl, []⟩ h) Q := by
  have hnl : (nats' l).length = l.length := by simp [nats']
  intro r
  induction r with
  | nil =>
    intro k i j s sl hk hr hi hj hs0 hs g0 g1 g8 g9 g10 g19 g20 g21 q1 q2
    refine gives_loop ?_
    simp only [List.length_nil] at hk
    simp (disch := omega) [lp, Tryz.f11, loops, g20, g21, decF]
    exact q1 _ i j s rfl (by simp [g0]) (by simp [g1]) (by simp [g8]) (by simp [g9]) (by simp [g10])
  | cons e r ih =>
    intro k i j s sl hk hr hi hj hs0 hs g0 g1 g8 g9 g10 g19 g20 g21 q1 q2
    simp only [List.length_cons] at hk
    have hr' : l.drop (k + 1) = r := by rw [← List.drop_drop, hr]; rfl
    have hn := nth_nats' l k e (by rw [hr', hr])
    have he : e < 5 := h5 e (by rw [← List.take_append_drop k l, hr]; simp)
    have c1 := c23 a b i j e ha hb hi hj he
    have c2 := c24 e he
    have hc := cst_le e he
    have hst := stepP_le (a := a) (b := b) (i := i) (j := j) (e := e)
    unfold walk at q1 q2
    generalize stepP a b i j e = st at *
    generalize cst e = ce at *
    refine gives_loop ?_
    cases hok : st.2.2
    · simp (disch := omega) [lp, Tryz.f11, loops, g0, g1, g8, g9, g10, g19, g20, g21, decT, index_ints, hnl, hn, c1, hok]
      exact q2 _ (by simp [hok]) (by simp) (by simp)
    · simp (disch := omega) [lp, Tryz.f11, loops, g0, g1, g8, g9, g10, g19, g20, g21, decT, index_ints, hnl, hn, c1, c2, hok, wrapI]
      have hle := hst hok
      refine ih (k + 1) st.1 st.2.1 (s + ce) _ (by omega) hr' (by omega) (by omega) (by omega) (by omega) (by simp [g0]) (by simp [g1]) (by simp) (by simp) (by simp) (by simp [g19]) (by simp [g20]) (by simp) (fun sl' i' j' s' hw => q1 sl' i' j' s' (by simpa [hok] using hw)) (fun sl' hw => q2 sl' (by simpa [hok] using hw))
set_option maxHeartbeats 2000000 in
set_option maxRecDepth 100000 in
theorem costS_ok (a b : List Int) (l : List Nat) (s : Int) (ha : a.length ≤ 96) (hb : b.length ≤ 96) (hl : l.length < 2 ^ 20) (h5 : ∀ e ∈ l, e < 5) (hw : walk a b l 0 0 0 = some (a.length, b.length, s)) :
    Gives (callL env 11 [.lst (ints a), .lst (ints b), .lst (ints (nats' l))] []) fun r => r.1 = .tup [.int .i64 s, .int .i64 0] := by
  have hnl : (nats' l).length = l.length := by simp [nats']
  apply gives_call
  have e1 : decide (96 < a.length) = false := decF (by omega)
  have e2 : decide (96 < b.length) = false := decF (by omega)
  simp (disch := omega) [Tryz.f11, c21, e1, e2, hnl]
  generalize hx : loopL env _ _ _ = L
  apply gives_cut hx
  refine cost_loop _ a b l ha hb hl h5 _ l 0 0 0 0 _ (by omega) rfl (by omega) (by omega) (by omega) (by omega) (by simp) (by simp) (by simp) (by simp) (by simp) (by simp) (by simp) (by simp) (fun sl' i' j' s' h g0 g1 g8 g9 g10 => ?_) (fun sl' h => ?_)
  · rw [hw] at h
    simp only [Option.some.injEq, Prod.mk.injEq] at h
    obtain ⟨rfl, rfl, rfl⟩ := h
    simp (disch := omega) [g0, g1, g8, g9, g10]
  · rw [hw] at h; cases h
end Heard

open Go Go.Proofs Go.Abs
namespace Heard
theorem mem_nth {α : Type} (d : α) (l : List α) (i : Nat) (h : i < l.length) : nth d l i ∈ l := by
  rw [nth_getD, List.getD_eq_getElem?_getD, List.getElem?_eq_getElem h]; simp
/-- Do two lists agree from a place on? -/
def sameN (a b : List Pu) : Nat → Nat → Bool
  | 0, _ => true
  | k + 1, i => if nth default a i = nth default b i then sameN a b k (i + 1) else false
def sameP (a b : List Pu) : Bool := if a.length = b.length then sameN a b a.length 0 else false
theorem eq_pu (p q : Pu) : eqA env 20 35 p.av q.av = some (decide (p = q)) := by
  obtain ⟨d, t, r⟩ := p
  obtain ⟨d', t', r'⟩ := q
  unfold eqA
  have e1 : ∀ x y : Int, eqA env 19 3 (.int .i64 x) (.int .i64 y) = some (decide (x = y)) := fun x y => by
    unfold eqA
    simp [beqInt]
  simp [Pu.av, eqFs, isAggT, e1]
  by_cases h1 : d = d' <;> simp [h1]
  by_cases h2 : t = t' <;> simp [h2]
  by_cases h3 : r = r' <;> simp [h3]
theorem bin_neq_pu (p q : Pu) : binA env .neq 35 p.av q.av = some (.bool (!decide (p = q))) := by
  have h1 : binA env .neq 35 p.av q.av = (eqA env 20 35 p.av q.av).map fun b => .bool !b := rfl
  rw [h1, eq_pu]; rfl
theorem pl7_0 : plainD env (dr Tryz.f7 0) = true := by kernel_rfl
set_option maxHeartbeats 2000000 in
set_option maxRecDepth 100000 in
theorem same_loop (h : Heap) (a b : List Pu) (hl : a.length < 2 ^ 40) (hab : a.length = b.length) (Q : Out → Prop) : ∀ (k i : Nat) (sl : List (Nat × AV)), i + k = a.length → getS sl (.tup []) 0 = .lst (puls a) → getS sl (.tup []) 1 = .lst (puls b) → getS sl (.tup []) 5 = .int .i64 i →
    (∀ sl', sameN a b k i = true → Q (.exit 0 ⟨26, .tup [], sl', []⟩ h)) → (∀ sl', sameN a b k i = false → getS sl' (.tup []) 4 = .bool false → Q (.ret ⟨26, .tup [], sl', []⟩ h)) →
    Gives (loopL env (lp Tryz.f7 0) ⟨26, .tup [], sl, []⟩ h) Q := by
  have p := pl7_0
  simp [dr, drs, Tryz.f7] at p
  intro k
  induction k with
  | zero =>
    intro i sl hi h0 h1 h5 q1 q2
    refine gives_loop ?_
    simp (disch := omega) [lp, Tryz.f7, loops, h0, h5, decF]
    exact q1 _ rfl
  | succ k ih =>
    intro i sl hi h0 h1 h5 q1 q2
    refine gives_loop ?_
    by_cases heq : nth default a i = nth default b i
    · simp (disch := omega) [lp, Tryz.f7, loops, h0, h1, h5, decT, index_puls, regionD_plain p, bin_neq_pu, heq, wrapI]
      exact ih (i + 1) _ (by omega) (by simp [h0]) (by simp [h1]) (by simp) (fun sl' h => q1 sl' (by simp [sameN, heq, h])) (fun sl' h => q2 sl' (by simp [sameN, heq, h]))
    · simp (disch := omega) [lp, Tryz.f7, loops, h0, h1, h5, decT, index_puls, regionD_plain p, bin_neq_pu, heq]
      exact q2 _ (by simp [sameN, heq]) (by simp)
set_option maxHeartbeats 2000000 in
set_option maxRecDepth 100000 in
theorem same_ok (a b : List Pu) (ha : a.length < 2 ^ 40)  : Gives (callL env 7 [.lst (puls a), .lst (puls b)] []) fun r => r.1 = .bool (sameP a b) := by
  apply gives_call
  by_cases hab : a.length = b.length
  · have e1 : (a.length : Int) = b.length := by omega
    simp (disch := omega) [Tryz.f7, hab]
    generalize hx : loopL env _ _ _ = L
    apply gives_cut hx
    refine same_loop _ a b ha hab _ a.length 0 _ (by omega) (by simp) (by simp) (by simp) (fun sl' h => ?_) (fun sl' h h4 => ?_)
    · simp [sameP, hab ▸ h, hab]
    · simp [sameP, hab ▸ h, hab, h4]
  · have e1 : ¬ (a.length : Int) = b.length := by omega
    simp (disch := omega) [Tryz.f7, e1, sameP, hab]
/-- The number of pulses of the group at the beginning. -/
def grpN (l : List Pu) : Nat → Nat → Nat
  | 0, n => n
  | k + 1, n => if n < l.length ∧ n < 8 ∧ (nth default l n).t - (nth default l (n - 1)).t ≤ 1023 then grpN l k (n + 1) else n
theorem pl15_0 : plainD env (dr Tryz.f15 0) = true := by kernel_rfl
set_option maxHeartbeats 2000000 in
set_option maxRecDepth 100000 in
theorem group_loop (h : Heap) (l : List Pu) (hl : l.length < 2 ^ 40) (ht : ∀ p ∈ l, 0 ≤ p.t ∧ p.t ≤ 1000000000) (Q : Out → Prop) : ∀ (k n : Nat) (sl : List (Nat × AV)), n + k = 9 → 1 ≤ n → n ≤ 8 → getS sl (.tup []) 0 = .lst (puls l) → getS sl (.tup []) 3 = .int .i64 n →
    (∀ sl', getS sl' (.tup []) 3 = .int .i64 (grpN l k n) → Q (.exit 0 ⟨30, .tup [], sl', []⟩ h)) →
    Gives (loopL env (lp Tryz.f15 0) ⟨30, .tup [], sl, []⟩ h) Q := by
  have p := pl15_0
  simp [dr, drs, Tryz.f15] at p
  intro k
  induction k with
  | zero =>
    intro n sl hn h1 h8 g0 g3 q1
    omega
  | succ k ih =>
    intro n sl hn h1 h8 g0 g3 q1
    refine gives_loop ?_
    by_cases c1 : n < l.length
    case neg =>
      simp (disch := omega) [lp, Tryz.f15, loops, g0, g3, c1, decT, decF, regionD_plain p]
      exact q1 _ (by simp [grpN, g3, c1])
    by_cases c2 : n < 8
    case neg =>
      simp (disch := omega) [lp, Tryz.f15, loops, g0, g3, c1, c2, decT, decF, regionD_plain p]
      exact q1 _ (by simp [grpN, g3, c2])
    have e1 : ((n : Int) - 1).toNat = n - 1 := by omega
    have t1 := ht _ (mem_nth default l n c1)
    have t2 := ht _ (mem_nth default l (n - 1) (by omega))
    by_cases c3 : (nth default l n).t - (nth default l (n - 1)).t ≤ 1023
    · simp (disch := omega) [lp, Tryz.f15, loops, g0, g3, c1, c2, c3, decT, decF, regionD_plain p, index_puls, wrapI, e1]
      exact ih (n + 1) _ (by omega) (by omega) (by omega) (by simp [g0]) (by simp) (fun sl' h => q1 sl' (by simp [grpN, c1, c2, c3, h]))
    · simp (disch := omega) [lp, Tryz.f15, loops, g0, g3, c1, c2, c3, decT, decF, regionD_plain p, index_puls, wrapI, e1]
      exact q1 _ (by simp [grpN, g3, c3])
set_option maxHeartbeats 2000000 in
set_option maxRecDepth 100000 in
theorem group_ok (l : List Pu) (hl : l.length < 2 ^ 40) (ht : ∀ p ∈ l, 0 ≤ p.t ∧ p.t ≤ 1000000000) : Gives (callL env 15 [.lst (puls l)] []) fun r => r.1 = .int .i64 (grpN l 8 1) := by
  apply gives_call
  simp (disch := omega) [Tryz.f15]
  generalize hx : loopL env _ _ _ = L
  apply gives_cut hx
  refine group_loop _ l hl ht _ 8 1 _ (by omega) (by omega) (by omega) (by simp) (by simp) (fun sl' h => ?_)
  simp [h]
end Heard

open Go Go.Proofs Go.Abs
namespace Heard
def w2 (bs : List Nat) (i : Nat) : Nat := nth 0 bs i * 256 + nth 0 bs (i + 1)
/-- The value of a word; -1 if it is lost. -/
def decV (w : Nat) : Int := if (decN w).2.2 = 0 then (decN w).1 else -1
/-- The values of the words from a place on. -/
def unp (bs : List Nat) : Nat → Nat → List Int
  | 0, _ => []
  | k + 1, i => decV (w2 bs i) :: unp bs k (i + 2)
theorem or_bytes (x y : Nat) (hx : x < 256) (hy : y < 256) : binA env .or 3 (.int .i64 ((x <<< 8 : Nat) : Int)) (.int .i64 y) = some (.int .i64 ((x * 256 + y : Nat) : Int)) := by
  rw [bin_orN 3 _ y (by rw [Nat.shiftLeft_eq]; omega) (by omega), ← Nat.shiftLeft_add_eq_or_of_lt (by omega : y < 2 ^ 8), Nat.shiftLeft_eq]
theorem shl8 (x : Nat) (hx : x < 256) (k' : IntKind) : binA env .shl 3 (.int .i64 x) (.int k' 8) = some (.int .i64 ((x <<< 8 : Nat) : Int)) := by
  rw [bin_shl, ← bin_shl (E := env) 3 .i64 x 8 .i64]
  exact bin_shlN 3 x 8 (by rw [Nat.shiftLeft_eq]; omega) (by omega)
theorem pl18_0 : plainD env (dr Tryz.f18 0) = true := by kernel_rfl
set_option maxHeartbeats 2000000 in
set_option maxRecDepth 100000 in
theorem unpack_loop (r0 r1 : Ent) (bs : List Nat) (hl : bs.length ≤ 131072) (hb : ∀ x ∈ bs, x < 256) (Q : Out → Prop) : ∀ (k i : Nat) (sl : List (Nat × AV)) (vs ls : List Int) (tail : Heap), i + 2 * k = bs.length → vs.length ≤ i → ls.length ≤ i →
    getS sl (.tup []) 0 = .lst (byts bs) → getS sl (.tup []) 5 = .ref 2 vs.length 0 vs.length → getS sl (.tup []) 6 = .ref 3 ls.length 0 ls.length → getS sl (.tup []) 7 = .int .i64 i →
    (∀ sl' ls' tail', getS sl' (.tup []) 5 = .ref 2 (vs ++ unp bs k i).length 0 (vs ++ unp bs k i).length → getS sl' (.tup []) 6 = .ref 3 ls'.length 0 ls'.length → Q (.exit 0 ⟨55, .tup [], sl', []⟩ (r0 :: r1 :: Ent.row false 1 (ints (vs ++ unp bs k i)) :: Ent.row false 1 (ints ls') :: tail'))) →
    Gives (loopL env (lp Tryz.f18 0) ⟨55, .tup [], sl, []⟩ (r0 :: r1 :: Ent.row false 1 (ints vs) :: Ent.row false 1 (ints ls) :: tail)) Q := by
  have p := pl18_0
  simp [dr, drs, Tryz.f18] at p
  intro k
  induction k with
  | zero =>
    intro i sl vs ls tail hi hv hs g0 g5 g6 g7 q1
    refine gives_loop ?_
    simp (disch := omega) [lp, Tryz.f18, loops, g0, g7, decF]
    refine (by simpa [unp] using q1 _ ls tail (by simp [unp, g5]) (by simp [g6]))
  | succ k ih =>
    intro i sl vs ls tail hi hv hs g0 g5 g6 g7 q1
    have x1 := hb _ (mem_nth 0 bs i (by omega))
    have x2 := hb _ (mem_nth 0 bs (i + 1) (by omega))
    have hw : w2 bs i < 65536 := by unfold w2; omega
    have e1 := or_bytes _ _ x1 x2
    have e2 := shl8 _ x1
    have e3 : ((i : Int) + 1).toNat = i + 1 := by omega
    have e4 : nth 0 bs i * 256 + nth 0 bs (i + 1) = w2 bs i := rfl
    rw [e4] at e1
    have c1 := c29 (w2 bs i) hw
    have hu : unp bs (k + 1) i = decV (w2 bs i) :: unp bs k (i + 2) := rfl
    have hd : decV (w2 bs i) = if (decN (w2 bs i)).2.2 = 0 then (decN (w2 bs i)).1 else -1 := rfl
    rw [hu] at q1
    generalize decV (w2 bs i) = dv at *
    generalize w2 bs i = w at *
    generalize decN w = dn at *
    generalize nth 0 bs i <<< 8 = z at *
    refine gives_loop ?_
    by_cases c : dn.2.2 = 0
    · rw [if_pos c] at hd
      simp (disch := omega) [-bin_shl, -bin_or, lp, Tryz.f18, loops, g0, g5, g6, g7, decT, index_byts, regionD_plain p, wrapI, e1, e2, e3, c1, c, ← hd]
      refine ih (i + 2) _ (vs ++ [dv]) ls _ (by omega) (by simp; omega) (by omega) ?_ ?_ ?_ ?_ (fun sl' ls' tail' h5 h6 => ?_)
      · simp [g0]
      · simp
      · simp [g6]
      · simp
      · simpa using q1 sl' ls' tail' (by simpa using h5) h6
    · rw [if_neg c] at hd
      simp (disch := omega) [-bin_shl, -bin_or, lp, Tryz.f18, loops, g0, g5, g6, g7, decT, index_byts, regionD_plain p, wrapI, e1, e2, e3, c1, c]
      subst hd
      refine ih (i + 2) _ (vs ++ [-1]) (ls ++ [(i : Int) / 2]) _ (by omega) (by simp; omega) (by simp; omega) ?_ ?_ ?_ ?_ (fun sl' ls' tail' h5 h6 => ?_)
      · simp [g0]
      · simp
      · simp
      · simp
      · simpa using q1 sl' ls' tail' (by simpa using h5) h6
theorem snap_intsL {m : SM} {d : Nat} {h : Heap} (l : List Int) : (ints l).mapM (snap m (d + 1) h) = some (ints l) := snap_ints (es := ints l) fun e he => by
  obtain ⟨x, _, rfl⟩ := List.mem_map.1 he
  exact ⟨_, _, rfl⟩
theorem snap_pulsL {m : SM} {d : Nat} {h : Heap} : ∀ l : List Pu, (puls l).mapM (snap m (d + 2) h) = some (puls l)
  | [] => rfl
  | p :: l => by
    have h1 : snap m (d + 2) h p.av = some p.av := rfl
    show ((p.av :: puls l).mapM (snap m (d + 2) h)) = _
    simp only [List.mapM_cons, h1, snap_pulsL l]
    rfl
theorem snap_rints {m : SM} (hm : m ≠ .frz) {d : Nat} {h : Heap} {b n : Nat} {ro : Bool} {l : List Int} (hb : h[b]? = some (.row ro 1 (ints l))) (hn : l.length = n) : snap m (d + 2) h (.ref b n 0 n) = some (.lst (ints l)) := snap_rowM hm hb (by simpa using hn) (snap_intsL l)
theorem snap_rpuls {m : SM} (hm : m ≠ .frz) {d : Nat} {h : Heap} {b n : Nat} {ro : Bool} {l : List Pu} (hb : h[b]? = some (.row ro 3 (puls l))) (hn : l.length = n) : snap m (d + 3) h (.ref b n 0 n) = some (.lst (puls l)) := snap_rowM hm hb (by simpa using hn) (snap_pulsL l)
set_option maxHeartbeats 2000000 in
set_option maxRecDepth 100000 in
theorem unpack_ok (bs : List Nat) (k : Nat) (hk : bs.length = 2 * k) (hl : bs.length ≤ 131072) (hb : ∀ x ∈ bs, x < 256) :
    Gives (callL env 18 [.lst (byts bs)] []) fun r => ∃ ls : List Int, ∀ m, m ≠ .frz → snap m depth r.2 r.1 = some (.tup [.lst (ints (unp bs k 0)), .lst (ints ls), .int .i64 0]) := by
  apply gives_call
  have e1 : (bs.length : Int) % 2 = 0 := by omega
  have e2 : (bs.length : Int).tmod 2 = 0 := by rw [Int.tmod_eq_emod_of_nonneg (by omega)]; exact e1
  simp (disch := omega) [Tryz.f18, decF, e1, e2]
  generalize hx : loopL env _ _ _ = L
  apply gives_cut hx
  refine unpack_loop _ _ bs hl hb _ k 0 _ [] [] _ (by omega) (by simp) (by simp) ?_ ?_ ?_ ?_ (fun sl' ls' tail' h5 h6 => ?_)
  · simp
  · simp
  · simp
  · simp
  · simp [h5, h6]
    refine ⟨ls', fun m hm => ?_⟩
    show (List.mapM (snap m 11 _) _).map AV.tup = _
    simp only [List.mapM_cons, List.mapM_nil]
    rw [snap_rints (d := 9) hm (l := unp bs k 0) rfl rfl, snap_rints (d := 9) hm (l := ls') rfl rfl]
    rfl
end Heard
