/- TopHeard answers true. -/
import Derived.Test.YtoechcjloppghaaGreatHH
open Go Go.Proofs Go.Abs
namespace Heard
def cth : Code → Code
  | .cond _ a _ => a
  | c => c
attribute [simp] cth
noncomputable def T3 : Code := match Tryz.f3.body with
  | some c => c
  | none => .skip
noncomputable def Y3 : Code := sq1 (sq1 (sq1 T3))
noncomputable def DP3 : Code := sq1 Y3
theorem align_long (a b : List Int) (hl : 96 < a.length ∨ 96 < b.length) : Gives (callL env 8 [.lst (ints a), .lst (ints b)] []) fun r => snap .any depth r.2 r.1 = some (.tup [.lst [], .int .i64 0, .int .i64 3]) := by
  have e1 : (decide (96 < a.length) || decide (96 < b.length)) = true := by simpa using hl
  have c := c21 a b
  rw [e1] at c
  apply gives_call
  simp (disch := omega) [Tryz.f8, c]
  rfl
theorem pot_long (a b : List Int) (hl : 96 < a.length ∨ 96 < b.length) : Gives (callL env 9 [.lst (ints a), .lst (ints b)] []) fun r => snap .any depth r.2 r.1 = some (.tup [.lst [], .int .i64 3]) := by
  have e1 : (decide (96 < a.length) || decide (96 < b.length)) = true := by simpa using hl
  have c := c21 a b
  rw [e1] at c
  apply gives_call
  simp (disch := omega) [Tryz.f9, c]
  rfl
set_option maxHeartbeats 4000000 in
set_option maxRecDepth 100000 in
theorem dp_ok (c10 : ∀ h, callN env (callL env) 10 [] h = some (.bool true, h)) (a b : List Int) (hla : a.length < 2 ^ 50) (hlb : b.length < 2 ^ 50) (h : Heap) (Q : Out → Prop) (sl : List (Nat × AV)) (g3 : getS sl (.tup []) 3 = .lst (ints a)) (g4 : getS sl (.tup []) 4 = .lst (ints b))
    (q : ∀ sl' h', getS sl' (.tup []) 10 = .bool true → Q (.ret ⟨432, .tup [], sl', []⟩ h')) : Gives (exec env (callL env) (loopL env) DP3 ⟨432, .tup [], sl, []⟩ h) Q := by
  by_cases hl : 96 < a.length ∨ 96 < b.length
  · obtain ⟨r, hr, h1⟩ := gives_iff.1 (align_long a b hl)
    have c8 := fun h => callE (h := h) (f := 8) rfl (by simp [closed?, depth]) hr h1
    obtain ⟨r, hr, h1⟩ := gives_iff.1 (pot_long a b hl)
    have c9 := fun h => callE (h := h) (f := 9) rfl (by simp [closed?, depth]) hr h1
    by_cases ha : 96 < a.length
    · simp (disch := omega) [DP3, Y3, T3, Tryz.f3, g3, g4, c8, c9, c10, decT]
      exact q _ _ (by simp)
    · have hb : 96 < b.length := by omega
      simp (disch := omega) [DP3, Y3, T3, Tryz.f3, g3, g4, c8, c9, c10, decT, decF]
      exact q _ _ (by simp)
  · have ha : a.length ≤ 96 := by omega
    have hb : b.length ≤ 96 := by omega
    obtain ⟨T, C, p, hA, hw, h5, hp, r8, hr8, hs8⟩ := align_ok a b ha hb
    obtain ⟨P, hP, r9, hr9, hs9⟩ := pot_ok a b ha hb
    obtain ⟨D, hD, r12, hr12, hs12⟩ := cheap_ok a b ha hb
    have hPl := hP.least ha hb
    have e1 : P a.length b.length = T 0 0 := align_pot hA hPl ha hb hw
    have e2 : D a.length b.length = T 0 0 := by rw [← e1]; exact (hPl.unique hD.least _ _ _ rfl (Nat.le_refl _) (Nat.le_refl _)).symm
    have hT0 := hA.done 0 0 (by omega) (by omega) (by omega)
    have hTb : 0 ≤ T 0 0 ∧ T 0 0 ≤ 1000 := ⟨hT0.2.2.1, by have := hT0.2.2.2; omega⟩
    have c8 := fun h => callE (h := h) (f := 8) rfl (by simp [closed?, depth]) hr8 hs8
    have c9 := fun h => callE (h := h) (f := 9) rfl (by simp [closed?, depth]) hr9 hs9
    have c12 := fun h => callE (h := h) (f := 12) rfl (by simp [closed?, depth]) hr12 (by rw [hs12]; rfl)
    obtain ⟨r11, hr11, hs11⟩ := gives_iff.1 (costS_ok a b p (T 0 0) ha hb (by omega) h5 hw)
    have c11 := fun h => callE (h := h) (f := 11) rfl (by simp [closed?, depth]) hr11 (by rw [hs11]; rfl)
    have hPb : ∀ i j, i ≤ a.length → j ≤ b.length → 0 ≤ P i j ∧ P i j ≤ 1000 := fun i j hi hj => ⟨(hP.pos i j).1, by have := hP.fin i j hi hj (by omega); omega⟩
    have c13 : ∀ (least : Int) h, callN env (callL env) 13 [.lst (ints a), .lst (ints b), .int .i64 least, .lst (tabL (a.length + 1) (b.length + 1) P)] h = some (.bool (decide (least ≤ P a.length b.length)), h) := fun least h => by
      obtain ⟨r13, hr13, hs13⟩ := gives_iff.1 (verify_ok a b ha hb P hPl.le hPb hPl.zero least)
      exact callE (h := h) (f := 13) rfl (by simp [closed?, depth]) hr13 (by rw [hs13]; rfl)
    rw [e2] at c12
    rw [e1] at c13
    generalize T 0 0 = t at *
    generalize tabL (a.length + 1) (b.length + 1) P = tl at *
    clear hT0 hA hw e1 e2 hP hD hPl hPb
    simp (disch := omega) [DP3, Y3, T3, Tryz.f3, g3, g4, c8, c9, c10, c11, c12, c13, decT, decF, wrapI]
    exact q _ _ (by simp)
end Heard

/- TopHeard: what the values of groups read as, if words are lost. -/
open Go Go.Proofs Go.Abs
namespace Heard
/-- Values of which some are lost. -/
def mkV (O : Nat → Bool) : Nat → List Int → List Int
  | _, [] => []
  | i, v :: r => (if O i = true then -1 else v) :: mkV O (i + 1) r
theorem mkV_length (O : Nat → Bool) : ∀ (l : List Int) (i : Nat), (mkV O i l).length = l.length
  | [], _ => rfl
  | _ :: l, i => by simp [mkV, mkV_length O l (i + 1)]
theorem mkV_append (O : Nat → Bool) : ∀ (l r : List Int) (i : Nat), mkV O i (l ++ r) = mkV O i l ++ mkV O (i + l.length) r
  | [], r, i => by simp [mkV]
  | v :: l, r, i => by
    simp only [List.cons_append, mkV, List.length_cons]
    rw [mkV_append O l r (i + 1), show i + 1 + l.length = i + (l.length + 1) by omega]
theorem mkV_drop (O : Nat → Bool) : ∀ (n : Nat) (l : List Int) (i : Nat), (mkV O i l).drop n = mkV O (i + n) (l.drop n)
  | 0, l, i => by simp
  | n + 1, [], i => by simp [mkV]
  | n + 1, v :: l, i => by
    simp only [mkV, List.drop_succ_cons]
    rw [mkV_drop O n l (i + 1), show i + 1 + n = i + (n + 1) by omega]
theorem mkV_nth (O : Nat → Bool) : ∀ (l : List Int) (i x : Nat), x < l.length → nth 0 (mkV O i l) x = if O (i + x) = true then -1 else nth 0 l x
  | [], _, x, h => by simp at h
  | v :: l, i, 0, _ => by simp [mkV]
  | v :: l, i, x + 1, h => by
    simp only [mkV, nth_succ]
    rw [mkV_nth O l (i + 1) x (by simpa using h), show i + 1 + x = i + (x + 1) by omega]
theorem mkV_none (O : Nat → Bool) : ∀ (l : List Int) (i : Nat), missO O l.length i = false → mkV O i l = l
  | [], _, _ => rfl
  | v :: l, i, h => by
    simp only [List.length_cons, missO, Bool.or_eq_false_iff] at h
    simp only [mkV, h.1, Bool.false_eq_true, if_false, mkV_none O l (i + 1) h.2]
theorem missO_true (O : Nat → Bool) : ∀ (k i : Nat), missO O k i = true → ∃ x, x < k ∧ O (i + x) = true
  | 0, _, h => by simp [missO] at h
  | k + 1, i, h => by
    simp only [missO, Bool.or_eq_true] at h
    rcases h with h | h
    · exact ⟨0, by omega, h⟩
    · obtain ⟨x, h1, h2⟩ := missO_true O k (i + 1) h
      exact ⟨x + 1, by omega, by rw [show i + (x + 1) = i + 1 + x by omega]; exact h2⟩
theorem missO_of (O : Nat → Bool) : ∀ (k i x : Nat), x < k → O (i + x) = true → missO O k i = true
  | 0, _, _, h, _ => by omega
  | k + 1, i, 0, _, h => by simp only [missO]; rw [show O i = true from h]; rfl
  | k + 1, i, x + 1, h, h2 => by
    simp only [missO, Bool.or_eq_true]
    exact .inr (missO_of O k (i + 1) x (by omega) (by rw [show i + 1 + x = i + (x + 1) by omega]; exact h2))
/-- Pulses of one group behind a time. -/
def Chain : Int → List Pu → Prop
  | _, [] => True
  | t, p :: r => 0 ≤ p.t - t ∧ p.t - t ≤ 1023 ∧ p.ok = true ∧ Chain p.t r
theorem nth_app_l (a b : List Int) (x : Nat) (h : x < a.length) : nth 0 (a ++ b) x = nth 0 a x := by
  rw [nth_getD, nth_getD, List.getD_eq_getElem?_getD, List.getD_eq_getElem?_getD, List.getElem?_append_left h]
theorem nth_dropI (l : List Int) (i x : Nat) : nth 0 (l.drop i) x = nth 0 l (i + x) := nth_drop 0 l i x
theorem rdN_pv (l rest : List Int) : ∀ (gr : List Pu) (i : Nat) (t : Int) (out : List Pu), l.drop i = pv t gr ++ rest → Chain t gr → rdN l gr.length i t out = some (out ++ gr)
  | [], i, t, out, _, _ => by simp [rdN]
  | p :: r, i, t, out, hd, hc => by
    obtain ⟨c1, c2, c3, c4⟩ := hc
    simp only [pv, List.cons_append] at hd
    have n0 : nth 0 l i = 1024 + 2 * p.d + (if p.r = 1 then 1 else 0) := by
      have := nth_dropI l i 0
      rw [hd] at this
      simpa using this.symm
    have n1 : nth 0 l (i + 1) = p.t - t := by
      have := nth_dropI l i 1
      rw [hd] at this
      simpa using this.symm
    have hd2 : l.drop (i + 2) = pv p.t r ++ rest := by rw [← List.drop_drop, hd]; rfl
    simp [Pu.ok] at c3
    obtain ⟨⟨⟨⟨d0, d1⟩, t0⟩, t1⟩, hr⟩ := c3
    have hs : small (nth 0 l (i + 1)) = true := by rw [n1]; simp [small]; omega
    simp only [List.length_cons, rdN]
    rw [n0, n1]
    rw [if_neg (by rw [n1] at hs; rw [hs]; rcases hr with hr | hr <;> simp [hr] <;> omega), if_neg (by omega)]
    have ht : t + (p.t - t) = p.t := by omega
    rw [ht]
    have hp : (⟨(1024 + 2 * p.d + (if p.r = 1 then 1 else 0) - 1024) / 2, p.t, (1024 + 2 * p.d + (if p.r = 1 then 1 else 0) - 1024) % 2 * 2 - 1⟩ : Pu) = p := by
      obtain ⟨d, tt, rr⟩ := p
      simp only at hr ⊢
      rcases hr with rfl | rfl
      · simp; omega
      · simp; omega
    rw [hp, rdN_pv l rest r (i + 2) p.t (out ++ [p]) hd2 c4]
    simp
theorem rdN_lost (l : List Int) : ∀ (k i : Nat) (t : Int) (out : List Pu) (x : Nat), x < 2 * k → nth 0 l (i + x) = -1 → rdN l k i t out = none
  | 0, _, _, _, _, h, _ => by omega
  | k + 1, i, t, out, x, h, hx => by
    simp only [rdN]
    match x with
    | 0 => rw [if_pos (.inl (by rw [Nat.add_zero] at hx; omega))]
    | 1 => rw [if_pos (.inr (.inr (by rw [hx]; rfl)))]
    | x + 2 =>
      split
      · rfl
      split
      · rfl
      exact rdN_lost l k (i + 2) _ _ x (by omega) (by rw [show i + 2 + x = i + (x + 2) by omega]; exact hx)
theorem head_nth (n : Nat) (t : Int) (rest : List Int) : nth 0 (head4 n t ++ rest) 0 = 1536 + n ∧ nth 0 (head4 n t ++ rest) 1 = t / 1048576 ∧ nth 0 (head4 n t ++ rest) 2 = t / 1024 % 1024 ∧ nth 0 (head4 n t ++ rest) 3 = t % 1024 := ⟨rfl, rfl, rfl, rfl⟩
/-- A whole group reads as its pulses. -/
theorem read_whole (gr : List Pu) (t : Int) (rest : List Int) (h1 : 1 ≤ gr.length) (h8 : gr.length ≤ 8) (ht : 0 ≤ t ∧ t ≤ 1000000000) (hc : Chain t gr) : readP (head4 gr.length t ++ pv t gr ++ rest) = some (gr, 4 + 2 * gr.length) := by
  have hlen : (head4 gr.length t ++ pv t gr ++ rest).length = 4 + 2 * gr.length + rest.length := by rw [List.length_append, List.length_append, pv_length]; rfl
  have hd : (head4 gr.length t ++ pv t gr ++ rest).drop 4 = pv t gr ++ rest := by rw [List.append_assoc]; rfl
  obtain ⟨a0, a1, a2, a3⟩ := head_nth gr.length t (pv t gr ++ rest)
  rw [← List.append_assoc] at a0 a1 a2 a3
  generalize head4 gr.length t ++ pv t gr ++ rest = l at *
  unfold readP
  rw [a0, a1, a2, a3]
  have e0 : isMark (1536 + (gr.length : Int)) = true := by simp [isMark]; omega
  have e1 : (1536 + (gr.length : Int) - 1536).toNat = gr.length := by omega
  have s1 : small (t / 1048576) = true := by simp [small]; omega
  have s2 : small (t / 1024 % 1024) = true := by simp [small]; omega
  have s3 : small (t % 1024) = true := by simp [small]; omega
  have et : t / 1048576 * 1048576 + t / 1024 % 1024 * 1024 + t % 1024 = t := by omega
  rw [if_neg (by simp [e0]), e1, if_neg (by rw [s1, s2, s3, hlen]; simp), et, rdN_pv l rest gr 4 t [] hd hc]
  rfl
/-- A group of which a word is lost reads as nothing. -/
theorem read_lost (O : Nat → Bool) (i : Nat) (gr : List Pu) (t : Int) (rest : List Int) (h1 : 1 ≤ gr.length) (h8 : gr.length ≤ 8) (hm : missO O (4 + 2 * gr.length) i = true) : readP (mkV O i (head4 gr.length t ++ pv t gr) ++ rest) = none := by
  have hl : (head4 gr.length t ++ pv t gr).length = 4 + 2 * gr.length := by rw [List.length_append, pv_length]; rfl
  have hn : ∀ x, x < 4 + 2 * gr.length → nth 0 (mkV O i (head4 gr.length t ++ pv t gr) ++ rest) x = if O (i + x) = true then -1 else nth 0 (head4 gr.length t ++ pv t gr) x := fun x hx => by
    rw [nth_app_l _ _ _ (by rw [mkV_length, hl]; exact hx), mkV_nth O _ _ _ (by rw [hl]; exact hx)]
  have hlen : (mkV O i (head4 gr.length t ++ pv t gr) ++ rest).length = 4 + 2 * gr.length + rest.length := by rw [List.length_append, mkV_length, hl]
  obtain ⟨x, hx, hO⟩ := missO_true O _ _ hm
  have hxv := hn x hx
  rw [if_pos hO] at hxv
  have h0 := hn 0 (by omega)
  rw [show nth 0 (head4 gr.length t ++ pv t gr) 0 = 1536 + (gr.length : Int) from rfl] at h0
  generalize mkV O i (head4 gr.length t ++ pv t gr) ++ rest = l at *
  unfold readP
  by_cases c0 : O (i + 0) = true
  · rw [if_pos c0] at h0
    rw [h0, if_pos (by rfl)]
  · rw [if_neg c0] at h0
    have e0 : isMark (1536 + (gr.length : Int)) = true := by simp [isMark]; omega
    have e1 : (1536 + (gr.length : Int) - 1536).toNat = gr.length := by omega
    rw [h0, if_neg (by simp [e0]), e1]
    match x with
    | 0 => exact absurd hO c0
    | 1 => rw [if_pos (.inr (.inl (by rw [hxv]; rfl)))]
    | 2 => rw [if_pos (.inr (.inr (.inl (by rw [hxv]; rfl))))]
    | 3 => rw [if_pos (.inr (.inr (.inr (by rw [hxv]; rfl))))]
    | x + 4 =>
      split
      · rfl
      · rw [rdN_lost l gr.length 4 _ [] x (by omega) (by rw [show 4 + x = x + 4 by omega]; exact hxv)]
        rfl
theorem pv_nth : ∀ (gr : List Pu) (t : Int) (x : Nat), Chain t gr → x < 2 * gr.length → nth 0 (pv t gr) x ≤ 1087
  | [], _, x, _, h => by simp at h
  | p :: r, t, 0, hc, _ => by
    obtain ⟨_, _, c3, _⟩ := hc
    simp [Pu.ok] at c3
    simp only [pv, nth_zero]
    split <;> omega
  | p :: r, t, 1, hc, _ => by
    obtain ⟨_, c2, _, _⟩ := hc
    simp only [pv, nth_succ, nth_zero]
    omega
  | p :: r, t, x + 2, hc, h => by
    simp only [pv, nth_succ]
    exact pv_nth r p.t x hc.2.2.2 (by simp only [List.length_cons] at h; omega)
/-- No value of a group but the first is a mark. -/
theorem no_mark (O : Nat → Bool) (i : Nat) (gr : List Pu) (t : Int) (rest : List Int) (ht : 0 ≤ t ∧ t ≤ 1000000000) (hc : Chain t gr) (x : Nat) (hx1 : 1 ≤ x) (hx : x < 4 + 2 * gr.length) : isMark (nth 0 (mkV O i (head4 gr.length t ++ pv t gr) ++ rest) x) = false := by
  have hl : (head4 gr.length t ++ pv t gr).length = 4 + 2 * gr.length := by rw [List.length_append, pv_length]; rfl
  rw [nth_app_l _ _ _ (by rw [mkV_length, hl]; exact hx), mkV_nth O _ _ _ (by rw [hl]; exact hx)]
  have : nth 0 (head4 gr.length t ++ pv t gr) x ≤ 1087 := by
    match x with
    | 0 => omega
    | 1 => show t / 1048576 ≤ 1087; omega
    | 2 => show t / 1024 % 1024 ≤ 1087; omega
    | 3 => show t % 1024 ≤ 1087; omega
    | x + 4 => exact pv_nth gr t x hc (by omega)
  split
  · rfl
  · simp [isMark]; omega
theorem skp_run (vs : List Int) : ∀ (f i j : Nat), i ≤ j → j ≤ vs.length → j - i ≤ f → (∀ x, i ≤ x → x < j → isMark (nth 0 vs x) = false) → skp vs f i = skp vs (f - (j - i)) j
  | f, i, j, h1, h2, h3, hm => by
    by_cases hij : i = j
    · subst hij; simp
    · match f, h3 with
      | 0, h3 => omega
      | f + 1, h3 =>
        simp only [skp]
        rw [if_pos ⟨by omega, hm i (Nat.le_refl _) (by omega)⟩, skp_run vs f (i + 1) j (by omega) h2 (by omega) (fun x h4 h5 => hm x (by omega) h5)]
        congr 1
        omega
  termination_by f i j => j - i
end Heard

open Go Go.Proofs Go.Abs
namespace Heard
theorem grpN_step (l : List Pu) : ∀ (k n m : Nat), n ≤ m → m < grpN l k n → (nth default l m).t - (nth default l (m - 1)).t ≤ 1023
  | 0, n, m, h1, h2 => by simp only [grpN] at h2; omega
  | k + 1, n, m, h1, h2 => by
    simp only [grpN] at h2
    split at h2
    · rename_i c
      by_cases hm : m = n
      · subst hm; exact c.2.2
      · exact grpN_step l k (n + 1) m (by omega) h2
    · omega
theorem chain_of : ∀ (l : List Pu) (t : Int), (∀ x, x < l.length → (nth default l x).ok = true ∧ 0 ≤ (nth default l x).t - (if x = 0 then t else (nth default l (x - 1)).t) ∧ (nth default l x).t - (if x = 0 then t else (nth default l (x - 1)).t) ≤ 1023) → Chain t l
  | [], _, _ => trivial
  | p :: r, t, h => by
    obtain ⟨h1, h2, h3⟩ := h 0 (by simp)
    rw [if_pos rfl] at h2 h3
    refine ⟨h2, h3, h1, chain_of r p.t fun x hx => ?_⟩
    obtain ⟨g1, g2, g3⟩ := h (x + 1) (by simpa using hx)
    rw [if_neg (by omega)] at g2 g3
    refine ⟨g1, ?_, ?_⟩
    · match x with
      | 0 => simpa using g2
      | x + 1 => simpa using g2
    · match x with
      | 0 => simpa using g3
      | x + 1 => simpa using g3
theorem nth_take (l : List Pu) (n x : Nat) (h : x < n) : nth default (l.take n) x = nth default l x := by
  rw [nth_getD, nth_getD, List.getD_eq_getElem?_getD, List.getD_eq_getElem?_getD, List.getElem?_take, if_pos h]
/-- A list in order. -/
def Ord (l : List Pu) : Prop := ∀ x, x + 1 < l.length → (nth default l x).t ≤ (nth default l (x + 1)).t
theorem Ord.drop {l : List Pu} (h : Ord l) (n : Nat) : Ord (l.drop n) := fun x hx => by
  rw [List.length_drop] at hx
  rw [nth_drop, nth_drop]
  exact h (n + x) (by omega)
theorem chain_grp (p : Pu) (r : List Pu) (ho : Ord (p :: r)) (hk : ∀ q ∈ p :: r, q.ok = true) : Chain p.t ((p :: r).take (grpN (p :: r) 8 1)) := by
  obtain ⟨n1, n2, n3⟩ := grpN_le (p :: r) 8 1 (by simp)
  have hst := grpN_step (p :: r) 8 1
  generalize hl : p :: r = l at *
  generalize grpN l 8 1 = n at *
  have hp0 : nth default l 0 = p := by rw [← hl]; rfl
  refine chain_of _ _ fun x hx => ?_
  rw [List.length_take] at hx
  rw [nth_take l n x (by omega)]
  refine ⟨hk _ (mem_nth default l x (by omega)), ?_, ?_⟩
  · by_cases h0 : x = 0
    · subst h0; rw [if_pos rfl, hp0]; omega
    · rw [if_neg h0, nth_take l n (x - 1) (by omega)]
      have := ho (x - 1) (by omega)
      rw [show x - 1 + 1 = x by omega] at this
      omega
  · by_cases h0 : x = 0
    · subst h0; rw [if_pos rfl, hp0]; omega
    · rw [if_neg h0, nth_take l n (x - 1) (by omega)]
      exact hst x (by omega) (by omega)
theorem goneF_lt (O : Nat → Bool) : ∀ (k : Nat) (l : List Pu) (i : Nat) (G : Nat → Bool) (x : Nat), x < i → goneF O k l i G x = G x
  | 0, _, _, _, _, _ => rfl
  | _ + 1, [], _, _, _, _ => rfl
  | k + 1, p :: r, i, G, x, h => by
    simp only [goneF]
    rw [goneF_lt O k _ _ _ x (by omega)]
    simp only [stretch]
    rw [if_neg (by omega)]
theorem Cov.ext {G : Nat → Bool} {W i j : Nat} (hij : i ≤ j) (h : ∀ x, i ≤ x → x < j → G x = false) : ∀ {gs : List Iv}, Cov G W j gs → Cov G W i gs
  | [], hc => fun x h1 h2 => by
    by_cases hx : x < j
    · exact h x h1 hx
    · exact hc x (by omega) h2
  | g :: gs, ⟨lo, hi, e, c1, c2, c3, c4, c5, c6⟩ => ⟨lo, hi, e, by omega, c2, c3, fun x h1 h2 => by
      by_cases hx : x < j
      · exact h x h1 hx
      · exact c4 x (by omega) h2, c5, c6⟩
/-- The values from a place on are those of a list's groups, some of them lost. -/
structure At (O : Nat → Bool) (vals : List Int) (W k : Nat) (l : List Pu) (i : Nat) : Prop where
  len : vals.length = W
  fuel : l.length ≤ k
  vals : vals.drop i = mkV O i (encV k l)
  fill : i + (encV k l).length = W
  ord : Ord l
  ok : ∀ p ∈ l, p.ok = true
theorem At.group {O : Nat → Bool} {vals : List Int} {W k i : Nat} {p : Pu} {r : List Pu} (h : At O vals W (k + 1) (p :: r) i) :
    vals.drop i = mkV O i (head4 (grpN (p :: r) 8 1) p.t ++ pv p.t ((p :: r).take (grpN (p :: r) 8 1))) ++ vals.drop (i + (4 + 2 * grpN (p :: r) 8 1)) ∧ At O vals W k ((p :: r).drop (grpN (p :: r) 8 1)) (i + (4 + 2 * grpN (p :: r) 8 1)) ∧
    ((p :: r).take (grpN (p :: r) 8 1)).length = grpN (p :: r) 8 1 ∧ 1 ≤ grpN (p :: r) 8 1 ∧ grpN (p :: r) 8 1 ≤ 8 ∧ i + (4 + 2 * grpN (p :: r) 8 1) ≤ W ∧ Chain p.t ((p :: r).take (grpN (p :: r) 8 1)) ∧ (0 ≤ p.t ∧ p.t ≤ 1000000000) := by
  obtain ⟨n1, n2, n3⟩ := grpN_le (p :: r) 8 1 (by simp)
  have n3' := n3 (by omega)
  have hv := h.vals
  have hf := h.fill
  have hc := chain_grp p r h.ord h.ok
  have hpk := h.ok p List.mem_cons_self
  simp [Pu.ok] at hpk
  rw [encV_length] at hf
  have henc : encV (k + 1) (p :: r) = head4 (grpN (p :: r) 8 1) p.t ++ pv p.t ((p :: r).take (grpN (p :: r) 8 1)) ++ encV k ((p :: r).drop (grpN (p :: r) 8 1)) := rfl
  have hfu := h.fuel
  simp only [List.length_cons] at hfu
  have htl : ((p :: r).take (grpN (p :: r) 8 1)).length = grpN (p :: r) 8 1 := by rw [List.length_take]; omega
  have hgl : (head4 (grpN (p :: r) 8 1) p.t ++ pv p.t ((p :: r).take (grpN (p :: r) 8 1))).length = 4 + 2 * grpN (p :: r) 8 1 := by rw [List.length_append, pv_length, htl]; rfl
  rw [henc, mkV_append, hgl] at hv
  have hd : vals.drop (i + (4 + 2 * grpN (p :: r) 8 1)) = mkV O (i + (4 + 2 * grpN (p :: r) 8 1)) (encV k ((p :: r).drop (grpN (p :: r) 8 1))) := by
    rw [← List.drop_drop, hv, List.drop_append_of_le_length (by rw [mkV_length, hgl]; omega), List.drop_eq_nil_of_le (by rw [mkV_length, hgl]; omega), List.nil_append]
  refine ⟨by rw [hd]; exact hv, ⟨h.len, ?_, hd, by omega, h.ord.drop _, fun q hq => h.ok q (List.mem_of_mem_drop hq)⟩, htl, n2, n3', by omega, hc, by omega⟩
  rw [List.length_drop, List.length_cons]
  omega
/-- To the next mark that is there. -/
theorem resync (O : Nat → Bool) (vals : List Int) (W : Nat) : ∀ (k : Nat) (l : List Pu) (j f : Nat), At O vals W k l j → W - j ≤ f →
    ∃ k' l' e, j ≤ e ∧ e ≤ W ∧ At O vals W k' l' e ∧ l'.length ≤ l.length ∧ skp vals f j = e ∧ kept O k l j = kept O k' l' e ∧ ∀ G, ∃ G', goneF O k l j G = goneF O k' l' e G' ∧ ∀ x, j ≤ x → x < e → G' x = true := by
  intro k
  induction k with
  | zero =>
    intro l j f h hf
    have h1 := h.fill
    have h2 := h.len
    simp only [encV, List.length_nil] at h1
    refine ⟨0, l, j, Nat.le_refl _, by omega, h, Nat.le_refl _, ?_, rfl, fun G => ⟨G, rfl, fun x h1 h2 => by omega⟩⟩
    cases f with
    | zero => rfl
    | succ f => simp only [skp]; rw [if_neg (by omega)]
  | succ k ih =>
    intro l j f h hf
    cases l with
    | nil =>
      have h1 := h.fill
      have h2 := h.len
      simp only [encV, List.length_nil] at h1
      refine ⟨k + 1, [], j, Nat.le_refl _, by omega, h, Nat.le_refl _, ?_, rfl, fun G => ⟨G, rfl, fun x h1 h2 => by omega⟩⟩
      cases f with
      | zero => rfl
      | succ f => simp only [skp]; rw [if_neg (by omega)]
    | cons p r =>
      obtain ⟨hv, hA, htl, n2, n3, hw, hc, hpt⟩ := h.group
      have hlv := h.len
      have hkp : kept O (k + 1) (p :: r) j = (if missO O (4 + 2 * grpN (p :: r) 8 1) j = true then [] else (p :: r).take (grpN (p :: r) 8 1)) ++ kept O k ((p :: r).drop (grpN (p :: r) 8 1)) (j + (4 + 2 * grpN (p :: r) 8 1)) := rfl
      have hgo : ∀ G, goneF O (k + 1) (p :: r) j G = goneF O k ((p :: r).drop (grpN (p :: r) 8 1)) (j + (4 + 2 * grpN (p :: r) 8 1)) (stretch G j (4 + 2 * grpN (p :: r) 8 1) (missO O (4 + 2 * grpN (p :: r) 8 1) j)) := fun G => rfl
      have hld : ((p :: r).drop (grpN (p :: r) 8 1)).length ≤ (p :: r).length := by rw [List.length_drop]; omega
      have nx := fun x => nth_dropI vals j x
      rw [hv] at nx
      have n0 := nx 0
      rw [nth_app_l _ _ _ (by rw [mkV_length, List.length_append, pv_length, htl]; show 0 < 4 + 2 * _; omega), mkV_nth O _ _ _ (by rw [List.length_append, pv_length, htl]; show 0 < 4 + 2 * _; omega)] at n0
      rw [show nth 0 (head4 (grpN (p :: r) 8 1) p.t ++ pv p.t ((p :: r).take (grpN (p :: r) 8 1))) 0 = 1536 + (grpN (p :: r) 8 1 : Int) from rfl] at n0
      have nm := no_mark O j ((p :: r).take (grpN (p :: r) 8 1)) p.t (vals.drop (j + (4 + 2 * grpN (p :: r) 8 1))) hpt hc
      rw [htl] at nm
      by_cases hO : O j = true
      · rw [Nat.add_zero, if_pos hO] at n0
        have hms : missO O (4 + 2 * grpN (p :: r) 8 1) j = true := missO_of O _ j 0 (by omega) hO
        obtain ⟨k', l', e, q1, q2, q3, q4, q5, q6, q7⟩ := ih _ (j + (4 + 2 * grpN (p :: r) 8 1)) (f - (4 + 2 * grpN (p :: r) 8 1)) hA (by omega)
        refine ⟨k', l', e, by omega, q2, q3, Nat.le_trans q4 hld, ?_, ?_, fun G => ?_⟩
        · rw [skp_run vals f j (j + (4 + 2 * grpN (p :: r) 8 1)) (by omega) (by omega) (by omega) (fun x h1 h2 => ?_), show f - (j + (4 + 2 * grpN (p :: r) 8 1) - j) = f - (4 + 2 * grpN (p :: r) 8 1) by omega]
          · exact q5
          · by_cases hx : x = j
            · subst hx; rw [← n0]; rfl
            · have h3 := nx (x - j)
              rw [show j + (x - j) = x by omega] at h3
              rw [← h3]
              exact nm (x - j) (by omega) (by omega)
        · rw [hkp, hms, if_pos rfl, List.nil_append, q6]
        · obtain ⟨G', g1, g2⟩ := q7 (stretch G j (4 + 2 * grpN (p :: r) 8 1) true)
          rw [hgo, hms]
          have hlt : ∀ x, x < j + (4 + 2 * grpN (p :: r) 8 1) → G' x = stretch G j (4 + 2 * grpN (p :: r) 8 1) true x := fun x hx => by
            have := congrFun g1 x
            rw [goneF_lt O k _ _ _ x hx, goneF_lt O k' _ _ _ x (by omega)] at this
            exact this.symm
          refine ⟨G', g1, fun x h1 h2 => ?_⟩
          by_cases hx : x < j + (4 + 2 * grpN (p :: r) 8 1)
          · rw [hlt x hx]; simp only [stretch]; rw [if_pos ⟨h1, hx⟩]
          · exact g2 x (by omega) h2
      · rw [Nat.add_zero, if_neg hO] at n0
        refine ⟨k + 1, p :: r, j, Nat.le_refl _, by omega, h, Nat.le_refl _, ?_, rfl, fun G => ⟨G, rfl, fun x h1 h2 => by omega⟩⟩
        match f, hf with
        | 0, hf => rfl
        | f + 1, hf =>
          simp only [skp]
          rw [if_neg (fun hc => by
            rw [← n0] at hc
            have : isMark (1536 + (grpN (p :: r) 8 1 : Int)) = true := by simp [isMark]; omega
            rw [this] at hc
            exact absurd hc.2 (by simp))]
end Heard

open Go Go.Proofs Go.Abs
namespace Heard
theorem dec_law (O : Nat → Bool) (vals : List Int) (W : Nat) : ∀ (s k : Nat) (l : List Pu) (i fuel : Nat) (ps : List Pu) (gs : List Iv), l.length ≤ s → At O vals W k l i → W - i ≤ fuel →
    ∃ gps, decG vals fuel i ps gs = (ps ++ kept O k l i, gs ++ gps) ∧ ∀ G, Cov (goneF O k l i G) W i gps := by
  intro s
  induction s with
  | zero =>
    intro k l i fuel ps gs hs h hf
    obtain rfl : l = [] := List.eq_nil_of_length_eq_zero (by omega)
    have h1 := h.fill
    have h2 := h.len
    have he : encV k ([] : List Pu) = [] := by cases k <;> rfl
    have hk : kept O k [] i = [] := by cases k <;> rfl
    rw [he] at h1
    simp only [List.length_nil] at h1
    refine ⟨[], ?_, fun G x h1 h2 => by omega⟩
    rw [hk]
    cases fuel with
    | zero => simp [decG]
    | succ f => simp only [decG]; rw [if_neg (by omega)]; simp
  | succ s ih =>
    intro k l i fuel ps gs hs h hf
    cases l with
    | nil =>
      have h1 := h.fill
      have h2 := h.len
      have he : encV k ([] : List Pu) = [] := by cases k <;> rfl
      have hk : kept O k [] i = [] := by cases k <;> rfl
      rw [he] at h1
      simp only [List.length_nil] at h1
      refine ⟨[], ?_, fun G x h1 h2 => by omega⟩
      rw [hk]
      cases fuel with
      | zero => simp [decG]
      | succ f => simp only [decG]; rw [if_neg (by omega)]; simp
    | cons p r =>
      cases k with
      | zero => have := h.fuel; simp at this
      | succ k =>
      obtain ⟨hv, hA, htl, n2, n3, hw, hc, hpt⟩ := h.group
      have hlv := h.len
      have hkp : kept O (k + 1) (p :: r) i = (if missO O (4 + 2 * grpN (p :: r) 8 1) i = true then [] else (p :: r).take (grpN (p :: r) 8 1)) ++ kept O k ((p :: r).drop (grpN (p :: r) 8 1)) (i + (4 + 2 * grpN (p :: r) 8 1)) := rfl
      have hgo : ∀ G, goneF O (k + 1) (p :: r) i G = goneF O k ((p :: r).drop (grpN (p :: r) 8 1)) (i + (4 + 2 * grpN (p :: r) 8 1)) (stretch G i (4 + 2 * grpN (p :: r) 8 1) (missO O (4 + 2 * grpN (p :: r) 8 1) i)) := fun G => rfl
      have hld : ((p :: r).drop (grpN (p :: r) 8 1)).length ≤ s := by rw [List.length_drop]; simp only [List.length_cons] at hs ⊢; omega
      obtain ⟨f, rfl⟩ : ∃ f, fuel = f + 1 := ⟨fuel - 1, by omega⟩
      have hi : i < vals.length := by omega
      cases hms : missO O (4 + 2 * grpN (p :: r) 8 1) i with
      | false =>
        have hgl : (head4 (grpN (p :: r) 8 1) p.t ++ pv p.t ((p :: r).take (grpN (p :: r) 8 1))).length = 4 + 2 * grpN (p :: r) 8 1 := by rw [List.length_append, pv_length, htl]; rfl
        have hrd : readP (vals.drop i) = some ((p :: r).take (grpN (p :: r) 8 1), 4 + 2 * grpN (p :: r) 8 1) := by
          rw [hv, mkV_none O _ _ (by rw [hgl]; exact hms)]
          have := read_whole ((p :: r).take (grpN (p :: r) 8 1)) p.t (vals.drop (i + (4 + 2 * grpN (p :: r) 8 1))) (by omega) (by omega) hpt hc
          rw [htl] at this
          exact this
        obtain ⟨gps, q1, q2⟩ := ih k _ (i + (4 + 2 * grpN (p :: r) 8 1)) f (ps ++ (p :: r).take (grpN (p :: r) 8 1)) gs hld hA (by omega)
        refine ⟨gps, ?_, fun G => ?_⟩
        · simp only [decG]
          rw [if_pos hi, hrd]
          simp only
          rw [q1, hkp, hms, if_neg (by simp), List.append_assoc]
        · rw [hgo, hms]
          refine Cov.ext (j := i + (4 + 2 * grpN (p :: r) 8 1)) (by omega) (fun x h1 h2 => ?_) (q2 _)
          rw [goneF_lt O k _ _ _ x h2]
          simp only [stretch]
          rw [if_pos ⟨h1, h2⟩]
      | true =>
        have hrd : readP (vals.drop i) = none := by
          rw [hv]
          have := read_lost O i ((p :: r).take (grpN (p :: r) 8 1)) p.t (vals.drop (i + (4 + 2 * grpN (p :: r) 8 1))) (by omega) (by omega) (by rw [htl]; exact hms)
          rw [htl] at this
          exact this
        have nm := no_mark O i ((p :: r).take (grpN (p :: r) 8 1)) p.t (vals.drop (i + (4 + 2 * grpN (p :: r) 8 1))) hpt hc
        rw [htl, ← hv] at nm
        have hrun := skp_run vals vals.length (i + 1) (i + (4 + 2 * grpN (p :: r) 8 1)) (by omega) (by omega) (by omega) (fun x h1 h2 => by
          have h3 := nth_dropI vals i (x - i)
          rw [show i + (x - i) = x by omega] at h3
          rw [← h3]
          exact nm (x - i) (by omega) (by omega))
        obtain ⟨k', l', e, r1, r2, r3, r4, r5, r6, r7⟩ := resync O vals W k _ (i + (4 + 2 * grpN (p :: r) 8 1)) (vals.length - (i + (4 + 2 * grpN (p :: r) 8 1) - (i + 1))) hA (by omega)
        rw [← hrun] at r5
        obtain ⟨gps, q1, q2⟩ := ih k' l' e f ps (gs ++ [⟨i, e - 1⟩]) (by omega) r3 (by omega)
        refine ⟨⟨i, e - 1⟩ :: gps, ?_, fun G => ?_⟩
        · simp only [decG]
          rw [if_pos hi, hrd]
          simp only
          rw [r5, q1, hkp, hms, if_pos rfl, List.nil_append, r6, List.append_assoc]
          rfl
        · rw [hgo, hms]
          obtain ⟨G', g1, g2⟩ := r7 (stretch G i (4 + 2 * grpN (p :: r) 8 1) true)
          have hval : ∀ x, i ≤ x → x < e → goneF O k ((p :: r).drop (grpN (p :: r) 8 1)) (i + (4 + 2 * grpN (p :: r) 8 1)) (stretch G i (4 + 2 * grpN (p :: r) 8 1) true) x = true := by
            intro x h1 h2
            by_cases hx : x < i + (4 + 2 * grpN (p :: r) 8 1)
            · rw [goneF_lt O k _ _ _ x hx]
              simp only [stretch]
              rw [if_pos ⟨h1, hx⟩]
            · rw [g1, goneF_lt O k' _ _ _ x h2]
              exact g2 x (by omega) h2
          refine ⟨i, e - 1, ?_, Nat.le_refl _, by omega, by omega, fun x h1 h2 => by omega, fun x h1 h2 => hval x h1 (by omega), ?_⟩
          · have : ((e - 1 : Nat) : Int) = (e : Int) - 1 := by omega
            rw [this]
          · rw [show e - 1 + 1 = e by omega, g1]
            exact q2 G'
end Heard

open Go Go.Proofs Go.Abs
namespace Heard
theorem vld_zero (l : List Pu) : ∀ (k i : Nat), vld l k i = 0 → ∀ x, i ≤ x → x < i + k → (nth default l x).ok = true ∧ (0 < x → (nth default l (x - 1)).t ≤ (nth default l x).t)
  | 0, i, _, x, h1, h2 => by omega
  | k + 1, i, h, x, h1, h2 => by
    simp only [vld] at h
    split at h
    · omega
    rename_i c1
    split at h
    · omega
    rename_i c2
    by_cases hx : x = i
    · subst hx
      exact ⟨by simpa using c1, fun h0 => by omega⟩
    · exact vld_zero l k (i + 1) h x (by omega) (by omega)
theorem validP_zero {l : List Pu} (h : validP l = 0) : l.length ≤ 4096 ∧ (∀ p ∈ l, p.ok = true) ∧ Ord l := by
  unfold validP at h
  split at h
  · omega
  rename_i c
  have hv := vld_zero l l.length 0 h
  refine ⟨by omega, fun p hp => ?_, fun x hx => ?_⟩
  · obtain ⟨x, hx, rfl⟩ := List.mem_iff_getElem.1 hp
    have := (hv x (by omega) (by omega)).1
    rw [nth_getD, List.getD_eq_getElem?_getD, List.getElem?_eq_getElem hx] at this
    exact this
  · have := (hv (x + 1) (by omega) (by omega)).2 (by omega)
    simpa using this
theorem pv_range : ∀ (gr : List Pu) (t : Int), Chain t gr → ∀ v ∈ pv t gr, 0 ≤ v ∧ v ≤ 2047
  | [], _, _, v, h => by simp [pv] at h
  | p :: r, t, ⟨c1, c2, c3, c4⟩, v, h => by
    simp [Pu.ok] at c3
    simp only [pv, List.mem_cons] at h
    rcases h with rfl | rfl | h
    · split <;> omega
    · omega
    · exact pv_range r p.t c4 v h
theorem encV_range : ∀ (k : Nat) (l : List Pu), Ord l → (∀ p ∈ l, p.ok = true) → (∀ v ∈ encV k l, 0 ≤ v ∧ v ≤ 2047) ∧ (encV k l).length ≤ 6 * l.length
  | 0, l, _, _ => ⟨fun v h => by simp [encV] at h, by simp [encV]⟩
  | k + 1, [], _, _ => ⟨fun v h => by simp [encV] at h, by simp [encV]⟩
  | k + 1, p :: r, ho, hk => by
    have hc := chain_grp p r ho hk
    obtain ⟨n1, n2, n3⟩ := grpN_le (p :: r) 8 1 (by simp)
    have n3' := n3 (by omega)
    have hpk := hk p List.mem_cons_self
    simp [Pu.ok] at hpk
    obtain ⟨h1, h2⟩ := encV_range k ((p :: r).drop (grpN (p :: r) 8 1)) (ho.drop _) (fun q hq => hk q (List.mem_of_mem_drop hq))
    refine ⟨fun v hv => ?_, ?_⟩
    · have henc : encV (k + 1) (p :: r) = head4 (grpN (p :: r) 8 1) p.t ++ pv p.t ((p :: r).take (grpN (p :: r) 8 1)) ++ encV k ((p :: r).drop (grpN (p :: r) 8 1)) := rfl
      rw [henc, List.mem_append, List.mem_append] at hv
      rcases hv with (hv | hv) | hv
      · simp only [head4, List.mem_cons, List.not_mem_nil, or_false] at hv
        rcases hv with rfl | rfl | rfl | rfl <;> omega
      · exact pv_range _ _ hc v hv
      · exact h1 v hv
    · rw [encV_length]
      rw [List.length_drop] at h2
      omega
theorem kept_all (O : Nat → Bool) (hO : ∀ x, O x = false) : ∀ (k : Nat) (l : List Pu) (i : Nat), l.length ≤ k → kept O k l i = l
  | 0, l, i, h => by
    obtain rfl : l = [] := List.eq_nil_of_length_eq_zero (by omega)
    rfl
  | k + 1, [], i, _ => rfl
  | k + 1, p :: r, i, h => by
    have hm : missO O (4 + 2 * grpN (p :: r) 8 1) i = false := by
      cases hm : missO O (4 + 2 * grpN (p :: r) 8 1) i with
      | false => rfl
      | true =>
        obtain ⟨x, _, hx⟩ := missO_true O _ _ hm
        rw [hO] at hx; cases hx
    obtain ⟨n1, n2, _⟩ := grpN_le (p :: r) 8 1 (by simp)
    simp only [kept]
    rw [hm, if_neg (by simp), kept_all O hO k _ _ (by rw [List.length_drop]; simp only [List.length_cons] at h ⊢; omega), List.take_append_drop]
theorem gone_none (O : Nat → Bool) (hO : ∀ x, O x = false) : ∀ (k : Nat) (l : List Pu) (i : Nat) (G : Nat → Bool), (∀ x, G x = false) → ∀ x, goneF O k l i G x = false
  | 0, _, _, G, h, x => h x
  | k + 1, [], _, G, h, x => h x
  | k + 1, p :: r, i, G, h, x => by
    have hm : missO O (4 + 2 * grpN (p :: r) 8 1) i = false := by
      cases hm : missO O (4 + 2 * grpN (p :: r) 8 1) i with
      | false => rfl
      | true =>
        obtain ⟨x, _, hx⟩ := missO_true O _ _ hm
        rw [hO] at hx; cases hx
    simp only [goneF]
    rw [hm]
    refine gone_none O hO k _ _ _ (fun y => ?_) x
    simp only [stretch]
    split
    · rfl
    · exact h y
theorem cov_none {G : Nat → Bool} {W i : Nat} (h : ∀ x, G x = false) : ∀ {gs : List Iv}, Cov G W i gs → gs = []
  | [], _ => rfl
  | g :: gs, ⟨lo, hi, _, _, c2, _, _, c5, _⟩ => by
    have := c5 lo (Nat.le_refl _) c2
    rw [h] at this; cases this
theorem kept_length (O : Nat → Bool) : ∀ (k : Nat) (l : List Pu) (i : Nat), (kept O k l i).length ≤ l.length
  | 0, _, _ => by simp [kept]
  | k + 1, [], _ => by simp [kept]
  | k + 1, p :: r, i => by
    obtain ⟨n1, n2, _⟩ := grpN_le (p :: r) 8 1 (by simp)
    have ih := kept_length O k ((p :: r).drop (grpN (p :: r) 8 1)) (i + (4 + 2 * grpN (p :: r) 8 1))
    simp only [kept, List.length_append]
    rw [List.length_drop] at ih
    split
    · simp only [List.length_nil]; omega
    · rw [List.length_take]; omega
/-- Bytes of words. -/
theorem bw_length (nl : List Nat) : (nl.flatMap bw).length = 2 * nl.length := by
  induction nl with
  | nil => rfl
  | cons v l ih => rw [List.flatMap_cons, List.length_append, ih]; simp [bw]; omega
theorem bw_lt (nl : List Nat) (h : ∀ v ∈ nl, v < 2048) : ∀ x ∈ nl.flatMap bw, x < 256 := by
  intro x hx
  obtain ⟨v, hv, hx⟩ := List.mem_flatMap.1 hx
  have h4 := (word_law v (h v hv)).2.2.2
  simp only [bw, List.mem_cons, List.not_mem_nil, or_false] at hx
  rcases hx with rfl | rfl
  · rw [Nat.shiftRight_eq_div_pow]; omega
  · omega
theorem w2_bw : ∀ (nl : List Nat) (w v : Nat), nl[w]? = some v → w2 (nl.flatMap bw) (2 * w) = wordN v
  | [], _, _, h => by simp at h
  | u :: nl, 0, v, h => by
    simp only [List.getElem?_cons_zero, Option.some.injEq] at h
    subst h
    simp only [w2, List.flatMap_cons, bw, List.cons_append, List.nil_append, Nat.mul_zero, Nat.zero_add, nth_zero, nth_succ]
    rw [Nat.shiftRight_eq_div_pow]
    omega
  | u :: nl, w + 1, v, h => by
    have ih := w2_bw nl w v (by simpa using h)
    simp only [w2, List.flatMap_cons, bw, List.cons_append, List.nil_append] at ih ⊢
    rw [show 2 * (w + 1) = 2 * w + 1 + 1 by omega, show 2 * w + 1 + 1 + 1 = 2 * w + 1 + 1 + 1 from rfl]
    simp only [nth_succ]
    exact ih
/-- What damaged words read as. -/
theorem unp_mkV (O : Nat → Bool) (nl : List Nat) (h2 : ∀ v ∈ nl, v < 2048) (fl : List Nat) (hf : ∀ w, w < nl.length → FlO (nl.flatMap bw) O fl w) : ∀ (r : List Nat) (w : Nat), nl.drop w = r → unp fl r.length (2 * w) = mkV O w (nats' r)
  | [], w, _ => rfl
  | v :: r, w, hd => by
    have hg : nl[w]? = some v := by
      have := congrArg (·[0]?) hd
      simpa using this
    have hr : nl.drop (w + 1) = r := by rw [← List.drop_drop, hd]; rfl
    have hw : w < nl.length := (List.getElem?_eq_some_iff.1 hg).1
    have hv := h2 v (List.mem_of_getElem? hg)
    have h1 := hf w hw
    have ih := unp_mkV O nl h2 fl hf r (w + 1) hr
    simp only [FlO, w2_bw nl w v hg] at h1
    have hm : mkV O w (nats' (v :: r)) = (if O w = true then -1 else (v : Int)) :: mkV O (w + 1) (nats' r) := rfl
    rw [hm]
    simp only [List.length_cons, unp]
    rw [show 2 * w + 2 = 2 * (w + 1) by omega, ih]
    congr 1
    by_cases hO : O w = true
    · rw [if_pos hO] at h1 ⊢
      exact decV_fl2 hv h1
    · rw [if_neg hO] at h1 ⊢
      exact decV_fl1 hv h1
theorem nats'_of (l : List Int) (h : ∀ v ∈ l, 0 ≤ v ∧ v ≤ 2047) : ∃ nl : List Nat, l = nats' nl ∧ nl.length = l.length ∧ ∀ v ∈ nl, v < 2048 := by
  refine ⟨l.map Int.toNat, ?_, by simp, fun v hv => ?_⟩
  · simp only [nats', List.map_map]
    apply List.ext_getElem?
    intro i
    rw [List.getElem?_map]
    cases hi : l[i]? with
    | none => rfl
    | some x =>
      have := h x (List.mem_of_getElem? hi)
      simp; omega
  · obtain ⟨x, hx, rfl⟩ := List.mem_map.1 hv
    have := h x hx
    omega
end Heard

open Go Go.Proofs Go.Abs
namespace Heard
noncomputable def A0 : Code := cth (sq1 (sq0 Y3))
noncomputable def A2 : Code := sq1 (sq1 (sq1 (sq1 A0)))
noncomputable def A3 : Code := sq1 (sq1 A2)
noncomputable def A4 : Code := sq1 (sq1 A3)
noncomputable def A5 : Code := sq1 (sq1 (sq1 (sq1 A4)))
noncomputable def A6 : Code := sq1 (sq1 A5)
theorem A0_eq : A0 = .seq (sq0 A0) (.seq (sq0 (sq1 A0)) (.seq (sq0 (sq1 (sq1 A0))) (.seq (sq0 (sq1 (sq1 (sq1 A0)))) A2))) := by kernel_rfl
theorem A2_eq : A2 = .seq (sq0 A2) (.seq (sq0 (sq1 A2)) A3) := by kernel_rfl
theorem A3_eq : A3 = .seq (sq0 A3) (.seq (sq0 (sq1 A3)) A4) := by kernel_rfl
theorem A4_eq : A4 = .seq (sq0 A4) (.seq (sq0 (sq1 A4)) (.seq (sq0 (sq1 (sq1 A4))) (.seq (sq0 (sq1 (sq1 (sq1 A4)))) A5))) := by kernel_rfl
theorem A5_eq : A5 = .seq (sq0 A5) (.seq (sq0 (sq1 A5)) A6) := by kernel_rfl
theorem snap_rbyts {m : SM} (hm : m ≠ .frz) {d : Nat} {h : Heap} {b n : Nat} {ro : Bool} {l : List Nat} (hb : h[b]? = some (.row ro 1 (byts l))) (hn : l.length = n) : snap m (d + 2) h (.ref b n 0 n) = some (.lst (byts l)) := snap_rowM hm hb (by simpa using hn) (snap_ints (es := byts l) fun e he => by
  obtain ⟨x, _, rfl⟩ := List.mem_map.1 he
  exact ⟨_, _, rfl⟩)
theorem c6r (fl : List Nat) (k : Nat) (hk : fl.length = 2 * k) (hl : fl.length ≤ 131072) (hb : ∀ x ∈ fl, x < 256) (ps : List Pu) (gs : List Iv) (hd : decG (unp fl k 0) k 0 [] [] = (ps, gs)) (hps : ps.length ≤ 4096) (h : Heap) (hh : h[0]? = some (.row false 1 (byts fl))) :
    callN env (callL env) 6 [.ref 0 (2 * k) 0 (2 * k)] h = some (.tup [.lst (puls ps), .lst (ivs gs), .int .i64 0], h) := by
  obtain ⟨r, hr, h1⟩ := gives_iff.1 (decode_ok fl k hk hl hb ps gs hd hps)
  have g1 : env.nat 6 = none := rfl
  have g2 : env.cm 6 = .pure := rfl
  have g3 : ([.ref 0 (2 * k) 0 (2 * k)] : List AV).all (closed? depth) = false := rfl
  have g4 : snap .any depth h (.ref 0 (2 * k) 0 (2 * k)) = some (.lst (byts fl)) := snap_rbyts (d := 10) (by simp) hh hk
  have g5 : ([.ref 0 (2 * k) 0 (2 * k)] : List AV).mapM (snap .any depth h) = some [.lst (byts fl)] := by
    simp only [List.mapM_cons, List.mapM_nil, g4]; rfl
  unfold callN
  simp only [g1, g2, g3, cond_false, g5, Option.bind_some, hr]
  rw [h1 .own (by simp)]
  rfl
theorem sameN_refl (a : List Pu) : ∀ k i, sameN a a k i = true
  | 0, _ => rfl
  | k + 1, i => by simp only [sameN, if_true]; exact sameN_refl a k (i + 1)
theorem sameP_refl (a : List Pu) : sameP a a = true := by simp only [sameP, if_true]; exact sameN_refl a _ _
theorem c7 (a : List Pu) (ha : a.length < 2 ^ 40) (h : Heap) : callN env (callL env) 7 [.lst (puls a), .lst (puls a)] h = some (.bool true, h) := by
  obtain ⟨r, hr, h1⟩ := gives_iff.1 (same_ok a a ha)
  rw [sameP_refl] at h1
  exact callE rfl rfl hr (by rw [h1]; rfl) h
theorem c7r (a : List Pu) (ha : a.length < 2 ^ 40) (b : Nat) (h : Heap) (hh : h[b]? = some (.row false 3 (puls a))) : callN env (callL env) 7 [.lst (puls a), .ref b a.length 0 a.length] h = some (.bool true, h) := by
  obtain ⟨r, hr, h1⟩ := gives_iff.1 (same_ok a a ha)
  rw [sameP_refl] at h1
  have g1 : env.nat 7 = none := rfl
  have g2 : env.cm 7 = .pure := rfl
  have g3 : ([.lst (puls a), .ref b a.length 0 a.length] : List AV).all (closed? depth) = false := rfl
  have g4 : snap .any depth h (.ref b a.length 0 a.length) = some (.lst (puls a)) := snap_rpuls (d := 9) (by simp) hh rfl
  have g6 : snap .any depth h (.lst (puls a)) = some (.lst (puls a)) := by
    generalize puls a = l
    cases l <;> rfl
  have g5 : ([.lst (puls a), .ref b a.length 0 a.length] : List AV).mapM (snap .any depth h) = some [.lst (puls a), .lst (puls a)] := by
    simp only [List.mapM_cons, List.mapM_nil, g4, g6]; rfl
  unfold callN
  simp only [g1, g2, g3, cond_false, g5, Option.bind_some, hr, h1]
  rfl
set_option maxHeartbeats 4000000 in
set_option maxRecDepth 100000 in
theorem a6_ok (h : Heap) (W : Nat) (hW : W ≤ 65536) (G : Nat → Bool) (hG : h[3]? = some (.row false 1 (bols W G))) (gs : List Iv) (hgs : gs.length ≤ 65536) (hc : Cov G W 0 gs) (Q : Out → Prop) (sl : List (Nat × AV)) (g14 : getS sl (.tup []) 14 = .int .i64 W) (g19 : getS sl (.tup []) 19 = .lst (ivs gs)) (g25 : getS sl (.tup []) 25 = .ref 3 W 0 W)
    (q : ∀ sl', Keep ks7 sl sl' → Q (.normal ⟨432, .tup [], sl', []⟩ h)) : Gives (exec env (callL env) (loopL env) A6 ⟨432, .tup [], sl, []⟩ h) Q := by
  simp (disch := omega) [A6, A5, A4, A3, A2, A0, Y3, T3, Tryz.f3]
  generalize hx : loopL env _ _ _ = L
  apply gives_cut hx
  clear hx
  refine gives_codeL (c' := lp Tryz.f3 6) (by kernel_rfl) ?_
  refine gap_loop h W hW G hG gs hgs _ gs 0 0 _ (by omega) rfl hc (by omega) (by simp [g14]) (by simp [g19]) (by simp [g25]) (by simp) (by simp) (fun sl1 i' kk hi hx k33 => ?_)
  have b3 := kk 3 (by decide)
  have b4 := kk 4 (by decide)
  have b14 := kk.get (v := .int .i64 W) (t := 14) (by simp [g14]) (by decide)
  have b25 := kk.get (v := .ref 3 W 0 W) (t := 25) (by simp [g25]) (by decide)
  simp at b3 b4
  simp (disch := omega)
  generalize hx2 : loopL env _ _ _ = L
  apply gives_cut hx2
  clear hx2
  refine gives_codeL (c' := lp Tryz.f3 9) (by kernel_rfl) ?_
  refine end_loop h W hW G hG _ (W - i') i' _ (by omega) hx b14 b25 k33 (fun sl2 kk2 => ?_)
  simp
  refine q sl2 (fun t ht => ?_)
  have := kk2 t ht
  simp only [ks7, List.mem_cons, List.not_mem_nil, or_false] at ht
  rcases ht with rfl | rfl
  · rw [this, b3]
  · rw [this, b4]
set_option maxHeartbeats 4000000 in
set_option maxRecDepth 100000 in
theorem a5_ok (fl : List Nat) (W : Nat) (hW : W ≤ 65536) (hfl : fl.length = 2 * W) (hfb : ∀ x ∈ fl, x < 256) (left : List Pu) (hlf : left.length ≤ 4096) (gs : List Iv) (hgs : gs.length ≤ 65536) (hd : decG (unp fl W 0) W 0 [] [] = (left, gs)) (O G : Nat → Bool) (hc : Cov G W 0 gs) (Q : Out → Prop) (sl : List (Nat × AV))
    (g14 : getS sl (.tup []) 14 = .int .i64 W) (g15 : getS sl (.tup []) 15 = .ref 0 (2 * W) 0 (2 * W)) (g24 : getS sl (.tup []) 24 = .ref 2 left.length 0 left.length) (g25 : getS sl (.tup []) 25 = .ref 3 W 0 W) (g26 : getS sl (.tup []) 26 = .int .i64 W)
    (q : ∀ sl' h', Keep ks7 sl sl' → Q (.normal ⟨432, .tup [], sl', []⟩ h')) : Gives (exec env (callL env) (loopL env) A5 ⟨432, .tup [], sl, []⟩ [Ent.row false 1 (byts fl), Ent.row false 1 (bols W O), Ent.row false 3 (puls left), Ent.row false 1 (bols W G)]) Q := by
  have e6 := c6r fl W hfl (by omega) hfb left gs hd hlf [Ent.row false 1 (byts fl), Ent.row false 1 (bols W O), Ent.row false 3 (puls left), Ent.row false 1 (bols W G)] rfl
  have e7 := c7r left (by omega) 2 [Ent.row false 1 (byts fl), Ent.row false 1 (bols W O), Ent.row false 3 (puls left), Ent.row false 1 (bols W G)] rfl
  refine gives_code A5_eq ?_
  simp (disch := omega) [A5, A4, A3, A2, A0, Y3, T3, Tryz.f3, g14, g15, g24, g26, e6, e7]
  refine a6_ok _ W hW G rfl gs hgs hc _ _ (by simp [g14]) (by simp) (by simp [g25]) (fun sl' kk => q sl' _ (fun t ht => ?_))
  rw [kk t ht]
  simp only [ks7, List.mem_cons, List.not_mem_nil, or_false] at ht
  rcases ht with rfl | rfl <;> simp
end Heard

open Go Go.Proofs Go.Abs
namespace Heard
theorem bols_rep (W : Nat) : List.replicate W (AV.bool false) = bols W fun _ => false := by simp [bols, List.map_const']
theorem Keep.mono {ks : List Nat} {a b c : List (Nat × AV)} (h : Keep ks b c) (g : ∀ t ∈ ks, getS b (.tup []) t = getS a (.tup []) t) : Keep ks a c := fun t ht => (h t ht).trans (g t ht)
variable (l : List Pu) (hval : validP l = 0) (nl : List Nat) (hnl : encV l.length l = nats' nl) (h2 : ∀ v ∈ nl, v < 2048)
 include hval hnl h2
set_option maxHeartbeats 4000000 in
set_option maxRecDepth 100000 in
theorem a4_ok (fl : List Nat) (hfl : fl.length = 2 * nl.length) (hfb : ∀ x ∈ fl, x < 256) (O : Nat → Bool) (hf : ∀ w, w < nl.length → FlO (nl.flatMap bw) O fl w) (Q : Out → Prop) (sl : List (Nat × AV))
    (g0 : getS sl (.tup []) 0 = .lst (puls l)) (g14 : getS sl (.tup []) 14 = .int .i64 nl.length) (g15 : getS sl (.tup []) 15 = .ref 0 (2 * nl.length) 0 (2 * nl.length)) (g21 : getS sl (.tup []) 21 = .ref 1 nl.length 0 nl.length)
    (q : ∀ sl' h', Keep ks7 sl sl' → Q (.normal ⟨432, .tup [], sl', []⟩ h')) : Gives (exec env (callL env) (loopL env) A4 ⟨432, .tup [], sl, []⟩ [Ent.row false 1 (byts fl), Ent.row false 1 (bols nl.length O)]) Q := by
  obtain ⟨hl, hok, hord⟩ := validP_zero hval
  have hlen : (encV l.length l).length = nl.length := by rw [hnl]; simp
  have hr := (encV_range l.length l hord hok).2
  have hW : nl.length ≤ 65536 := by omega
  have ht : ∀ p ∈ l, 0 ≤ p.t ∧ p.t ≤ 1000000000 := fun p hp => by
    have := hok p hp
    simp [Pu.ok] at this
    omega
  have hu := unp_mkV O nl h2 fl hf nl 0 rfl
  rw [Nat.mul_zero, ← hnl] at hu
  have hA : At O (unp fl nl.length 0) nl.length l.length l 0 := ⟨unp_length fl _ _, Nat.le_refl _, by rw [hu]; rfl, by omega, hord, hok⟩
  obtain ⟨gps, hd, hcov⟩ := dec_law O (unp fl nl.length 0) nl.length l.length l.length l 0 nl.length [] [] (Nat.le_refl _) hA (by omega)
  simp only [List.nil_append] at hd
  have hcv := hcov (fun _ => false)
  have hgl : gps.length ≤ 65536 := by
    have key : ∀ (gs : List Iv) (i : Nat) (G : Nat → Bool), i ≤ nl.length → Cov G nl.length i gs → gs.length + i ≤ nl.length := by
      intro gs
      induction gs with
      | nil => intro i G hi _; simpa using hi
      | cons g gs ih =>
        intro i G hi hc
        obtain ⟨lo, hi', _, c1, c2, c3, _, _, c6⟩ := hc
        have := ih (hi' + 1) G (by omega) c6
        simp only [List.length_cons]
        omega
    have := key gps 0 _ (by omega) hcv
    omega
  have hkl := kept_length O l.length l 0
  refine gives_code A4_eq ?_
  have hm8 : ¬ 140737488355328 < (nl.length : Int) := by omega
  have hm6 : ¬ (nl.length : Int) < 0 := by omega
  simp (disch := omega) [A4, A3, A2, A0, Y3, T3, Tryz.f3, g14, hm8, hm6, bols_rep]
  generalize hx : loopL env _ _ _ = L
  apply gives_cut hx
  clear hx
  refine gives_codeL (c' := lp Tryz.f3 2) (by kernel_rfl) ?_
  refine grp_loop _ l hl ht nl.length hW O _ l.length l 0 0 [] (fun _ => false) _ rfl (by omega) (Nat.le_refl _) (by omega) (by simp) (by simp [g0]) (by simp [g14]) (by simp [g21]) (by simp) (by simp) (by simp) (by simp) (fun sl1 kk k26 k24 => ?_)
  simp only [List.nil_append] at k24
  have b3 := kk 3 (by decide)
  have b4 := kk 4 (by decide)
  have b14 := kk.get (v := .int .i64 nl.length) (t := 14) (by simp [g14]) (by decide)
  have b15 := kk.get (v := .ref 0 (2 * nl.length) 0 (2 * nl.length)) (t := 15) (by simp [g15]) (by decide)
  have b25 := kk.get (v := .ref 3 nl.length 0 nl.length) (t := 25) (by simp) (by decide)
  simp at b3 b4
  simp (disch := omega)
  refine a5_ok fl nl.length hW hfl hfb _ (by omega) gps hgl hd O _ hcv _ sl1 b14 b15 k24 b25 k26 (fun sl' h' kk2 => q sl' h' (kk2.mono fun t ht => ?_))
  simp only [ks7, List.mem_cons, List.not_mem_nil, or_false] at ht
  rcases ht with rfl | rfl
  · exact b3
  · exact b4
set_option maxHeartbeats 4000000 in
set_option maxRecDepth 100000 in
theorem a3_ok (lost : List Int) (hll : lost.length < 2 ^ 50) (fl : List Nat) (hfl : fl.length = 2 * nl.length) (hfb : ∀ x ∈ fl, x < 256) (hf : ∀ w, w < nl.length → Fl1 (w2 (nl.flatMap bw) (2 * w)) (w2 fl (2 * w))) (Q : Out → Prop) (sl : List (Nat × AV))
    (g0 : getS sl (.tup []) 0 = .lst (puls l)) (g2 : getS sl (.tup []) 2 = .lst (ints lost)) (g11 : getS sl (.tup []) 11 = .lst (byts (nl.flatMap bw))) (g14 : getS sl (.tup []) 14 = .int .i64 nl.length) (g15 : getS sl (.tup []) 15 = .ref 0 (2 * nl.length) 0 (2 * nl.length))
    (q : ∀ sl' h', Keep ks7 sl sl' → Q (.normal ⟨432, .tup [], sl', []⟩ h')) : Gives (exec env (callL env) (loopL env) A3 ⟨432, .tup [], sl, []⟩ [Ent.row false 1 (byts fl)]) Q := by
  obtain ⟨hl, hok, hord⟩ := validP_zero hval
  have hlen : (encV l.length l).length = nl.length := by rw [hnl]; simp
  have hr := (encV_range l.length l hord hok).2
  have hW : nl.length ≤ 65536 := by omega
  refine gives_code A3_eq ?_
  have hm8 : ¬ 140737488355328 < (nl.length : Int) := by omega
  have hm6 : ¬ (nl.length : Int) < 0 := by omega
  simp (disch := omega) [A3, A2, A0, Y3, T3, Tryz.f3, g14, hm8, hm6, bols_rep]
  generalize hx : loopL env _ _ _ = L
  apply gives_cut hx
  clear hx
  refine gives_codeL (c' := lp Tryz.f3 1) (by kernel_rfl) ?_
  refine lost_loop lost hll nl.length hW (nl.flatMap bw) (bw_length nl) (bw_lt nl h2) _ lost.length 0 fl (fun _ => false) _ (by omega) hfl hfb (fun w hw => by simp only [FlO, Bool.false_eq_true, if_false]; exact hf w hw) (by simp [g2]) (by simp [g11]) (by simp [g14]) (by simp [g15]) (by simp) (by simp) (fun sl1 fl' O' kk hl' hb' hf' => ?_)
  have b0 := kk.get (v := .lst (puls l)) (t := 0) (by simp [g0]) (by decide)
  have b3 := kk 3 (by decide)
  have b4 := kk 4 (by decide)
  have b14 := kk.get (v := .int .i64 nl.length) (t := 14) (by simp [g14]) (by decide)
  have b15 := kk.get (v := .ref 0 (2 * nl.length) 0 (2 * nl.length)) (t := 15) (by simp [g15]) (by decide)
  have b21 := kk.get (v := .ref 1 nl.length 0 nl.length) (t := 21) (by simp) (by decide)
  simp at b3 b4
  simp (disch := omega)
  refine a4_ok l hval nl hnl h2 fl' hl' hb' O' hf' _ sl1 b0 b14 b15 b21 (fun sl' h' kk2 => q sl' h' (kk2.mono fun t ht => ?_))
  simp only [ks7, List.mem_cons, List.not_mem_nil, or_false] at ht
  rcases ht with rfl | rfl
  · exact b3
  · exact b4
set_option maxHeartbeats 4000000 in
set_option maxRecDepth 100000 in
theorem a2_ok (lost : List Int) (hll : lost.length < 2 ^ 50) (fl : List Nat) (hfl : fl.length = 2 * nl.length) (hfb : ∀ x ∈ fl, x < 256) (hf : ∀ w, w < nl.length → Fl1 (w2 (nl.flatMap bw) (2 * w)) (w2 fl (2 * w))) (Q : Out → Prop) (sl : List (Nat × AV))
    (g0 : getS sl (.tup []) 0 = .lst (puls l)) (g2 : getS sl (.tup []) 2 = .lst (ints lost)) (g11 : getS sl (.tup []) 11 = .lst (byts (nl.flatMap bw))) (g14 : getS sl (.tup []) 14 = .int .i64 nl.length) (g15 : getS sl (.tup []) 15 = .ref 0 (2 * nl.length) 0 (2 * nl.length))
    (q : ∀ sl' h', Keep ks7 sl sl' → Q (.normal ⟨432, .tup [], sl', []⟩ h')) : Gives (exec env (callL env) (loopL env) A2 ⟨432, .tup [], sl, []⟩ [Ent.row false 1 (byts fl)]) Q := by
  obtain ⟨hl, hok, hord⟩ := validP_zero hval
  have hlen : (encV l.length l).length = nl.length := by rw [hnl]; simp
  have hr := (encV_range l.length l hord hok).2
  have hu := unp_mkV (fun _ => false) nl h2 fl (fun w hw => by simp only [FlO, Bool.false_eq_true, if_false]; exact hf w hw) nl 0 rfl
  rw [Nat.mul_zero, ← hnl] at hu
  have hA : At (fun _ => false) (unp fl nl.length 0) nl.length l.length l 0 := ⟨unp_length fl _ _, Nat.le_refl _, by rw [hu]; rfl, by omega, hord, hok⟩
  obtain ⟨gps, hd, hcov⟩ := dec_law (fun _ => false) (unp fl nl.length 0) nl.length l.length l.length l 0 nl.length [] [] (Nat.le_refl _) hA (by omega)
  have hcv := hcov (fun _ => false)
  obtain rfl := cov_none (gone_none (fun _ => false) (fun _ => rfl) l.length l 0 (fun _ => false) (fun _ => rfl)) hcv
  rw [kept_all (fun _ => false) (fun _ => rfl) l.length l 0 (Nat.le_refl _)] at hd
  simp only [List.nil_append] at hd
  have e6 := c6r fl nl.length hfl (by omega) hfb l [] hd (by omega) [Ent.row false 1 (byts fl)] rfl
  have e7 := c7 l (by omega) [Ent.row false 1 (byts fl)]
  refine gives_code A2_eq ?_
  simp (disch := omega) [A2, A0, Y3, T3, Tryz.f3, g0, g15, e6, e7]
  refine a3_ok l hval nl hnl h2 lost hll fl hfl hfb hf _ _ (by simp [g0]) (by simp [g2]) (by simp [g11]) (by simp [g14]) (by simp [g15]) (fun sl' h' kk2 => q sl' h' (kk2.mono fun t ht => ?_))
  simp only [ks7, List.mem_cons, List.not_mem_nil, or_false] at ht
  rcases ht with rfl | rfl <;> simp
end Heard

open Go Go.Proofs Go.Abs
namespace Heard
theorem byts_one (l : List Nat) : allOne (byts l) = true := by simp [allOne, byts]
theorem news_byts (h : Heap) (l : List Nat) : newsA h 1 (.lst (byts l)) = some (byts l) := by
  have h1 : newsA h 1 (.lst (byts l)) = if (byts l).all (fun e => e.cells.length == 1) = true then some (byts l) else none := rfl
  rw [h1, byts_all, if_pos rfl]
theorem T3_eq : T3 = .seq (sq0 T3) (.seq (sq0 (sq1 T3)) (.seq (sq0 (sq1 (sq1 T3))) (.seq (.seq (sq0 (sq0 Y3)) (.cond (.tmp 53) A0 .skip)) DP3))) := by kernel_rfl
set_option maxHeartbeats 4000000 in
set_option maxRecDepth 100000 in
theorem a0_ok (l : List Pu) (hval : validP l = 0) (nl : List Nat) (hnl : encV l.length l = nats' nl) (h2 : ∀ v ∈ nl, v < 2048) (bits lost : List Int) (hbl : bits.length < 2 ^ 50) (hll : lost.length < 2 ^ 50) (Q : Out → Prop) (sl : List (Nat × AV))
    (g0 : getS sl (.tup []) 0 = .lst (puls l)) (g1 : getS sl (.tup []) 1 = .lst (ints bits)) (g2 : getS sl (.tup []) 2 = .lst (ints lost)) (g11 : getS sl (.tup []) 11 = .lst (byts (nl.flatMap bw)))
    (q : ∀ sl' h', Keep ks7 sl sl' → Q (.normal ⟨432, .tup [], sl', []⟩ h')) : Gives (exec env (callL env) (loopL env) A0 ⟨432, .tup [], sl, []⟩ []) Q := by
  obtain ⟨hl, hok, hord⟩ := validP_zero hval
  have hlen : (encV l.length l).length = nl.length := by rw [hnl]; simp
  have hr := (encV_range l.length l hord hok).2
  have hW : nl.length ≤ 65536 := by omega
  have hml := bw_length nl
  have hmb := bw_lt nl h2
  have ha2 := a2_ok l hval nl hnl h2 lost hll
  generalize nl.flatMap bw = msg at *
  have e1 : (msg.length : Int).tmod 2 = 0 := by rw [Int.tmod_eq_emod_of_nonneg (by omega)]; omega
  have e2 : (msg.length : Int).tdiv 2 = nl.length := by rw [Int.tdiv_eq_ediv_of_nonneg (by omega)]; omega
  have e3 : IntKind.i64.wrap (nl.length : Int) = nl.length := wrapI (by omega) (by omega)
  have nb := fun h => news_byts h msg
  have ob := byts_one msg
  have bl := byts_length msg
  have e4 : (byts msg).length = 2 * nl.length := by rw [bl, hml]
  refine gives_code A0_eq ?_
  simp (disch := omega) [-byts_length, A0, Y3, T3, Tryz.f3, g11, bl, e1, e2, e3, nb, ob]
  generalize hx : loopL env _ _ _ = L
  apply gives_cut hx
  clear hx
  refine gives_codeL (c' := lp Tryz.f3 0) (by kernel_rfl) ?_
  refine flip_loop bits hbl nl.length hW msg _ nl.length 0 msg _ (by omega) hml hmb (fun w hw => .inl rfl) (fun w _ _ => rfl) (by simp [g1]) (by simp) (by simp [hml]) (by simp) (fun sl1 fl kk hl' hb' hf' => ?_)
  have b0 := kk.get (v := .lst (puls l)) (t := 0) (by simp [g0]) (by decide)
  have b2 := kk.get (v := .lst (ints lost)) (t := 2) (by simp [g2]) (by decide)
  have b3 := kk 3 (by decide)
  have b4 := kk 4 (by decide)
  have b11 := kk.get (v := .lst (byts msg)) (t := 11) (by simp [g11]) (by decide)
  have b14 := kk.get (v := .int .i64 nl.length) (t := 14) (by simp) (by decide)
  have b15 := kk.get (v := .ref 0 (2 * nl.length) 0 (2 * nl.length)) (t := 15) (by simp [hml]) (by decide)
  simp at b3 b4
  simp (disch := omega)
  refine ha2 fl hl' hb' hf' _ sl1 b0 b2 b11 b14 b15 (fun sl' h' kk2 => q sl' h' (kk2.mono fun t ht => ?_))
  simp only [ks7, List.mem_cons, List.not_mem_nil, or_false] at ht
  rcases ht with rfl | rfl
  · exact b3
  · exact b4
theorem c5 (l : List Pu) (hl : l.length < 2 ^ 62) (h : Heap) : callN env (callL env) 5 [.lst (puls l)] h = some (.int .i64 (validP l), h) := by
  obtain ⟨r, hr, h1⟩ := gives_iff.1 (r4valid_ok l hl)
  exact callE rfl rfl hr (by rw [h1]; rfl) h
set_option maxHeartbeats 4000000 in
set_option maxRecDepth 100000 in
/-- TopHeard answers true. -/
theorem topHeard_ok (c10 : ∀ h, callN env (callL env) 10 [] h = some (.bool true, h)) (l : List Pu) (bits lost a b : List Int) (hl : l.length < 2 ^ 50) (hbl : bits.length < 2 ^ 50) (hll : lost.length < 2 ^ 50) (hla : a.length < 2 ^ 50) (hlb : b.length < 2 ^ 50) :
    Gives (callL env 3 [.lst (puls l), .lst (ints bits), .lst (ints lost), .lst (ints a), .lst (ints b)] []) fun r => r.1 = .bool true := by
  have e5 := c5 l (by omega)
  apply gives_call
  suffices hh : Gives (exec env (callL env) (loopL env) T3 (entry Tryz.f3 [.lst (puls l), .lst (ints bits), .lst (ints lost), .lst (ints a), .lst (ints b)]) []) (fun o => ∃ sl' h', o = .ret ⟨432, .tup [], sl', []⟩ h' ∧ getS sl' (.tup []) 10 = .bool true) by
    obtain ⟨o, ho, sl', h', rfl, h10⟩ := gives_iff.1 hh
    refine gives_iff.2 ⟨(.bool true, h'), ?_, rfl⟩
    have hf : env.fn 3 = some Tryz.f3 := by rw [envfn]; exact fn3
    have hb : Tryz.f3.body = some T3 := by kernel_rfl
    unfold body
    simp only [hf, hb, ho, leave]
    have hres : Tryz.f3.results.toList = [.tmp 10] := by kernel_rfl
    rw [hres]
    simp [resultsA, resA, h10]
  generalize hQ : (fun o : Out => ∃ sl' h', o = .ret ⟨432, .tup [], sl', []⟩ h' ∧ getS sl' (.tup []) 10 = .bool true) = Q
  have q : ∀ sl' h', getS sl' (.tup []) 10 = .bool true → Q (.ret ⟨432, .tup [], sl', []⟩ h') := fun sl' h' h => by
    subst hQ; exact ⟨sl', h', rfl, h⟩
  have hent : entry Tryz.f3 [.lst (puls l), .lst (ints bits), .lst (ints lost), .lst (ints a), .lst (ints b)] = ⟨432, .tup [], [(0, .lst (puls l)), (1, .lst (ints bits)), (2, .lst (ints lost)), (3, .lst (ints a)), (4, .lst (ints b))], []⟩ := by kernel_rfl
  rw [hent]
  clear hQ hent
  refine gives_code T3_eq ?_
  by_cases hv : validP l = 0
  · obtain ⟨hl4, hok, hord⟩ := validP_zero hv
    obtain ⟨hr1, hr2⟩ := encV_range l.length l hord hok
    obtain ⟨nl, hnl, hnll, h2⟩ := nats'_of _ hr1
    obtain ⟨r, hr, h1⟩ := gives_iff.1 (encode_ok l nl hl4 hv hok hnl h2 (by omega))
    have e4 := fun h => callE (h := h) (f := 4) rfl (by simp [closed?, depth]) hr h1
    have ha0 := a0_ok l hv nl hnl h2 bits lost hbl hll
    simp (disch := omega) [Y3, T3, Tryz.f3, e4, e5, hv]
    generalize hx : exec env _ _ A0 _ _ = L
    apply gives_cut hx
    clear hx
    refine ha0 _ _ (by simp) (by simp) (by simp) (by simp) (fun sl' h' kk => ?_)
    have b3 := kk.get (v := .lst (ints a)) (t := 3) (by simp) (by decide)
    have b4 := kk.get (v := .lst (ints b)) (t := 4) (by simp) (by decide)
    simp only
    exact dp_ok c10 a b hla hlb h' Q sl' b3 b4 q
  · obtain ⟨r, hr, h1⟩ := gives_iff.1 (encode_bad l (by omega) hv)
    have e4 := fun h => callE (h := h) (f := 4) rfl (by simp [closed?, depth]) hr h1
    simp (disch := omega) [Y3, T3, Tryz.f3, e4, e5, hv]
    exact dp_ok c10 a b hla hlb _ Q _ (by simp) (by simp) q
end Heard
