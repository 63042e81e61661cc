/- TopRival: the laws. -/
import Derived.Test.YtgdcimpndddepaaGreatRM
/- TopRival: laws: the least codes are a plan; least of all; the sorted trains. -/
open Go Go.Proofs Go.Abs
namespace Rival
theorem lng_lt : ∀ (n z : Nat), z < 2 ^ n → z < 2 ^ lng n z
  | 0, z, h => by simpa [lng] using h
  | n + 1, z, h => by
    simp only [lng]
    split
    · subst z; simp
    · have h2 : z / 2 < 2 ^ n := by rw [Nat.pow_succ] at h; omega
      have := lng_lt n (z / 2) h2
      rw [Nat.pow_succ]
      omega
theorem lng_le : ∀ (n z m : Nat), z < 2 ^ m → lng n z ≤ m
  | 0, _, _, _ => Nat.zero_le _
  | n + 1, z, m, h => by
    simp only [lng]
    split
    · omega
    · cases m with
      | zero => simp at h; omega
      | succ m =>
        have h2 : z / 2 < 2 ^ m := by rw [Nat.pow_succ] at h; omega
        have := lng_le n (z / 2) m h2
        omega
theorem lng_mono {a b : Nat} (h : a ≤ b) (hb : b < 4096) : lng 12 a ≤ lng 12 b := lng_le 12 a _ (Nat.lt_of_le_of_lt h (lng_lt 12 b hb))
theorem stepsV_in {k : Int} (h : 0 ≤ k ∧ k ≤ 4095) : stepsV k = (((lng 12 k.toNat : Nat) : Int), 0) := by
  have : inB k 0 4095 = true := by simp [inB]; omega
  simp [stepsV, this]
theorem mxF_ge (v : List Int) : ∀ (n i : Nat) (a : Int), a ≤ mxF v n i a ∧ ∀ x, i ≤ x → x < i + n → (stepsV (nth 0 v x)).1 ≤ mxF v n i a
  | 0, i, a => ⟨Int.le_refl _, fun x h1 h2 => by omega⟩
  | n + 1, i, a => by
    obtain ⟨h1, h2⟩ := mxF_ge v n (i + 1) (max a (stepsV (nth 0 v i)).1)
    simp only [mxF]
    refine ⟨by omega, fun x g1 g2 => ?_⟩
    by_cases hx : x = i
    · subst hx; omega
    · exact h2 x (by omega) (by omega)
theorem mxF_le (v : List Int) (b : Int) : ∀ (n i : Nat) (a : Int), a ≤ b → (∀ x, i ≤ x → x < i + n → (stepsV (nth 0 v x)).1 ≤ b) → mxF v n i a ≤ b
  | 0, _, _, h, _ => h
  | n + 1, i, a, h, hx => by
    have := hx i (Nat.le_refl _) (by omega)
    exact mxF_le v b n (i + 1) _ (by omega) fun x h1 h2 => hx x (by omega) (by omega)
theorem mxV_ge (v : List Int) {x : Nat} (hx : x < v.length) : (stepsV (nth 0 v x)).1 ≤ mxV v := (mxF_ge v v.length 0 0).2 x (by omega) (by omega)
theorem mxV_le {v : List Int} {b : Int} (hb : 0 ≤ b) (h : ∀ x, x < v.length → (stepsV (nth 0 v x)).1 ≤ b) : mxV v ≤ b := mxF_le v b v.length 0 0 hb fun x _ h2 => h x (by omega)
theorem mxV_rng (v : List Int) : 0 ≤ mxV v ∧ mxV v ≤ 12 := ⟨(mxF_ge v v.length 0 0).1, mxV_le (by omega) fun x _ => (stepsV_rng _).2⟩
/-- The greatest length is that of the greatest code. -/
theorem mxV_max {v : List Int} (hr : ∀ k, 0 ≤ nth 0 v k ∧ nth 0 v k ≤ 4095) {M : Int} (h : v = [] ∧ M = 0 ∨ IsMax v M) : stepsV M = (mxV v, 0) := by
  rcases h with ⟨rfl, rfl⟩ | ⟨⟨x, hx, rfl⟩, hm⟩
  · rfl
  · rw [stepsV_in (hr x)]
    have h1 := mxV_ge v hx
    rw [stepsV_in (hr x)] at h1
    have h2 : mxV v ≤ ((lng 12 (nth 0 v x).toNat : Nat) : Int) := mxV_le (by omega) fun y hy => by
      rw [stepsV_in (hr y)]
      have := hm y hy
      have := hr y
      have := hr x
      have := lng_mono (a := (nth 0 v y).toNat) (b := (nth 0 v x).toNat) (by omega) (by omega)
      simp only
      omega
    have : mxV v = ((lng 12 (nth 0 v x).toNat : Nat) : Int) := by omega
    rw [this]
theorem Sol.code {l : List It} {w : Int} (hf : Fine l w) {v : List Int} (h : Sol l w v) {y : Nat} (hy : y < l.length) : isB (nth 0 v y) (nth default l y).r w = true ∧ baseV l v y ≤ nth 0 v y ∧ ∀ k, baseV l v y ≤ k → k < nth 0 v y → isB k (nth default l y).r w = false :=
  nextV_0 (baseV_nonneg l v y) (hf.form hy) (h.2 y hy)
/-- What is asked of codes. -/
def Asked (l : List It) (v : List Int) : Prop := ∀ x y, x < l.length → y < l.length → 0 < kindV l x y → nth 0 v x + kindV l x y / 2 ≤ nth 0 v y
theorem Sol.asked {l : List It} {w : Int} (hf : Fine l w) {v : List Int} (h : Sol l w v) : Asked l v := fun x y hx hy hk => by
  have h1 := baseV_ge (v := v) hx hk
  have h2 := (h.code hf hy).2.1
  omega
theorem vCodes_zero {w s : Int} {l : List It} {ks : List Int} : ∀ (n i : Nat), vCodes w s l ks n i = 0 ↔ ∀ x, i ≤ x → x < i + n → kOk w s (nth 0 ks x) (nth default l x) = true
  | 0, i => ⟨fun _ x h1 h2 => by omega, fun _ => rfl⟩
  | n + 1, i => by
    simp only [vCodes]
    cases hb : kOk w s (nth 0 ks i) (nth default l i)
    · simp only [if_true]
      constructor
      · intro h; cases h
      · intro h
        have := h i (Nat.le_refl _) (by omega)
        rw [hb] at this; cases this
    · simp only [Bool.true_eq_false, if_false]
      rw [vCodes_zero n (i + 1)]
      constructor
      · intro h x h1 h2
        by_cases hx : x = i
        · subst hx; exact hb
        · exact h x (by omega) (by omega)
      · intro h x h1 h2
        exact h x (by omega) (by omega)
/-- A plan that fits. -/
theorem vPlan_zero {l : List It} {w s : Int} {ks : List Int} : vPlan l w s ks = 0 ↔ vJob l w = 0 ∧ 0 ≤ s ∧ s ≤ 12 ∧ ks.length = l.length ∧ ∀ x, x < l.length → isB (nth 0 ks x) (nth default l x).r w = true ∧ nth 0 ks x < 2 ^ s.toNat := by
  unfold vPlan
  constructor
  · intro h
    split at h
    · rename_i hj; exact absurd h hj
    · rename_i hj
      split at h
      · cases h
      · rename_i hc
        simp only [not_or, Decidable.not_not, ne_eq] at hc hj
        refine ⟨hj, by omega, by omega, hc.2.2, fun x hx => ?_⟩
        have := (vCodes_zero ks.length 0).1 h x (by omega) (by omega)
        simpa [kOk] using this
  · rintro ⟨h1, h2, h3, h4, h5⟩
    rw [if_neg (by simpa using h1), if_neg (by simp only [not_or, Decidable.not_not, ne_eq]; omega)]
    refine (vCodes_zero ks.length 0).2 fun x _ hx => ?_
    have := h5 x (by omega)
    simpa [kOk] using this
theorem Sol.plan {l : List It} {w : Int} (h0 : vJob l w = 0) {v : List Int} (h : Sol l w v) (hr : ∀ k, 0 ≤ nth 0 v k ∧ nth 0 v k ≤ 4095) : vPlan l w (mxV v) v = 0 := by
  have hm := mxV_rng v
  refine vPlan_zero.2 ⟨h0, hm.1, hm.2, h.1, fun x hx => ⟨(h.code (fine_of h0) hx).1, ?_⟩⟩
  have h1 := mxV_ge v (x := x) (by rw [h.1]; exact hx)
  have h2 := hr x
  rw [stepsV_in h2] at h1
  simp only at h1
  have h3 := lng_lt 12 (nth 0 v x).toNat (by omega)
  have h4 : 2 ^ lng 12 (nth 0 v x).toNat ≤ 2 ^ (mxV v).toNat := Nat.pow_le_pow_right (by omega) (by omega)
  have h5 : (nth 0 v x).toNat < 2 ^ (mxV v).toNat := by omega
  have h6 : (((nth 0 v x).toNat : Nat) : Int) < ((2 ^ (mxV v).toNat : Nat) : Int) := by exact_mod_cast h5
  have h7 : ((2 ^ (mxV v).toNat : Nat) : Int) = 2 ^ (mxV v).toNat := by simp
  omega
/-- Codes by which the items are sorted are nowhere less than the least ones; and then there are least ones. -/
theorem least_le {l : List It} {w : Int} (hf : Fine l w) {v ks : List Int} (hs : Sol l w v) (hk : ∀ x, x < l.length → isB (nth 0 ks x) (nth default l x).r w = true) (ha : Asked l ks) : ∀ x, x < l.length → nth 0 v x ≤ nth 0 ks x := by
  have key : ∀ (n : Nat) (y : Nat), y < l.length → (nth default l y).b < n → nth 0 v y ≤ nth 0 ks y := by
    intro n
    induction n with
    | zero =>
      intro y hy hb
      have := hf.item y hy
      simp at hb
      omega
    | succ n ih =>
      intro y hy hb
      have h1 : baseV l v y ≤ nth 0 ks y := baseV_le (isB_range (hk y hy)).1 fun x hx hxy => by
        have := ih x hx (by have := (kind_block hxy).1; omega)
        have := ha x y hx hy hxy
        omega
      obtain ⟨_, h2, h3⟩ := hs.code hf hy
      by_cases hc : nth 0 v y ≤ nth 0 ks y
      · exact hc
      · have := h3 (nth 0 ks y) h1 (by omega)
        rw [hk y hy] at this
        cases this
  intro x hx
  exact key 32 x hx (by have := hf.item x hx; omega)
/-- If some codes do what is asked, there are least ones. -/
theorem least_ex {l : List It} {w : Int} (hf : Fine l w) {o : List Nat} (ho : Ord l o) {ks : List Int} (hk : ∀ x, x < l.length → isB (nth 0 ks x) (nth default l x).r w = true) (ha : Asked l ks) : ∃ v, Sol l w v := by
  have key : ∀ m, m ≤ o.length → ∃ bs v, Stage l w o m bs v ∧ ∀ y, y ∈ o.take m → nth 0 v y ≤ nth 0 ks y := by
    intro m
    induction m with
    | zero => exact fun _ => ⟨_, _, ho.stage, fun y hy => by simp at hy⟩
    | succ m ih =>
      intro hm
      obtain ⟨bs, v, hs, hle⟩ := ih (by omega)
      have hy := ho.lt (m := m) (by omega)
      have hpre : ∀ x, x < l.length → 0 < kindV l x (nth 0 o m) → x ∈ o.take m := fun x hx hxk => Stage.preds ho (by omega) hx hxk
      have hb : baseV l v (nth 0 o m) ≤ nth 0 ks (nth 0 o m) := baseV_le (isB_range (hk _ hy)).1 fun x hx hxy => by
        have := hle x (hpre x hx hxy)
        have := ha x _ hx hy hxy
        omega
      rcases nextV_cases (baseV_nonneg l v (nth 0 o m)) (hf.form hy) with ⟨k, h1, h2, h3, h4⟩ | ⟨h1, h2⟩
      · have hkk : k ≤ nth 0 ks (nth 0 o m) := by
          by_cases hc : k ≤ nth 0 ks (nth 0 o m)
          · exact hc
          · have := h4 _ hb (by omega)
            rw [hk _ hy] at this
            cases this
        refine ⟨_, _, hs.succ ho (by omega) h1 (isB_range h2), fun y hyt => ?_⟩
        rw [nth_set _ _ _ _ _ (by rw [hs.part.len]; exact hy)]
        split
        · rename_i e; rw [e]; exact hkk
        · rename_i e
          refine hle y ?_
          rw [mem_take_nth (by omega)] at hyt ⊢
          obtain ⟨i, hi, he⟩ := hyt
          refine ⟨i, ?_, he⟩
          by_cases him : i = m
          · subst him; exact absurd he.symm e
          · omega
      · have := h2 _ hb
        rw [hk _ hy] at this
        cases this
  obtain ⟨bs, v, hs, _⟩ := key o.length (Nat.le_refl _)
  refine ⟨v, hs.part.sol fun x hx => ?_⟩
  obtain ⟨i, hi, rfl⟩ := ho.has hx
  rw [mem_take_nth (Nat.le_refl _)]
  exact ⟨i, hi, rfl⟩
end Rival

/- TopRival: the machine sorts exactly with codes that do what is asked. -/
open Go Go.Proofs Go.Abs
namespace Rival
theorem upF_iff (l : List It) (L : List Nat) : ∀ (n k : Nat), upF l L n k = true ↔ ∀ j, k ≤ j → j < k + n → 0 < j → (nth default l (nth 0 L (j - 1))).b ≤ (nth default l (nth 0 L j)).b
  | 0, k => ⟨fun _ j h1 h2 => by omega, fun _ => rfl⟩
  | n + 1, k => by
    simp only [upF]
    split
    · rename_i h
      constructor
      · intro hf; cases hf
      · intro ha
        have := ha k (Nat.le_refl _) (by omega) h.1
        omega
    · rename_i h
      rw [upF_iff l L n (k + 1)]
      constructor
      · intro ha j h1 h2 h3
        by_cases hj : j = k
        · subst hj
          by_cases hb : (nth default l (nth 0 L j)).b < (nth default l (nth 0 L (j - 1))).b
          · exact absurd ⟨h3, hb⟩ h
          · omega
        · exact ha j (by omega) (by omega) h3
      · intro ha j h1 h2 h3
        exact ha j (by omega) (by omega) h3
theorem upT_iff (l : List It) (TL : List (List Nat)) : ∀ (n T : Nat), upT l TL n T = true ↔ ∀ t, T ≤ t → t < T + n → upF l (nth [] TL t) (nth [] TL t).length 0 = true
  | 0, T => ⟨fun _ j h1 h2 => by omega, fun _ => rfl⟩
  | n + 1, T => by
    simp only [upT, Bool.and_eq_true, upT_iff l TL n (T + 1)]
    constructor
    · rintro ⟨h1, h2⟩ t g1 g2
      by_cases ht : t = T
      · subst ht; exact h1
      · exact h2 t (by omega) (by omega)
    · intro h
      exact ⟨h T (Nat.le_refl _) (by omega), fun t g1 g2 => h t (by omega) (by omega)⟩
theorem nth_get {L : List Nat} {i : Nat} (hi : i < L.length) : nth 0 L i = L[i] := by
  rw [nth_getD, List.getD_eq_getElem?_getD, List.getElem?_eq_getElem hi]; rfl
theorem up_mono {l : List It} {L : List Nat} (h : upF l L L.length 0 = true) : ∀ {i j : Nat}, i ≤ j → j < L.length → (nth default l (nth 0 L i)).b ≤ (nth default l (nth 0 L j)).b := by
  rw [upF_iff] at h
  intro i j hij
  induction hij with
  | refl => exact fun _ => Int.le_refl _
  | @step m hm ih =>
    intro hl
    have h1 := ih (by omega)
    have h2 := h (m + 1) (by omega) (by omega) (by omega)
    rw [Nat.add_sub_cancel] at h2
    exact Int.le_trans h1 h2
theorem final_trains {l : List It} {cs : List Nat} {TL : List (List Nat)} (h0 : ∀ x, x < l.length → 0 ≤ (nth default l x).t) (h1 : ∀ x, x < l.length → (nth default l x).t < TL.length) (h2 : ∀ T, T < TL.length → Final l cs T (nth [] TL T)) : Trains l TL :=
  ⟨fun x hx => ⟨h0 x hx, h1 x hx⟩, fun T hT => (h2 T hT).sorted.imp fun {a b} hab (e : a = b) => by subst e; omega, fun T hT => (h2 T hT).mem⟩
theorem sorted_asked {l : List It} {cs : List Nat} {TL : List (List Nat)} (h0 : ∀ x, x < l.length → 0 ≤ (nth default l x).t) (h1 : ∀ x, x < l.length → (nth default l x).t < TL.length) (h2 : ∀ T, T < TL.length → Final l cs T (nth [] TL T)) : upT l TL TL.length 0 = true ↔ Asked l (cs.map Int.ofNat) := by
  rw [upT_iff]
  constructor
  · intro h x y hx hy hk
    obtain ⟨hb, ht⟩ := kind_block hk
    obtain ⟨T, hT⟩ := Int.eq_ofNat_of_zero_le (h0 x hx)
    have hTl : T < TL.length := by have := h1 x hx; omega
    have hF := h2 T hTl
    have hu := h T (by omega) (by omega)
    obtain ⟨i, hi, hix⟩ := List.mem_iff_getElem.1 ((hF.mem x).2 ⟨hx, hT⟩)
    obtain ⟨j, hj, hjy⟩ := List.mem_iff_getElem.1 ((hF.mem y).2 ⟨hy, by omega⟩)
    have hij : i < j := by
      by_cases hc : i < j
      · exact hc
      · have := up_mono hu (show j ≤ i by omega) hi
        rw [nth_get hi, nth_get hj, hix, hjy] at this
        omega
    have hp := List.pairwise_iff_getElem.1 hF.sorted i j hi hj hij
    rw [hix, hjy] at hp
    rw [nth_map, nth_map]
    have hkv : kindV l x y = if y < x then 2 else 1 := by
      unfold kindV
      rw [if_neg (by omega)]
    rw [hkv]
    split <;> omega
  · intro ha T _ hT
    have hTl : T < TL.length := by omega
    have hF := h2 T hTl
    rw [upF_iff]
    intro j _ hj h3
    have hj1 : j < (nth [] TL T).length := by omega
    have hj0 : j - 1 < (nth [] TL T).length := by omega
    obtain ⟨x1, x2⟩ := (hF.mem (nth 0 (nth [] TL T) (j - 1))).1 (by rw [nth_get hj0]; exact List.getElem_mem hj0)
    obtain ⟨y1, y2⟩ := (hF.mem (nth 0 (nth [] TL T) j)).1 (by rw [nth_get hj1]; exact List.getElem_mem hj1)
    have hp := List.pairwise_iff_getElem.1 hF.sorted (j - 1) j hj0 hj1 (by omega)
    rw [← nth_get hj0, ← nth_get hj1] at hp
    generalize nth 0 (nth [] TL T) (j - 1) = x at *
    generalize nth 0 (nth [] TL T) j = y at *
    by_cases hc : (nth default l x).b ≤ (nth default l y).b
    · exact hc
    · exfalso
      have hkv : kindV l y x = if x < y then 2 else 1 := by
        unfold kindV
        rw [if_neg (by omega)]
      have hk : 0 < kindV l y x := by rw [hkv]; split <;> omega
      have := ha y x y1 x1 hk
      rw [nth_map, nth_map, hkv] at this
      split at this <;> omega
/-- The codes of a plan that fits, as natural numbers. -/
theorem codes_nat {ks : List Int} (h : ∀ x, x < ks.length → 0 ≤ nth 0 ks x) : ks = (ks.map Int.toNat).map Int.ofNat := by
  refine ext_nth 0 (by simp) fun k hk => ?_
  rw [nth_map]
  have e : nth 0 (ks.map Int.toNat) k = (nth 0 ks k).toNat := by
    simp only [nth_getD, List.getD_eq_getElem?_getD, List.getElem?_map]
    cases ks[k]? <;> rfl
  rw [e]
  have := h k hk
  omega
theorem plan_codes {l : List It} {w : Int} {s : Nat} {cs : List Nat} (hv : vPlan l w s (cs.map Int.ofNat) = 0) : Codes l s cs := by
  obtain ⟨h0, h1, h2, h3, h4⟩ := vPlan_zero.1 hv
  have hf := fine_of h0
  refine ⟨fun x hx => ?_, fun x hx => ?_, fun x hx => ?_, fun x hx => ?_, hf.mono⟩
  · have := (h4 x hx).2
    rw [nth_map] at this
    have e : ((2 ^ s : Nat) : Int) = 2 ^ s := by simp
    simp only [Int.toNat_natCast] at this
    omega
  · have := (h4 x hx).1
    rw [nth_map] at this
    have hr := hf.item x hx
    have hform := hf.form hx
    obtain ⟨r, hr'⟩ := Int.eq_ofNat_of_zero_le hr.2.2.2.2.1
    rw [hr'] at this hform ⊢
    exact ((isB_iff _ r w hform).1 this).2.1
  · exact (hf.item x hx).2.2.2.2.1
  · exact (hf.item x hx).1
end Rival

/- TopRival: certificate.Check of what was made. -/
open Go Go.Proofs Go.Abs
namespace Rival
theorem pl11_0 : plainD env (dr Tryz.f11 0) = true := by kernel_rfl
set_option maxRecDepth 100000 in
set_option maxHeartbeats 4000000 in
theorem pvalid_nil {w s : Int} (hv : vPlan [] w s [] = 0) : Gives (callL env 18 [jobV [] w, .agg [.int .i64 s, .nil]] []) fun r => r.1 = .int .i64 0 := by
  obtain ⟨h0, h1, h2, _, _⟩ := vPlan_zero.1 hv
  apply gives_call
  have c := fun h => c30 [] w (by simp) h
  rw [h0] at c
  simp only [jobV] at c
  have d1 : ¬ s < 0 := by omega
  have d2 : ¬ 12 < s := by omega
  simp (disch := omega) [Tryz.f18, c, d1, d2, jobV]
  generalize hx : loopL env _ _ _ = X
  apply gives_cut hx
  clear hx
  refine gives_loop ?_
  simp (disch := omega) [lp, Tryz.f18, loops]
theorem c18V {l : List It} {w s : Int} {ks : List Int} {va : AV} (sa : SlV va ks) (hv : vPlan l w s ks = 0) (h : Heap) : callN env (callL env) 18 [jobV l w, .agg [.int .i64 s, va]] h = some (.int .i64 0, h) := by
  obtain ⟨h0, h1, h2, h3, h4⟩ := vPlan_zero.1 hv
  cases sa with
  | lst =>
    have := c18 l w s ks (by have := vJob_len h0; omega) h
    rwa [hv] at this
  | nil =>
    obtain rfl : l = [] := List.eq_nil_of_length_eq_zero (by simpa using h3.symm)
    obtain ⟨r, hr, h1⟩ := gives_iff.1 (pvalid_nil hv)
    exact callE rfl (by simp [closed?, depth, jobV]) hr (by rw [h1]; rfl) h
def pfV (s : Int) (va vc : AV) : AV := .agg [.int .i64 s, va, vc]
set_option maxRecDepth 100000 in
set_option maxHeartbeats 8000000 in
theorem check_inner {l : List It} {w : Int} (h0 : vJob l w = 0) {v : List Int} (hvl : v.length = l.length) (ha : Asked l v) (hr : ∀ k, 0 ≤ nth 0 v k ∧ nth 0 v k ≤ 4095) {va vc : AV} (sa : SlV va v) {s : Int} (x : Nat) (hx : x < l.length) (tl : Heap) (Q : Out → Prop) : ∀ (n y : Nat) (sl : List (Nat × AV)), y + n = l.length →
    getS sl (.tup []) 2 = .ptr 0 1 0 0 → getS sl (.tup []) 3 = .ptr 1 1 0 0 → getS sl (.tup []) 6 = .int .i64 x → getS sl (.tup []) 29 = .int .i64 l.length → getS sl (.tup []) 30 = .int .i64 y →
    (∀ sl', Keep [2, 3, 23, 24] sl sl' → Q (.exit 2 ⟨89, .tup [], sl', []⟩ (.row false 2 [jobV l w] :: .row false 3 [pfV s va vc] :: tl))) →
    Gives (loopL env (lp Tryz.f11 1) ⟨89, .tup [], sl, []⟩ (.row false 2 [jobV l w] :: .row false 3 [pfV s va vc] :: tl)) Q := by
  have p := pl11_0
  simp [dr, drs, Tryz.f11] at p
  have hl := vJob_len h0
  obtain ⟨a1, a2, a3, a4⟩ := sa.cells
  intro n
  induction n with
  | zero =>
    intro y sl hi g2 g3 g6 g29 g30 q
    refine gives_loop ?_
    simp (disch := omega) [lp, Tryz.f11, loops, g29, g30, decF]
    exact q _ (by repeat (first | exact Keep.refl _ _ | refine Keep.put ?_ (by decide)))
  | succ n ih =>
    intro y sl hi g2 g3 g6 g29 g30 q
    have hy : y < l.length := by omega
    have c := fun h => c23 l w x y h0 hx hy h
    simp only [jobV] at c
    have ix := fun h => sa.index h (k := x) (by omega)
    have iy := fun h => sa.index h (k := y) (by omega)
    have hk := kind_cases l x y
    have hax := ha x y hx hy
    have hrx := hr x
    have hry := hr y
    generalize kindV l x y = k at *
    refine gives_loop ?_
    by_cases hk0 : 0 < k
    · have hle := hax hk0
      have d1 : decide (nth 0 v y < nth 0 v x + k - 1) = false := decF (by omega)
      simp (disch := omega) [lp, Tryz.f11, loops, g2, g3, g6, g29, g30, decT, wrapI, c, ix, iy, hk0, d1, regionD_plain p, jobV, pfV, a4]
      refine ih (y + 1) _ (by omega) ?_ ?_ ?_ ?_ ?_ (fun sl' h => q sl' (Keep.trans ?_ h))
      · simp [g2]
      · simp [g3]
      · simp [g6]
      · simp [g29]
      · simp
      · repeat (first | exact Keep.refl _ _ | refine Keep.put ?_ (by decide))
    · simp (disch := omega) [lp, Tryz.f11, loops, g2, g3, g6, g29, g30, decT, wrapI, c, hk0, regionD_plain p, jobV, pfV]
      refine ih (y + 1) _ (by omega) ?_ ?_ ?_ ?_ ?_ (fun sl' h => q sl' (Keep.trans ?_ h))
      · simp [g2]
      · simp [g3]
      · simp [g6]
      · simp [g29]
      · simp
      · repeat (first | exact Keep.refl _ _ | refine Keep.put ?_ (by decide))
set_option maxRecDepth 100000 in
set_option maxHeartbeats 8000000 in
theorem check_outer {l : List It} {w : Int} (h0 : vJob l w = 0) {v : List Int} (hvl : v.length = l.length) (ha : Asked l v) (hr : ∀ k, 0 ≤ nth 0 v k ∧ nth 0 v k ≤ 4095) {va vc : AV} (sa : SlV va v) {s : Int} (tl : Heap) (Q : Out → Prop) : ∀ (n x : Nat) (sl : List (Nat × AV)), x + n = l.length →
    getS sl (.tup []) 2 = .ptr 0 1 0 0 → getS sl (.tup []) 3 = .ptr 1 1 0 0 → getS sl (.tup []) 23 = .int .i64 l.length → getS sl (.tup []) 24 = .int .i64 x →
    (∀ sl', Keep [2, 3] sl sl' → Q (.exit 0 ⟨89, .tup [], sl', []⟩ (.row false 2 [jobV l w] :: .row false 3 [pfV s va vc] :: tl))) →
    Gives (loopL env (lp Tryz.f11 0) ⟨89, .tup [], sl, []⟩ (.row false 2 [jobV l w] :: .row false 3 [pfV s va vc] :: tl)) Q := by
  have hl := vJob_len h0
  intro n
  induction n with
  | zero =>
    intro x sl hi g2 g3 g23 g24 q
    refine gives_loop ?_
    simp (disch := omega) [lp, Tryz.f11, loops, g23, g24, decF]
    exact q _ (by repeat (first | exact Keep.refl _ _ | refine Keep.put ?_ (by decide)))
  | succ n ih =>
    intro x sl hi g2 g3 g23 g24 q
    refine gives_loop ?_
    simp (disch := omega) [lp, Tryz.f11, loops, g2, g23, g24, decT, jobV]
    generalize hx : loopL env _ _ _ = X
    apply gives_cut hx
    clear hx
    refine check_inner h0 hvl ha hr sa x (by omega) tl _ l.length 0 _ (by omega) ?_ ?_ ?_ ?_ ?_ (fun sl' hk => ?_)
    · simp [g2]
    · simp [g3]
    · simp
    · simp
    · simp
    · have k2 : getS sl' (.tup []) 2 = .ptr 0 1 0 0 := hk.get (by simp [g2]) (by simp)
      have k3 : getS sl' (.tup []) 3 = .ptr 1 1 0 0 := hk.get (by simp [g3]) (by simp)
      have k23 : getS sl' (.tup []) 23 = .int .i64 l.length := hk.get (by simp [g23]) (by simp)
      have k24 : getS sl' (.tup []) 24 = .int .i64 x := hk.get (by simp [g24]) (by simp)
      simp (disch := omega) [k24, wrapI]
      refine ih (x + 1) _ (by omega) ?_ ?_ ?_ ?_ (fun sl2 h2 => q sl2 ?_)
      · simp [k2]
      · simp [k3]
      · simp [k23]
      · simp
      · intro t ht
        have h3 := h2 t ht
        simp at ht
        rcases ht with rfl | rfl
        · rw [h3]; simp [k2, g2]
        · rw [h3]; simp [k3, g3]
set_option maxRecDepth 100000 in
set_option maxHeartbeats 8000000 in
theorem Check_ok {l : List It} {w : Int} (h0 : vJob l w = 0) {v : List Int} (hs : Sol l w v) (hr : ∀ k, 0 ≤ nth 0 v k ∧ nth 0 v k ≤ 4095) {c : List Nat} (hw : (c = [] ∧ l = []) ∨ Wit l v c) {va vc : AV} (sa : SlV va v) (sc : SlV vc (c.map Int.ofNat)) : Gives (callL env 11 [jobV l w, pfV (mxV v) va vc] []) fun r => r.1 = .int .i64 0 := by
  have hf := fine_of h0
  have hl := hf.len
  apply gives_call
  have c1 := fun h => c18V (w := w) sa (hs.plan h0 hr) h
  have c2 := fun h => c24 h0 hs hr hw sc h
  have hst : stepsV (bnd v c c.length) = (mxV v, 0) := by
    refine mxV_max hr ?_
    rcases hw with ⟨rfl, rfl⟩ | hW
    · exact .inl ⟨List.eq_nil_of_length_eq_zero (by simpa using hs.1), rfl⟩
    · right
      have hne := hW.ne
      have e : bnd v c c.length = nth 0 v (nth 0 c (c.length - 1)) := by
        obtain ⟨j, hj⟩ : ∃ j, c.length = j + 1 := ⟨c.length - 1, by omega⟩
        rw [hj]; rfl
      rw [e]
      exact ⟨⟨_, by rw [hs.1]; exact hW.lt _ (by omega), rfl⟩, fun x hx => hW.last x (by rw [← hs.1]; exact hx)⟩
  obtain ⟨a1, a2, a3, a4⟩ := sa.cells
  obtain ⟨b1, b2, b3, b4⟩ := sc.cells
  simp only [jobV] at c1 c2
  simp (disch := omega) [Tryz.f11, jobV, pfV, c1]
  generalize hx : loopL env _ _ _ = X
  apply gives_cut hx
  clear hx
  refine check_outer h0 hs.1 (hs.asked hf) hr sa (s := mxV v) (vc := vc) [] _ l.length 0 _ (by omega) ?_ ?_ ?_ ?_ (fun sl' hk => ?_)
  · simp
  · simp
  · simp
  · simp
  · have k2 : getS sl' (.tup []) 2 = .ptr 0 1 0 0 := hk.get (by simp) (by simp)
    have k3 : getS sl' (.tup []) 3 = .ptr 1 1 0 0 := hk.get (by simp) (by simp)
    simp (disch := omega) [k2, k3, jobV, pfV, c2, hst, b4]
theorem SlV.form {v : AV} {l : List Int} (h : SlV v l) : v = .lst (ints l) ∨ v = .nil := by cases h <;> simp
theorem c11 {l : List It} {w : Int} (h0 : vJob l w = 0) {v : List Int} (hs : Sol l w v) (hr : ∀ k, 0 ≤ nth 0 v k ∧ nth 0 v k ≤ 4095) {c : List Nat} (hw : (c = [] ∧ l = []) ∨ Wit l v c) {va vc : AV} (sa : SlV va v) (sc : SlV vc (c.map Int.ofNat)) (h : Heap) : callN env (callL env) 11 [jobV l w, pfV (mxV v) va vc] h = some (.int .i64 0, h) := by
  obtain ⟨r, hr', h1⟩ := gives_iff.1 (Check_ok h0 hs hr hw sa sc)
  refine callE rfl ?_ hr' (by rw [h1]; rfl) h
  rcases sa.form with rfl | rfl <;> rcases sc.form with rfl | rfl <;> simp [closed?, depth, jobV, pfV]
end Rival

/- TopRival: the whole. -/
open Go Go.Proofs Go.Abs
namespace Rival
theorem c13 (h : Heap) : callN env (callL env) 13 [] h = some (.bool true, h) := by
  have hn : env.nat 13 = some awakeN := rfl
  unfold callN
  simp only [hn]
  rfl
attribute [simp] c13
theorem pl3_0 : plainD env (dr Tryz.f3 0) = true := by kernel_rfl
set_option maxRecDepth 100000 in
set_option maxHeartbeats 4000000 in
theorem cmp_loop {s S : Int} {ks v : List Int} {x : AV} (hl : v.length = ks.length) (hk : ks.length ≤ 96) (hle : ∀ i, i < ks.length → nth 0 v i ≤ nth 0 ks i) (H : Heap) (H1 : H[1]? = some (.row false 2 [planV s ks])) (H2 : H[2]? = some (.row false 3 [.agg [.int .i64 S, .lst (ints v), x]])) (Q : Out → Prop) : ∀ (n i : Nat) (sl : List (Nat × AV)), i + n = ks.length →
    getS sl (.tup []) 3 = .ptr 1 1 0 0 → getS sl (.tup []) 5 = .ptr 2 1 0 0 → getS sl (.tup []) 21 = .int .i64 i →
    (∀ sl', Q (.exit 0 ⟨156, .tup [], sl', []⟩ H)) →
    Gives (loopL env (lp Tryz.f3 0) ⟨156, .tup [], sl, []⟩ H) Q := by
  have p := pl3_0
  simp [dr, drs, Tryz.f3] at p
  simp only [planV] at H1
  intro n
  induction n with
  | zero =>
    intro i sl hi g3 g5 g21 q
    refine gives_loop ?_
    simp (disch := omega) [lp, Tryz.f3, loops, g3, g21, H1, decF, -getElem?_pos]
    exact q _
  | succ n ih =>
    intro i sl hi g3 g5 g21 q
    have h1 := hle i (by omega)
    have h2 : ¬ nth 0 ks i < nth 0 v i := by omega
    refine gives_loop ?_
    simp (disch := omega) [lp, Tryz.f3, loops, g3, g5, g21, H1, H2, decT, wrapI, index_ints, regionD_plain p, h2, -getElem?_pos]
    refine ih (i + 1) _ (by omega) ?_ ?_ ?_ q
    · simp [g3]
    · simp [g5]
    · simp
set_option maxRecDepth 100000 in
set_option maxHeartbeats 8000000 in
/-- The job is not valid. -/
theorem top_bad {l : List It} {w s : Int} {ks : List Int} (hl : l.length < 2 ^ 62) (h0 : vJob l w ≠ 0) (ho : Ord l (sortL l (List.range l.length))) : Gives (callL env 3 [jobV l w, planV s ks] []) fun r => r.1 = .bool true := by
  apply gives_call
  obtain ⟨m, c4', hm⟩ := c4 l w hl ho
  obtain ⟨a, e, c5', he, x, va, vc, k1, k2, s1, s2, rfl⟩ := c5 l w hl
  obtain ⟨p1, p2, p3, p4⟩ := s1.cells
  obtain ⟨q1, q2, q3, q4⟩ := s2.cells
  have hv : vPlan l w s ks = vJob l w := by simp [vPlan, h0]
  have c6' := fun h => c6b (l := l) (w := w) (s := s) (ks := ks) hl (by rw [hv]; exact h0) h
  have c7' := fun h => c7 l w s ks hl h
  rw [hv] at c6' c7'
  rcases hm with ⟨_, rfl⟩ | ⟨h, _⟩ | ⟨h, _⟩
  · rcases he with ⟨_, rfl⟩ | ⟨h, _⟩ | ⟨h, _⟩
    · simp only [jobV, planV] at c4' c5' c6' c7'
      simp (disch := omega) [Tryz.f3, jobV, planV, c4', c5', c6', c7', p1, p2, p3, q1, q2, q3, h0]
    · exact absurd h h0
    · exact absurd h h0
  · exact absurd h h0
  · exact absurd h h0
/-- What a run of a plan that fits tells. -/
theorem run_facts {l : List It} {w : Int} {s : Nat} {cs : List Nat} (hv : vPlan l w s (cs.map Int.ofNat) = 0) : ∃ TL mv, (∀ h, callN env (callL env) 6 [jobV l w, planV s (cs.map Int.ofNat)] h = some (.tup [sortedV TL mv, .int .i64 0], h)) ∧ (∀ h, callN env (callL env) 10 [jobV l w, trainsV TL] h = some (.tup [.bool (upT l TL TL.length 0), .int .i64 0], h)) ∧ (upT l TL TL.length 0 = true ↔ Asked l (cs.map Int.ofNat)) := by
  obtain ⟨h0, h1, h2, h3, h4⟩ := vPlan_zero.1 hv
  have hf := fine_of h0
  have hc := plan_codes hv
  obtain ⟨r, c6', TL, mv, rfl, g1, g16, g2⟩ := c6 cs hv hf (by omega) (by simpa using h3) hc
  have hF : ∀ T, T < TL.length → Final l cs T (nth [] TL T) := fun T hT => by rw [g2 T hT]; exact runL_final hc T
  have ht := final_trains (fun x hx => (hf.item x hx).1) g1 hF
  exact ⟨TL, mv, c6', fun h => c10 h0 ht (by omega) h, sorted_asked (fun x hx => (hf.item x hx).1) g1 hF⟩
set_option maxRecDepth 100000 in
set_option maxHeartbeats 8000000 in
/-- A valid job that has no codes. -/
theorem top_none {l : List It} {w s : Int} {ks : List Int} (h0 : vJob l w = 0) (hn : ∀ v, ¬ Sol l w v) (ho : Ord l (sortL l (List.range l.length))) : Gives (callL env 3 [jobV l w, planV s ks] []) fun r => r.1 = .bool true := by
  have hf := fine_of h0
  have hll := hf.len
  have hl : l.length < 2 ^ 62 := by omega
  apply gives_call
  obtain ⟨m, c4', hm⟩ := c4 l w hl ho
  obtain ⟨a, e, c5', he, x, va, vc, k1, k2, s1, s2, rfl⟩ := c5 l w hl
  obtain ⟨p1, p2, p3, p4⟩ := s1.cells
  obtain ⟨q1, q2, q3, q4⟩ := s2.cells
  rcases hm with ⟨h, _⟩ | ⟨_, v, hv, _⟩ | ⟨_, _, rfl⟩
  · exact absurd h0 h
  · exact absurd hv (hn v)
  rcases he with ⟨h, _⟩ | ⟨_, ⟨v, hv⟩, _⟩ | ⟨_, _, rfl⟩
  · exact absurd h0 h
  · exact absurd hv (hn v)
  have c7' := fun h => c7 l w s ks hl h
  by_cases hv : vPlan l w s ks = 0
  · obtain ⟨_, h1, h2, h3, h4⟩ := vPlan_zero.1 hv
    obtain ⟨s, rfl⟩ := Int.eq_ofNat_of_zero_le h1
    have hks := codes_nat (ks := ks) fun x hx => (isB_range (h4 x (by omega)).1).1
    generalize ks.map Int.toNat = cs at hks
    subst hks
    obtain ⟨TL, mv, c6', c10', hsa⟩ := run_facts hv
    have hfalse : upT l TL TL.length 0 = false := by
      cases hb : upT l TL TL.length 0
      · rfl
      · obtain ⟨v, hs⟩ := least_ex hf ho (fun x hx => (h4 x hx).1) (hsa.1 hb)
        exact absurd hs (hn v)
    rw [hv] at c7'
    simp only [jobV, planV] at c4' c5' c6' c7' c10'
    have t1 : (trainsV TL).cells = [trainsV TL] ∧ (trainsV TL).solid = true ∧ (trainsV TL).one = true ∧ loadE false 1 (trainsV TL) 0 = some (trainsV TL) := by unfold trainsV; split <;> exact ⟨rfl, rfl, rfl, rfl⟩
    obtain ⟨t1, t2, t3, t4⟩ := t1
    simp (disch := omega) [Tryz.f3, jobV, planV, sortedV, c4', c5', c6', c7', c10', hfalse, p1, p2, p3, q1, q2, q3, t1, t2, t3, t4]
  · have c6' := fun h => c6b (l := l) (w := w) (s := s) (ks := ks) hl hv h
    simp only [jobV, planV] at c4' c5' c6' c7'
    simp (disch := omega) [Tryz.f3, jobV, planV, c4', c5', c6', c7', p1, p2, p3, q1, q2, q3, hv]
end Rival
