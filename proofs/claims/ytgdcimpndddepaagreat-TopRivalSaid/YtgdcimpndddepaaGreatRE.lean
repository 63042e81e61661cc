/- TopRival: solve, Least. -/
import Derived.Test.YtgdcimpndddepaaGreatRD
/- TopRival: the law of the least codes: at most one solution; how it is built up. -/
open Go Go.Proofs Go.Abs
namespace Rival
theorem nth_set {α : Type} (d : α) (v : List α) (y : Nat) (k : α) (x : Nat) (hy : y < v.length) : nth d (v.set y k) x = if x = y then k else nth d v x := by
  simp only [nth_getD, List.getD_eq_getElem?_getD, List.getElem?_set]
  by_cases h : y = x
  · subst h; simp [hy]
  · simp [h, Ne.symm h]
theorem baseF_congr (l : List It) (v v' : List Int) (y : Nat) : ∀ (n i : Nat) (a : Int), (∀ x, i ≤ x → x < i + n → 0 < kindV l x y → nth 0 v x = nth 0 v' x) → baseF l v y n i a = baseF l v' y n i a
  | 0, _, _, _ => rfl
  | n + 1, i, a, h => by
    simp only [baseF]
    by_cases hk : 0 < kindV l i y
    · rw [if_pos hk, if_pos hk, h i (Nat.le_refl _) (by omega) hk]
      exact baseF_congr l v v' y n (i + 1) _ fun x h1 h2 h3 => h x (by omega) (by omega) h3
    · rw [if_neg hk, if_neg hk]
      exact baseF_congr l v v' y n (i + 1) _ fun x h1 h2 h3 => h x (by omega) (by omega) h3
theorem baseV_congr {l : List It} {v v' : List Int} {y : Nat} (h : ∀ x, x < l.length → 0 < kindV l x y → nth 0 v x = nth 0 v' x) : baseV l v y = baseV l v' y :=
  baseF_congr l v v' y l.length 0 0 fun x _ h2 h3 => h x (by omega) h3
/-- The base is the greatest of what is asked for. -/
theorem baseF_le (l : List It) (v : List Int) (y : Nat) (b : Int) : ∀ (n i : Nat) (a : Int), a ≤ b → (∀ x, i ≤ x → x < i + n → 0 < kindV l x y → nth 0 v x + kindV l x y / 2 ≤ b) → baseF l v y n i a ≤ b
  | 0, _, _, ha, _ => ha
  | n + 1, i, a, ha, h => by
    simp only [baseF]
    refine baseF_le l v y b n (i + 1) _ ?_ fun x h1 h2 h3 => h x (by omega) (by omega) h3
    split
    · have := h i (Nat.le_refl _) (by omega) (by assumption)
      omega
    · exact ha
theorem baseF_ge (l : List It) (v : List Int) (y : Nat) : ∀ (n i : Nat) (a : Int), a ≤ baseF l v y n i a ∧ ∀ x, i ≤ x → x < i + n → 0 < kindV l x y → nth 0 v x + kindV l x y / 2 ≤ baseF l v y n i a
  | 0, _, _ => ⟨Int.le_refl _, fun x h1 h2 => by omega⟩
  | n + 1, i, a => by
    simp only [baseF]
    have ih := baseF_ge l v y n (i + 1)
    by_cases hk : 0 < kindV l i y
    · rw [if_pos hk]
      obtain ⟨h1, h2⟩ := ih (max a (nth 0 v i + kindV l i y / 2))
      refine ⟨by omega, fun x hx1 hx2 hx3 => ?_⟩
      by_cases hx : x = i
      · subst hx; omega
      · exact h2 x (by omega) (by omega) hx3
    · rw [if_neg hk]
      obtain ⟨h1, h2⟩ := ih a
      refine ⟨h1, fun x hx1 hx2 hx3 => ?_⟩
      by_cases hx : x = i
      · subst hx; omega
      · exact h2 x (by omega) (by omega) hx3
/-- Where the base is more than it began with, an item asks for it. -/
theorem baseF_hit (l : List It) (v : List Int) (y : Nat) : ∀ (n i : Nat) (a : Int), baseF l v y n i a = a ∨ ∃ x, i ≤ x ∧ x < i + n ∧ 0 < kindV l x y ∧ nth 0 v x + kindV l x y / 2 = baseF l v y n i a
  | 0, _, _ => .inl rfl
  | n + 1, i, a => by
    simp only [baseF]
    have ih := baseF_hit l v y n (i + 1)
    by_cases hk : 0 < kindV l i y
    · rw [if_pos hk]
      rcases ih (max a (nth 0 v i + kindV l i y / 2)) with h | ⟨x, h1, h2, h3, h4⟩
      · by_cases hm : nth 0 v i + kindV l i y / 2 ≤ a
        · left; omega
        · right; exact ⟨i, Nat.le_refl _, by omega, hk, by omega⟩
      · right; exact ⟨x, by omega, by omega, h3, h4⟩
    · rw [if_neg hk]
      rcases ih a with h | ⟨x, h1, h2, h3, h4⟩
      · left; exact h
      · right; exact ⟨x, by omega, by omega, h3, h4⟩
theorem baseV_nonneg (l : List It) (v : List Int) (y : Nat) : 0 ≤ baseV l v y := (baseF_ge l v y l.length 0 0).1
theorem baseV_ge {l : List It} {v : List Int} {x y : Nat} (hx : x < l.length) (hk : 0 < kindV l x y) : nth 0 v x + kindV l x y / 2 ≤ baseV l v y := (baseF_ge l v y l.length 0 0).2 x (by omega) (by omega) hk
theorem baseV_le {l : List It} {v : List Int} {y : Nat} {b : Int} (hb : 0 ≤ b) (h : ∀ x, x < l.length → 0 < kindV l x y → nth 0 v x + kindV l x y / 2 ≤ b) : baseV l v y ≤ b := baseF_le l v y b l.length 0 0 hb fun x _ h2 h3 => h x (by omega) h3
theorem baseV_hit {l : List It} {v : List Int} {y : Nat} (h : 0 < baseV l v y) : ∃ x, x < l.length ∧ 0 < kindV l x y ∧ nth 0 v x + kindV l x y / 2 = baseV l v y := by
  rcases baseF_hit l v y l.length 0 0 with h1 | ⟨x, h1, h2, h3, h4⟩
  · simp only [baseV] at h; omega
  · exact ⟨x, by omega, h3, h4⟩
/-- What comes before has a smaller block. -/
theorem kind_block {l : List It} {x y : Nat} (h : 0 < kindV l x y) : (nth default l x).b < (nth default l y).b ∧ (nth default l x).t = (nth default l y).t := by
  unfold kindV at h
  split at h
  · omega
  · rename_i hc
    simp only [not_or, ne_eq, Decidable.not_not] at hc
    omega
/-- The codes of all items, each the least that may be. -/
def Sol (l : List It) (w : Int) (v : List Int) : Prop := v.length = l.length ∧ ∀ y, y < l.length → nextV (baseV l v y) (nth default l y).r w = (nth 0 v y, 0)
/-- Some items are done. -/
structure Part (l : List It) (w : Int) (P : Nat → Prop) (v : List Int) : Prop where
  len : v.length = l.length
  done : ∀ y, P y → y < l.length ∧ nextV (baseV l v y) (nth default l y).r w = (nth 0 v y, 0)
  pred : ∀ x y, P y → x < l.length → 0 < kindV l x y → P x
  same : ∀ v', Sol l w v' → ∀ y, P y → nth 0 v' y = nth 0 v y
theorem Part.base {l : List It} {w : Int} {P : Nat → Prop} {v : List Int} (h : Part l w P v) {y : Nat} (hy : y < l.length) (hn : ¬ P y) (k : Int) {x : Nat} (hx : P x ∨ x = y) : baseV l (v.set y k) x = baseV l v x := by
  apply baseV_congr
  intro z hz hk
  rw [nth_set _ _ _ _ _ (by rw [h.len]; exact hy)]
  have : z ≠ y := by
    rintro rfl
    rcases hx with hx | rfl
    · exact hn (h.pred _ _ hx hz hk)
    · have := (kind_block hk).1
      omega
  rw [if_neg this]
theorem Part.step {l : List It} {w : Int} {P : Nat → Prop} {v : List Int} (h : Part l w P v) {y : Nat} (hy : y < l.length) (hn : ¬ P y) (hp : ∀ x, x < l.length → 0 < kindV l x y → P x) {k : Int}
    (hk : nextV (baseV l v y) (nth default l y).r w = (k, 0)) {P' : Nat → Prop} (hP : ∀ x, P' x ↔ P x ∨ x = y) : Part l w P' (v.set y k) := by
  have hv : y < v.length := by rw [h.len]; exact hy
  refine ⟨by simp [h.len], fun x hx => ?_, fun x z hz hx hxz => ?_, fun v' hv' x hx => ?_⟩
  · rcases (hP x).1 hx with hx | rfl
    · obtain ⟨h1, h2⟩ := h.done x hx
      refine ⟨h1, ?_⟩
      rw [h.base hy hn k (.inl hx), h2, nth_set _ _ _ _ _ hv, if_neg fun (hxy : x = y) => hn (hxy ▸ hx)]
    · exact ⟨hy, by rw [h.base hy hn k (.inr rfl), hk, nth_set _ _ _ _ _ hv, if_pos rfl]⟩
  · rcases (hP z).1 hz with hz | rfl
    · exact (hP x).2 (.inl (h.pred x z hz hx hxz))
    · exact (hP x).2 (.inl (hp x hx hxz))
  · rcases (hP x).1 hx with hx | rfl
    · rw [nth_set _ _ _ _ _ hv, if_neg fun (hxy : x = y) => hn (hxy ▸ hx)]
      exact h.same v' hv' x hx
    · rw [nth_set _ _ _ _ _ hv, if_pos rfl]
      have h1 := hv'.2 x hy
      rw [baseV_congr (v' := v) fun z hz hzk => h.same v' hv' z (hp z hz hzk), hk] at h1
      exact (Prod.mk.inj h1).1.symm
theorem Part.stuck {l : List It} {w : Int} {P : Nat → Prop} {v : List Int} (h : Part l w P v) {y : Nat} (hy : y < l.length) (hp : ∀ x, x < l.length → 0 < kindV l x y → P x) (hk : (nextV (baseV l v y) (nth default l y).r w).2 ≠ 0) (v' : List Int) : ¬ Sol l w v' := by
  intro hv'
  have h1 := hv'.2 y hy
  rw [baseV_congr (v' := v) fun z hz hzk => h.same v' hv' z (hp z hz hzk)] at h1
  rw [h1] at hk
  exact hk rfl
theorem Part.sol {l : List It} {w : Int} {P : Nat → Prop} {v : List Int} (h : Part l w P v) (hP : ∀ x, x < l.length → P x) : Sol l w v := ⟨h.len, fun y hy => (h.done y (hP y hy)).2⟩
theorem Part.start (l : List It) (w : Int) {P : Nat → Prop} (hP : ∀ x, ¬ P x) {v : List Int} (hv : v.length = l.length) : Part l w P v :=
  ⟨hv, fun y h => (hP y h).elim, fun _ y h => (hP y h).elim, fun _ _ y h => (hP y h).elim⟩
theorem Part.unique {l : List It} {w : Int} {P : Nat → Prop} {v v' : List Int} (h : Part l w P v) (hP : ∀ x, x < l.length → P x) (h' : Sol l w v') : v' = v :=
  ext_nth 0 (by rw [h.len, h'.1]) fun k hk => h.same v' h' k (hP k (by rw [← h'.1]; exact hk))
end Rival
namespace Rival
theorem nx_cases (r w : Int) : ∀ (n k : Nat), (∃ y : Nat, nx r w n k = ((y : Int), 0) ∧ isB y r w = true ∧ k ≤ y ∧ y < k + n ∧ ∀ v : Nat, k ≤ v → v < y → isB v r w = false) ∨ (nx r w n k = (0, 15) ∧ ∀ v : Nat, k ≤ v → v < k + n → isB v r w = false)
  | 0, k => .inr ⟨rfl, fun v h1 h2 => by omega⟩
  | n + 1, k => by
    unfold nx
    cases hb : isB k r w
    · simp only [Bool.false_eq_true, if_false]
      rcases nx_cases r w n (k + 1) with ⟨y, h1, h2, h3, h4, h5⟩ | ⟨h1, h2⟩
      · refine .inl ⟨y, h1, h2, by omega, by omega, fun v g1 g2 => ?_⟩
        by_cases hv : v = k
        · subst hv; exact hb
        · exact h5 v (by omega) g2
      · refine .inr ⟨h1, fun v g1 g2 => ?_⟩
        by_cases hv : v = k
        · subst hv; exact hb
        · exact h2 v (by omega) (by omega)
    · simp only [if_true]
      exact .inl ⟨k, rfl, hb, Nat.le_refl _, by omega, fun v h1 h2 => by omega⟩
/-- The next code, from a on: the first that is one; or there is none. -/
theorem nextV_cases {a r w : Int} (ha : 0 ≤ a) (hf : formB r w = true) : (∃ k, nextV a r w = (k, 0) ∧ isB k r w = true ∧ a ≤ k ∧ ∀ v, a ≤ v → v < k → isB v r w = false) ∨ (nextV a r w = (0, 15) ∧ ∀ v, a ≤ v → isB v r w = false) := by
  obtain ⟨a, rfl⟩ := Int.eq_ofNat_of_zero_le ha
  have h0 : ¬ ((a : Int) < 0) := by omega
  have e : nextV a r w = nx r w (4096 - a) a := by simp [nextV, hf, h0]
  rw [e]
  rcases nx_cases r w (4096 - a) a with ⟨y, h1, h2, h3, h4, h5⟩ | ⟨h1, h2⟩
  · refine .inl ⟨y, h1, h2, by omega, fun v g1 g2 => ?_⟩
    obtain ⟨v, rfl⟩ := Int.eq_ofNat_of_zero_le (show 0 ≤ v by omega)
    exact h5 v (by omega) (by omega)
  · refine .inr ⟨h1, fun v g1 => ?_⟩
    cases hb : isB v r w
    · rfl
    · have := isB_range hb
      obtain ⟨v, rfl⟩ := Int.eq_ofNat_of_zero_le this.1
      rw [h2 v (by omega) (by omega)] at hb
      exact hb.symm
theorem nextV_0 {a r w k : Int} (ha : 0 ≤ a) (hf : formB r w = true) (h : nextV a r w = (k, 0)) : isB k r w = true ∧ a ≤ k ∧ ∀ v, a ≤ v → v < k → isB v r w = false := by
  rcases nextV_cases ha hf with ⟨y, h1, h2⟩ | ⟨h1, _⟩
  · rw [h] at h1; cases h1; exact h2
  · rw [h] at h1; cases h1
/-- What a valid job says of its items. -/
theorem vIt_ok {l : List It} : ∀ (k i : Nat), i + k = l.length → vIt l k i = 0 → ∀ x, i ≤ x → x < l.length → (nth default l x).ok = true ∧ (0 < x → (nth default l (x - 1)).r ≤ (nth default l x).r)
  | 0, i, hi, _, x, h1, h2 => by omega
  | k + 1, i, hi, h, x, h1, h2 => by
    unfold vIt at h
    split at h
    · cases h
    · rename_i ho
      split at h
      · cases h
      · rename_i hr
        by_cases hx : x = i
        · subst hx
          exact ⟨by simpa using ho, fun h0 => by
            have : ¬ (nth default l x).r < (nth default l (x - 1)).r := fun hlt => hr ⟨h0, hlt⟩
            omega⟩
        · exact vIt_ok k (i + 1) (by omega) h x (by omega) h2
structure Fine (l : List It) (w : Int) : Prop where
  len : l.length ≤ 96
  w0 : 0 ≤ w ∧ w ≤ 12
  item : ∀ x, x < l.length → 0 ≤ (nth default l x).t ∧ (nth default l x).t ≤ 15 ∧ 0 ≤ (nth default l x).b ∧ (nth default l x).b ≤ 31 ∧ 0 ≤ (nth default l x).r ∧ (nth default l x).r ≤ 12
  mono : ∀ x y, x ≤ y → y < l.length → (nth default l x).r ≤ (nth default l y).r
theorem fine_of {l : List It} {w : Int} (h : vJob l w = 0) : Fine l w := by
  have h1 := vJob_len h
  unfold vJob at h
  rw [if_neg (by omega)] at h
  split at h
  · cases h
  · rename_i hw
    have h2 := vIt_ok l.length 0 (by omega) h
    refine ⟨h1, by simp [inB] at hw; omega, fun x hx => ?_, fun x y hxy hy => ?_⟩
    · have := (h2 x (by omega) hx).1
      simp [It.ok, inB] at this
      omega
    · induction y with
      | zero =>
        obtain rfl : x = 0 := by omega
        exact Int.le_refl _
      | succ y ih =>
        by_cases he : x = y + 1
        · subst he; exact Int.le_refl _
        · have g1 := ih (by omega) (by omega)
          have g2 := (h2 (y + 1) (by omega) hy).2 (by omega)
          simp at g2
          omega
theorem Fine.form {l : List It} {w : Int} (h : Fine l w) {x : Nat} (hx : x < l.length) : formB (nth default l x).r w = true := by
  have := h.item x hx
  have := h.w0
  simp [formB, inB]
  omega
theorem nth_range {v : List Int} {P : Int → Prop} (h0 : P 0) (h : ∀ x ∈ v, P x) (k : Nat) : P (nth 0 v k) := by
  rw [nth_getD, List.getD_eq_getElem?_getD]
  cases hk : v[k]? with
  | none => exact h0
  | some x => exact h x (List.mem_of_getElem? hk)
end Rival

/- TopRival: leastcode.solve: its loops. -/
open Go Go.Proofs Go.Abs
namespace Rival
theorem pl31_0 : plainD env (dr Tryz.f31 0) = true := by kernel_rfl
theorem pl31_1 : plainD env (dr Tryz.f31 1) = true := by kernel_rfl
theorem tabV_length (t : List (List Int)) : (tabV t).length = t.length := by simp [tabV]
attribute [simp] tabV_length
theorem tabV_all (t : List (List Int)) : (tabV t).all (fun e => e.cells.length == 1) = true := by simp [tabV]
theorem index_tab (t : List (List Int)) (i : Int) (h : Heap) (h0 : 0 ≤ i) (h1 : i < t.length) : indexAddrA env 33 h (.lst (tabV t)) (.int .i64 i) = some (.iptr (.lst (ints (nth [] t i.toNat))) 0) := by
  unfold indexAddrA
  have h2 : i.toNat < t.length := by omega
  simp only [kd, envti, ti33, ti25, Option.map_some, tabV_length, h0, h1, tabV_all, and_self, if_true]
  simp [tabV, h2, nth_getD, List.getD_eq_getElem?_getD]
theorem kTab_length (l : List It) : (kTab l).length = l.length := by simp [kTab]
attribute [simp] kTab_length
theorem kTab_nth (l : List It) (x : Nat) (hx : x < l.length) : nth [] (kTab l) x = kRow l x l.length := by
  simp [kTab, nth_getD, List.getD_eq_getElem?_getD, hx]
theorem kRow_nth (l : List It) (x y : Nat) (hy : y < l.length) : nth 0 (kRow l x l.length) y = kindV l x y := by
  simp [kRow, nth_getD, List.getD_eq_getElem?_getD, hy]
theorem index_ktab (l : List It) (x : Nat) (h : Heap) (hx : x < l.length) : indexAddrA env 33 h (.lst (tabV (kTab l))) (.int .i64 x) = some (.iptr (.lst (ints (kRow l x l.length))) 0) := by
  rw [index_tab _ _ _ (by omega) (by simp; omega)]
  rw [show (x : Int).toNat = x from rfl, kTab_nth l x hx]
theorem index_krow (l : List It) (x y : Nat) (h : Heap) (hy : y < l.length) : indexAddrA env 25 h (.lst (ints (kRow l x l.length))) (.int .i64 y) = some (.iptr (.int .i64 (kindV l x y)) 0) := by
  rw [index_ints _ _ _ (by omega) (by simp; omega)]
  rw [show (y : Int).toNat = y from rfl, kRow_nth l x y hy]
def oInit (n i : Nat) : List Int := (List.range n).map fun x => if x < i then (x : Int) else 0
theorem oInit_length (n i : Nat) : (oInit n i).length = n := by simp [oInit]
attribute [simp] oInit_length
theorem oInit_set (n i : Nat) : (oInit n i).set i i = oInit n (i + 1) := by
  apply List.ext_getElem (by simp)
  intro k h1 h2
  simp only [List.getElem_set, oInit, List.getElem_map, List.getElem_range]
  by_cases h : i = k
  · subst h; simp
  · by_cases h3 : k < i
    · simp [h, h3, show k < i + 1 by omega]
    · simp [h, h3, show ¬ k < i + 1 by omega]
theorem oInit_zero (n : Nat) : ints (oInit n 0) = List.replicate n (.int .i64 0) := by
  apply List.ext_getElem (by simp)
  intro i h1 h2
  simp [ints, oInit]
theorem zeros (n : Nat) : ints (List.replicate n 0) = List.replicate n (.int .i64 0) := by simp [ints]
theorem oInit_all (n : Nat) : oInit n n = (List.range n).map Int.ofNat := by
  unfold oInit
  apply List.map_congr_left
  intro x hx
  simp at hx
  simp [hx]
set_option maxRecDepth 100000 in
set_option maxHeartbeats 4000000 in
theorem order_loop (n : Nat) (hn : n ≤ 96) (j e1 e2 : Ent) (Q : Out → Prop) : ∀ (k i : Nat) (sl : List (Nat × AV)), i + k = n →
    ∀ A, getS sl (.tup []) 1 = A → getS sl (.tup []) 2 = .ptr 0 1 0 0 → getS sl (.tup []) 7 = .ref 3 n 0 n → getS sl (.tup []) 20 = .int .i64 n → getS sl (.tup []) 21 = .int .i64 i →
    (∀ sl', getS sl' (.tup []) 1 = A → getS sl' (.tup []) 2 = .ptr 0 1 0 0 → getS sl' (.tup []) 7 = .ref 3 n 0 n → Q (.exit 0 ⟨101, .tup [], sl', []⟩ [j, e1, e2, .row false 1 (ints (oInit n n))])) →
    Gives (loopL env (lp Tryz.f31 0) ⟨101, .tup [], sl, []⟩ [j, e1, e2, .row false 1 (ints (oInit n i))]) Q := by
  intro k
  induction k with
  | zero =>
    intro i sl hi A gA g2 g7 g20 g21 q
    obtain rfl : i = n := by omega
    refine gives_loop ?_
    simp (disch := omega) [lp, Tryz.f31, loops, g20, g21, decF]
    exact q _ (by simp [gA]) (by simp [g2]) (by simp [g7])
  | succ k ih =>
    intro i sl hi A gA g2 g7 g20 g21 q
    refine gives_loop ?_
    have hb : ([j, e1, e2, .row false 1 (ints (oInit n i))] : Heap)[3]? = some (.row false 1 (ints (oInit n i))) := rfl
    have hl : (ints (oInit n i)).length = n := by simp
    have en := nthIs (v := oInit n i) (i := i) (by simp; omega)
    simp (disch := omega) [lp, Tryz.f31, loops, g7, g20, g21, decT, wrapI, ix25 hb hl, en, ints_set, oInit_set, -getElem?_pos]
    refine ih (i + 1) _ (by omega) A ?_ ?_ ?_ ?_ ?_ q
    · simp [gA]
    · simp [g2]
    · simp [g7]
    · simp [g20]
    · simp
theorem Keep.put {ks : List Nat} {a b : List (Nat × AV)} {t : Nat} {v : AV} (h : Keep ks a b) (ht : t ∉ ks) : Keep ks a (putS b t v) := fun s hs => by
  have : s ≠ t := fun e => ht (e ▸ hs)
  rw [getS_put_ne _ _ _ _ _ this]
  exact h s hs
def hp6 (l : List It) (w : Int) (e1 e2 : Ent) (o bs v : List Int) : Heap := [.row false 2 [jobV l w], e1, e2, .row false 1 (ints o), .row false 1 (ints bs), .row false 1 (ints v)]
theorem hp6_0 (l : List It) (w : Int) (e1 e2 : Ent) (o bs v : List Int) : (hp6 l w e1 e2 o bs v)[0]? = some (.row false 2 [jobV l w]) := rfl
theorem hp6_3 (l : List It) (w : Int) (e1 e2 : Ent) (o bs v : List Int) : (hp6 l w e1 e2 o bs v)[3]? = some (.row false 1 (ints o)) := rfl
theorem hp6_4 (l : List It) (w : Int) (e1 e2 : Ent) (o bs v : List Int) : (hp6 l w e1 e2 o bs v)[4]? = some (.row false 1 (ints bs)) := rfl
theorem hp6_5 (l : List It) (w : Int) (e1 e2 : Ent) (o bs v : List Int) : (hp6 l w e1 e2 o bs v)[5]? = some (.row false 1 (ints v)) := rfl
theorem hp6_s4 (l : List It) (w : Int) (e1 e2 : Ent) (o bs v bs' : List Int) : (hp6 l w e1 e2 o bs v).set 4 (.row false 1 (ints bs')) = hp6 l w e1 e2 o bs' v := rfl
theorem hp6_s5 (l : List It) (w : Int) (e1 e2 : Ent) (o bs v v' : List Int) : (hp6 l w e1 e2 o bs v).set 5 (.row false 1 (ints v')) = hp6 l w e1 e2 o bs v' := rfl
set_option maxRecDepth 100000 in
set_option maxHeartbeats 4000000 in
theorem base_inner (l : List It) (w : Int) (hl : l.length ≤ 96) (e1 e2 : Ent) (o bs v : List Int) (hv : v.length = l.length) (hbs : bs.length = l.length) (hs : small v) (y : Nat) (hy : y < l.length) (Q : Out → Prop) : ∀ (n x : Nat) (a : Int) (sl : List (Nat × AV)), x + n = l.length → 
    getS sl (.tup []) 1 = .lst (tabV (kTab l)) → getS sl (.tup []) 2 = .ptr 0 1 0 0 → getS sl (.tup []) 4 = .ref 4 l.length 0 l.length → getS sl (.tup []) 5 = .ref 5 l.length 0 l.length → getS sl (.tup []) 10 = .int .i64 y → getS sl (.tup []) 46 = .int .i64 l.length → getS sl (.tup []) 47 = .int .i64 x →
    (∀ sl', Keep [1, 2, 4, 5, 10, 38, 39, 40] sl sl' → Q (.exit 4 ⟨101, .tup [], sl', []⟩ (hp6 l w e1 e2 o (bs.set y (baseF l v y n x a)) v))) →
    Gives (loopL env (lp Tryz.f31 2) ⟨101, .tup [], sl, []⟩ (hp6 l w e1 e2 o (bs.set y a) v)) Q := by
  have p := pl31_0
  simp [dr, drs, Tryz.f31] at p
  intro n
  induction n with
  | zero =>
    intro x a sl hi g1 g2 g4 g5 g10 g46 g47 q
    obtain rfl : x = l.length := by omega
    refine gives_loop ?_
    simp (disch := omega) [lp, Tryz.f31, loops, g46, g47, decF]
    exact q _ (by intro t ht; simp at ht; rcases ht with rfl | rfl | rfl | rfl | rfl | rfl | rfl | rfl <;> simp)
  | succ n ih =>
    intro x a sl hi g1 g2 g4 g5 g10 g46 g47 q
    refine gives_loop ?_
    have hk := kind_cases l x y
    have e := baseF.eq_2 l v y x a n
    have r1 := fun h => index_ktab l x h (by omega)
    have r2 := fun h => index_krow l x y h hy
    have hb := hs x
    generalize kindV l x y = k at r2 hk e
    have l5 : (ints v).length = l.length := by simp [hv]
    have l4 : ∀ a, (ints (bs.set y a)).length = l.length := by simp [hbs]
    have en5 := nthIs (v := v) (i := x) (by omega)
    have en4 : ∀ a, (ints (bs.set y a))[y]? = some (.int .i64 a) := fun a => by
      rw [nthIs (by simp; omega), nth_set _ _ _ _ _ (by omega), if_pos rfl]
    have s4 : ∀ a b, (ints (bs.set y a)).set y (.int .i64 b) = ints (bs.set y b) := fun a b => by rw [ints_set, List.set_set]
    by_cases hk0 : 0 < k
    · rw [if_pos hk0] at e
      have em : nth 0 v x + k - 1 = nth 0 v x + k / 2 := by omega
      simp (disch := omega) [lp, Tryz.f31, loops, g1, g2, g4, g5, g10, g46, g47, decT, wrapI, r1, r2, hk0, regionD_plain p, ix25 (hp6_4 ..) (l4 _), ix25 (hp6_5 ..) l5, hp6_4, hp6_5, l4, l5, en4, en5, s4, hp6_s4, -getElem?_pos]
      rw [em]
      refine ih (x + 1) _ _ (by omega) ?_ ?_ ?_ ?_ ?_ ?_ ?_ (fun sl' hk' => ?_)
      · simp [g1]
      · simp [g2]
      · simp [g4]
      · simp [g5]
      · simp [g10]
      · simp [g46]
      · simp
      · rw [← e]
        refine q sl' (Keep.trans ?_ hk')
        repeat (first | exact Keep.refl _ _ | refine Keep.put ?_ (by decide))
    · rw [if_neg hk0] at e
      simp (disch := omega) [lp, Tryz.f31, loops, g1, g2, g4, g5, g10, g46, g47, decT, wrapI, r1, r2, hk0, -getElem?_pos]
      refine ih (x + 1) _ _ (by omega) ?_ ?_ ?_ ?_ ?_ ?_ ?_ (fun sl' hk' => ?_)
      · simp [g1]
      · simp [g2]
      · simp [g4]
      · simp [g5]
      · simp [g10]
      · simp [g46]
      · simp
      · rw [← e]
        refine q sl' (Keep.trans ?_ hk')
        repeat (first | exact Keep.refl _ _ | refine Keep.put ?_ (by decide))
end Rival

/- TopRival: leastcode.solve. -/
open Go Go.Proofs Go.Abs
namespace Rival
/-- An order of all items in which the blocks do not fall. -/
structure Ord (l : List It) (o : List Nat) : Prop where
  perm : o.Perm (List.range l.length)
  up : ∀ i j, i < j → j < o.length → (nth default l (nth 0 o i)).b ≤ (nth default l (nth 0 o j)).b
theorem Ord.len {l : List It} {o : List Nat} (h : Ord l o) : o.length = l.length := by simpa using h.perm.length_eq
theorem Ord.lt {l : List It} {o : List Nat} (h : Ord l o) {m : Nat} (hm : m < o.length) : nth 0 o m < l.length := by
  have : nth 0 o m ∈ o := by
    rw [nth_getD, List.getD_eq_getElem?_getD, List.getElem?_eq_getElem hm]
    exact List.getElem_mem hm
  simpa using h.perm.mem_iff.1 this
theorem mem_take_nth {o : List Nat} {m x : Nat} (hm : m ≤ o.length) : x ∈ o.take m ↔ ∃ i, i < m ∧ nth 0 o i = x := by
  rw [List.mem_iff_getElem?]
  constructor
  · rintro ⟨i, hi⟩
    rw [List.getElem?_take] at hi
    split at hi
    · refine ⟨i, by assumption, ?_⟩
      rw [nth_getD, List.getD_eq_getElem?_getD, hi]; rfl
    · cases hi
  · rintro ⟨i, hi, h⟩
    refine ⟨i, ?_⟩
    rw [List.getElem?_take, if_pos hi]
    rw [nth_getD, List.getD_eq_getElem?_getD, List.getElem?_eq_getElem (show i < o.length by omega)] at h
    rw [List.getElem?_eq_getElem (show i < o.length by omega)]
    simpa using h
theorem Ord.inj {l : List It} {o : List Nat} (h : Ord l o) {i j : Nat} (hi : i < o.length) (hj : j < o.length) (he : nth 0 o i = nth 0 o j) : i = j := by
  have hn : o.Nodup := h.perm.nodup_iff.2 List.nodup_range
  rw [nth_getD, nth_getD, List.getD_eq_getElem?_getD, List.getD_eq_getElem?_getD, List.getElem?_eq_getElem hi, List.getElem?_eq_getElem hj] at he
  have he' : o[i] = o[j] := by simpa using he
  have hp := List.pairwise_iff_getElem.1 hn
  by_cases h1 : i < j
  · exact absurd he' (hp i j hi hj h1)
  · by_cases h2 : j < i
    · exact absurd he'.symm (hp j i hj hi h2)
    · omega
theorem Ord.has {l : List It} {o : List Nat} (h : Ord l o) {x : Nat} (hx : x < l.length) : ∃ i, i < o.length ∧ nth 0 o i = x := by
  have : x ∈ o := h.perm.mem_iff.2 (by simpa using hx)
  obtain ⟨i, hi, h2⟩ := List.mem_iff_getElem.1 this
  exact ⟨i, hi, by rw [nth_getD, List.getD_eq_getElem?_getD, List.getElem?_eq_getElem hi]; simpa using h2⟩
structure Stage (l : List It) (w : Int) (o : List Nat) (m : Nat) (bs v : List Int) : Prop where
  part : Part l w (· ∈ o.take m) v
  blen : bs.length = l.length
  base : ∀ y, y ∈ o.take m → nth 0 bs y = baseV l v y
  zero : ∀ y, y ∉ o.take m → nth 0 bs y = 0
  rng : ∀ k, 0 ≤ nth 0 v k ∧ nth 0 v k ≤ 4095
theorem Stage.small {l : List It} {w : Int} {o : List Nat} {m : Nat} {bs v : List Int} (h : Stage l w o m bs v) : small v := fun k => by have := h.rng k; omega
theorem Stage.preds {l : List It} {o : List Nat} {m : Nat} (ho : Ord l o) (hm : m < o.length) {x : Nat} (hx : x < l.length) (hk : 0 < kindV l x (nth 0 o m)) : x ∈ o.take m := by
  obtain ⟨i, hi, rfl⟩ := ho.has hx
  rw [mem_take_nth (by omega)]
  refine ⟨i, ?_, rfl⟩
  have := (kind_block hk).1
  by_cases h : i < m
  · exact h
  · by_cases he : i = m
    · subst he; omega
    · have := ho.up m i (by omega) hi
      omega
theorem Stage.fresh {l : List It} {o : List Nat} {m : Nat} (ho : Ord l o) (hm : m < o.length) : nth 0 o m ∉ o.take m := by
  rw [mem_take_nth (by omega)]
  rintro ⟨i, hi, he⟩
  have := ho.inj (by omega) hm he
  omega
theorem Stage.succ {l : List It} {w : Int} {o : List Nat} {m : Nat} {bs v : List Int} (h : Stage l w o m bs v) (ho : Ord l o) (hm : m < o.length) {k : Int} (hk : nextV (baseV l v (nth 0 o m)) (nth default l (nth 0 o m)).r w = (k, 0)) (hr : 0 ≤ k ∧ k ≤ 4095) :
    Stage l w o (m + 1) (bs.set (nth 0 o m) (baseV l v (nth 0 o m))) (v.set (nth 0 o m) k) := by
  have hy := ho.lt hm
  have hf := Stage.fresh ho hm
  have hP : ∀ x, x ∈ o.take (m + 1) ↔ x ∈ o.take m ∨ x = nth 0 o m := fun x => by
    rw [mem_take_nth (by omega), mem_take_nth (by omega)]
    constructor
    · rintro ⟨i, hi, rfl⟩
      by_cases he : i = m
      · subst he; exact .inr rfl
      · exact .inl ⟨i, by omega, rfl⟩
    · rintro (⟨i, hi, rfl⟩ | rfl)
      · exact ⟨i, by omega, rfl⟩
      · exact ⟨m, by omega, rfl⟩
  have hv : nth 0 o m < v.length := by rw [h.part.len]; exact hy
  have hb : nth 0 o m < bs.length := by rw [h.blen]; exact hy
  refine ⟨h.part.step hy hf (fun x hx hxk => Stage.preds ho hm hx hxk) hk hP, by simp [h.blen], fun y hyt => ?_, fun y hyt => ?_, fun x => ?_⟩
  · rw [nth_set _ _ _ _ _ hb]
    rcases (hP y).1 hyt with h1 | rfl
    · rw [if_neg fun (e : y = nth 0 o m) => hf (e ▸ h1), h.base y h1, h.part.base hy hf k (.inl h1)]
    · rw [if_pos rfl, h.part.base hy hf k (.inr rfl)]
  · rw [nth_set _ _ _ _ _ hb, if_neg fun (e : y = nth 0 o m) => hyt ((hP y).2 (.inr e))]
    exact h.zero y fun h1 => hyt ((hP y).2 (.inl h1))
  · rw [nth_set _ _ _ _ _ hv]
    split
    · exact hr
    · exact h.rng x
theorem set_same {v : List Int} {y : Nat} {a : Int} (h : nth 0 v y = a) (hy : y < v.length) : v.set y a = v := by
  apply List.ext_getElem (by simp)
  intro i h1 h2
  rw [List.getElem_set]
  split
  · rename_i e
    subst e
    rw [nth_getD, List.getD_eq_getElem?_getD, List.getElem?_eq_getElem hy] at h
    simpa using h.symm
  · rfl
theorem nth_map (o : List Nat) (m : Nat) : nth 0 (o.map Int.ofNat) m = ((nth 0 o m : Nat) : Int) := by
  rw [nth_getD, nth_getD, List.getD_eq_getElem?_getD, List.getD_eq_getElem?_getD, List.getElem?_map]
  cases o[m]? <;> rfl
set_option maxRecDepth 100000 in
set_option maxHeartbeats 4000000 in
theorem solve_loop (l : List It) (w : Int) (hf : Fine l w) (e1 e2 : Ent) (o : List Nat) (ho : Ord l o) (Q : Out → Prop) : ∀ (n m : Nat) (bs v : List Int) (sl : List (Nat × AV)), m + n = l.length → Stage l w o m bs v →
    getS sl (.tup []) 1 = .lst (tabV (kTab l)) → getS sl (.tup []) 2 = .ptr 0 1 0 0 → getS sl (.tup []) 4 = .ref 4 l.length 0 l.length → getS sl (.tup []) 5 = .ref 5 l.length 0 l.length → getS sl (.tup []) 38 = .ref 3 l.length 0 l.length → getS sl (.tup []) 39 = .int .i64 l.length → getS sl (.tup []) 40 = .int .i64 m →
    (∀ sl' bs' v', Stage l w o l.length bs' v' → getS sl' (.tup []) 4 = .ref 4 l.length 0 l.length → getS sl' (.tup []) 5 = .ref 5 l.length 0 l.length → Q (.exit 2 ⟨101, .tup [], sl', []⟩ (hp6 l w e1 e2 (o.map Int.ofNat) bs' v'))) →
    (∀ sl' h' p q, (∀ v', ¬ Sol l w v') → getS sl' (.tup []) 4 = .ref p 0 0 0 → getS sl' (.tup []) 5 = .ref q 0 0 0 → getS sl' (.tup []) 6 = .int .i64 15 → Q (.ret ⟨101, .tup [], sl', []⟩ h')) →
    Gives (loopL env (lp Tryz.f31 1) ⟨101, .tup [], sl, []⟩ (hp6 l w e1 e2 (o.map Int.ofNat) bs v)) Q := by
  have p := pl31_1
  simp [dr, drs, Tryz.f31] at p
  have hl := hf.len
  intro n
  induction n with
  | zero =>
    intro m bs v sl hi hs g1 g2 g4 g5 g38 g39 g40 q1 q2
    obtain rfl : m = l.length := by omega
    refine gives_loop ?_
    simp (disch := omega) [lp, Tryz.f31, loops, g39, g40, decF]
    exact q1 _ _ _ hs (by simp [g4]) (by simp [g5])
  | succ n ih =>
    intro m bs v sl hi hs g1 g2 g4 g5 g38 g39 g40 q1 q2
    refine gives_loop ?_
    have hlen := ho.len
    have hm : m < o.length := by omega
    have hy := ho.lt hm
    have hfr := Stage.fresh ho hm
    have hz := hs.zero _ hfr
    have l3 : (ints (o.map Int.ofNat)).length = l.length := by simp [hlen]
    have en3 := nthIs (v := o.map Int.ofNat) (i := m) (by simpa using hm)
    rw [nth_map] at en3
    have hv := hs.part.len
    have hb := hs.blen
    have hform := hf.form hy
    have hsucc := fun k => hs.succ ho hm (k := k)
    have hstk := hs.part.stuck (y := nth 0 o m) hy (fun x hx hxk => Stage.preds ho hm hx hxk)
    have hns := nextV_cases (baseV_nonneg l v (nth 0 o m)) hform
    have e0 : bs = bs.set (nth 0 o m) 0 := (set_same hz (by omega)).symm
    generalize hyy : nth 0 o m = y at *
    simp (disch := omega) [lp, Tryz.f31, loops, g1, g2, g4, g5, g38, g39, g40, decT, wrapI, ix25 (hp6_3 ..) l3, hp6_0, hp6_3, l3, en3, jobV, -getElem?_pos]
    generalize hx : loopL env _ _ _ = L
    apply gives_cut hx
    clear hx
    rw [e0]
    refine base_inner l w hl e1 e2 _ bs v hv hb hs.small y hy _ l.length 0 0 _ (by omega) ?_ ?_ ?_ ?_ ?_ ?_ ?_ (fun sl' hk => ?_)
    · simp [g1]
    · simp [g2]
    · simp [g4]
    · simp [g5]
    · simp
    · simp
    · simp
    · have hbV : baseF l v y l.length 0 0 = baseV l v y := rfl
      rw [hbV]
      have k1 : getS sl' (.tup []) 1 = .lst (tabV (kTab l)) := hk.get (by simp [g1]) (by simp)
      have k2 : getS sl' (.tup []) 2 = .ptr 0 1 0 0 := hk.get (by simp [g2]) (by simp)
      have k4 : getS sl' (.tup []) 4 = .ref 4 l.length 0 l.length := hk.get (by simp [g4]) (by simp)
      have k5 : getS sl' (.tup []) 5 = .ref 5 l.length 0 l.length := hk.get (by simp [g5]) (by simp)
      have k10 : getS sl' (.tup []) 10 = .int .i64 y := hk.get (by simp) (by simp)
      have k38 : getS sl' (.tup []) 38 = .ref 3 l.length 0 l.length := hk.get (by simp [g38]) (by simp)
      have k39 : getS sl' (.tup []) 39 = .int .i64 l.length := hk.get (by simp [g39]) (by simp)
      have k40 : getS sl' (.tup []) 40 = .int .i64 m := hk.get (by simp [g40]) (by simp)
      have l4 : (ints (bs.set y (baseV l v y))).length = l.length := by simp [hb]
      have l5 : (ints v).length = l.length := by simp [hv]
      have en4 := nthIs (v := bs.set y (baseV l v y)) (i := y) (by simp; omega)
      rw [nth_set _ _ _ _ _ (by omega), if_pos rfl] at en4
      have en5 := nthIs (v := v) (i := y) (by omega)
      rcases hns with ⟨k, hk0, hk1, hk2, hk3⟩ | ⟨hk0, hk3⟩
      · have hkr := isB_range hk1
        simp (disch := omega) [k1, k2, k4, k5, k10, k38, k39, k40, regionD_plain p, ix25 (hp6_4 ..) l4, ix25 (hp6_5 ..) l5, hp6_0, hp6_4, hp6_5, l4, l5, en4, en5, index_its, hk0, jobV, wrapI, ints_set, hp6_s5, -getElem?_pos]
        refine ih (m + 1) _ _ _ (by omega) (hsucc k hk0 hkr) ?_ ?_ ?_ ?_ ?_ ?_ ?_ q1 q2
        · simp [k1]
        · simp [k2]
        · simp [k4]
        · simp [k5]
        · simp [k38]
        · simp [k39]
        · simp
      · simp (disch := omega) [k1, k2, k4, k5, k10, k38, k39, k40, regionD_plain p, ix25 (hp6_4 ..) l4, ix25 (hp6_5 ..) l5, hp6_0, hp6_4, hp6_5, l4, l5, en4, en5, index_its, hk0, jobV, wrapI, ints_set, hp6_s5, -getElem?_pos]
        refine q2 _ _ (hp6 l w e1 e2 (o.map Int.ofNat) (bs.set y (baseV l v y)) v).length ((hp6 l w e1 e2 (o.map Int.ofNat) (bs.set y (baseV l v y)) v).length + 1) (hstk (by rw [hk0]; simp)) ?_ ?_ ?_
        · simp
        · simp
        · simp
/-- What leastcode.solve comes to. -/
def solveOk (l : List It) (w : Int) (r : AV) : Prop :=
  (∃ bs v, Sol l w v ∧ bs.length = l.length ∧ (∀ y, y < l.length → nth 0 bs y = baseV l v y) ∧ (∀ k, 0 ≤ nth 0 v k ∧ nth 0 v k ≤ 4095) ∧ r = .tup [.lst (ints bs), .lst (ints v), .int .i64 0]) ∨
  ((∀ v, ¬ Sol l w v) ∧ r = .tup [.lst [], .lst [], .int .i64 15])
theorem Ord.stage {l : List It} {w : Int} {o : List Nat} (_ : Ord l o) : Stage l w o 0 (List.replicate l.length 0) (List.replicate l.length 0) := by
  have h0 : ∀ k, nth (0 : Int) (List.replicate l.length 0) k = 0 := fun k => nth_range (P := fun x => x = 0) rfl (fun x hx => (List.mem_replicate.1 hx).2) k
  refine ⟨Part.start l w (fun x => by simp) (by simp), by simp, fun y hy => by simp at hy, fun y _ => h0 y, fun k => by rw [h0]; omega⟩
theorem sort_call {args : List AV} {h : Heap} {b c : Nat} {l : List It} {w : Int} {d : List Nat} (hs : SortIn args h b c l w d) : callN env (callL env) 50 args h = some (.tup [], h.set b (.row false 1 (ints ((sortL l d).map Int.ofNat)))) := by
  have hn : env.nat 50 = some sortN := rfl
  unfold callN
  simp only [hn]
  have e : ∃ t : Nat × Nat × List It × Int × List Nat, SortIn args h t.1 t.2.1 t.2.2.1 t.2.2.2.1 t.2.2.2.2 := ⟨(b, c, l, w, d), hs⟩
  unfold sortN
  rw [dif_pos e]
  have hc := e.choose_spec
  generalize e.choose = t at hc
  obtain ⟨b', c', l', w', d'⟩ := t
  simp only at hc
  have h1 := hs.args.symm.trans hc.args
  simp only [List.cons.injEq, AV.ref.injEq, AV.func.injEq, AV.ptr.injEq, true_and, and_true] at h1
  obtain ⟨⟨rfl, _⟩, rfl⟩ := h1
  have h2 := hs.row.symm.trans hc.row
  simp only [Option.some.injEq, Ent.row.injEq, true_and, ints, List.map_map] at h2
  have hd : d = d' := by
    have inj : Function.Injective ((AV.int .i64) ∘ Int.ofNat) := fun a b hab => by simp at hab; omega
    exact (List.map_inj_right fun a b hab => inj hab).1 h2
  subst hd
  have h3 := hs.job.symm.trans hc.job
  simp only [Option.some.injEq, Ent.row.injEq, true_and, jobV, List.cons.injEq, AV.agg.injEq, AV.lst.injEq, and_true] at h3
  have hl : l = l' := by
    refine (List.map_inj_right (f := It.av) fun a b hab => ?_).1 h3.1
    obtain ⟨a1, a2, a3, a4⟩ := a
    obtain ⟨b1, b2, b3, b4⟩ := b
    simpa [It.av] using hab
  subst hl
  rfl
end Rival
namespace Rival
set_option maxRecDepth 100000 in
set_option maxHeartbeats 4000000 in
theorem solve_ok (l : List It) (w : Int) (hf : Fine l w) (ho : Ord l (sortL l (List.range l.length))) : Gives (callL env 31 [jobV l w, .lst (tabV (kTab l))] []) fun r => ∃ v, snap .any depth r.2 r.1 = some v ∧ solveOk l w v := by
  have hl := hf.len
  apply gives_call
  have hmk : ¬ ((l.length : Int) * 8 ≤ 140737488355328 → 140737488355328 < (l.length : Int)) := by omega
  have hbl : ∀ x ∈ l, 0 ≤ x.b ∧ x.b ≤ 31 := fun x hx => by
    obtain ⟨i, hi, rfl⟩ := List.mem_iff_getElem.1 hx
    have := hf.item i hi
    rw [nth_getD, List.getD_eq_getElem?_getD, List.getElem?_eq_getElem hi] at this
    simp at this; omega
  have hc : ∀ e1 e2, callN env (callL env) 50 [.ref 3 l.length 0 l.length, .func 51 [.ptr 0 1 0 0]] [.row false 2 [.agg [.lst (its l), .int .i64 w]], e1, e2, .row false 1 (ints (oInit l.length l.length))] = some (.tup [], [.row false 2 [.agg [.lst (its l), .int .i64 w]], e1, e2, .row false 1 (ints ((sortL l (List.range l.length)).map Int.ofNat))]) := fun e1 e2 => by
    rw [oInit_all]
    exact sort_call (b := 3) (c := 0) (l := l) (w := w) (d := List.range l.length) ⟨by simp, rfl, rfl, fun x hx => by simpa using hx, hbl, by simp; omega⟩
  simp (disch := omega) [Tryz.f31, jobV, hmk]
  generalize hx : loopL env _ _ _ = L
  apply gives_cut hx
  clear hx
  rw [← oInit_zero]
  refine order_loop l.length (by omega) _ _ _ _ l.length 0 _ (by omega) (.lst (tabV (kTab l))) ?_ ?_ ?_ ?_ ?_ (fun sl' g1 g2 g7 => ?_)
  · simp
  · simp
  · simp
  · simp
  · simp
  · simp (disch := omega) [g1, g2, g7, hc, hmk]
    generalize hx : loopL env _ _ _ = L
    apply gives_cut hx
    clear hx
    rw [← zeros]
    refine solve_loop l w hf _ _ _ ho _ l.length 0 (List.replicate l.length 0) (List.replicate l.length 0) _ (by omega) ho.stage ?_ ?_ ?_ ?_ ?_ ?_ ?_ (fun sl2 bs v hs h4 h5 => ?_) (fun sl2 h' p q hn h4 h5 h6 => ?_)
    · simp [g1]
    · simp [g2]
    · simp
    · simp
    · simp [g7]
    · simp
    · simp
    · simp [h4, h5]
      refine ⟨.tup [.lst (ints bs), .lst (ints v), .int .i64 0], ?_, .inl ⟨bs, v, hs.part.sol fun x hx => ?_, hs.blen, fun y hy => hs.base y ?_, hs.rng, rfl⟩⟩
      · show (List.mapM (snap .any 11 _) _).map AV.tup = _
        simp only [List.mapM_cons, List.mapM_nil]
        rw [snap_rints (d := 9) (by simp) (hp6_4 ..) hs.blen, snap_rints (d := 9) (by simp) (hp6_5 ..) hs.part.len]
        rfl
      · rw [List.take_of_length_le (by rw [ho.len]; omega)]
        obtain ⟨i, hi, rfl⟩ := ho.has hx
        rw [nth_getD, List.getD_eq_getElem?_getD, List.getElem?_eq_getElem hi]
        exact List.getElem_mem hi
      · rw [List.take_of_length_le (by rw [ho.len]; omega)]
        obtain ⟨i, hi, rfl⟩ := ho.has hy
        rw [nth_getD, List.getD_eq_getElem?_getD, List.getElem?_eq_getElem hi]
        exact List.getElem_mem hi
    · simp [h4, h5, h6]
      exact ⟨_, rfl, .inr ⟨hn, rfl⟩⟩
theorem callFx {f : FuncId} (hm : cmR f = .frz) {args : List AV} {h : Heap} (hf : args.foldlM (fun h v => Abs.freeze depth v h) h = some h) (hcl : args.mapM (snap .frz depth h) = some args) {R : AV → Prop} (hc : Gives (callL env f args []) fun r => ∃ v, snap .any depth r.2 r.1 = some v ∧ R v) : ∃ v, callN env (callL env) f args h = some (v, h) ∧ R v := by
  obtain ⟨r, hr, v, hv, hR⟩ := gives_iff.1 hc
  exact ⟨v, callF hm hf hcl hr hv, hR⟩
theorem c31 (l : List It) (w : Int) (hf : Fine l w) (ho : Ord l (sortL l (List.range l.length))) : ∃ v, (∀ h, callN env (callL env) 31 [jobV l w, .lst (tabV (kTab l))] h = some (v, h)) ∧ solveOk l w v := by
  obtain ⟨r, hr, v, hv, hR⟩ := gives_iff.1 (solve_ok l w hf ho)
  exact ⟨v, fun h => callF rfl (by simp [Abs.freeze, depth, jobV]) (by simp [snap, depth, jobV]) hr hv, hR⟩
end Rival

/- TopRival: leastcode.Least. -/
open Go Go.Proofs Go.Abs
namespace Rival
/-- The greatest length. -/
def mxF (v : List Int) : Nat → Nat → Int → Int
  | 0, _, a => a
  | n + 1, i, a => mxF v n (i + 1) (max a (stepsV (nth 0 v i)).1)
def mxV (v : List Int) : Int := mxF v v.length 0 0
def leastOk (l : List It) (w : Int) (r : AV) : Prop :=
  (vJob l w ≠ 0 ∧ r = .tup [.agg [.int .i64 0, .nil], .int .i64 (vJob l w)]) ∨
  (vJob l w = 0 ∧ ∃ v, Sol l w v ∧ (∀ k, 0 ≤ nth 0 v k ∧ nth 0 v k ≤ 4095) ∧ r = .tup [planV (mxV v) v, .int .i64 0]) ∨
  (vJob l w = 0 ∧ (∀ v, ¬ Sol l w v) ∧ r = .tup [.agg [.int .i64 0, .nil], .int .i64 15])
def od14_0 : List DOp := [⟨0, 0, 0⟩, ⟨1, 0, 0⟩, ⟨2, 0, 2⟩, ⟨3, 0, 7⟩, ⟨4, 0, 15⟩, ⟨5, 0, 31⟩, ⟨6, 0, 31⟩, ⟨7, 0, 31⟩, ⟨8, 0, 63⟩, ⟨9, 0, 383⟩, ⟨10, 0, 1023⟩]
theorem od_14_0 : orderOf (dr Tryz.f14 0) = od14_0 := by kernel_rfl
theorem ok_14_0 : okD (dr Tryz.f14 0) od14_0 = true := by kernel_rfl
theorem eqv_job (l : List It) (w : Int) : eqv depth (.agg [.lst (its l), .int .i64 w]) (.agg [.lst (its l), .int .i64 w]) = true := by
  have := eqv_its 8 l
  simp [depth, eqv, eqvL] at this ⊢
  exact this
attribute [simp] eqv_job
theorem stepsV_rng (k : Int) : 0 ≤ (stepsV k).1 ∧ (stepsV k).1 ≤ 12 := by
  have : ∀ n z, lng n z ≤ n := fun n => by
    induction n with
    | zero => intro z; simp [lng]
    | succ n ih => intro z; simp only [lng]; split; omega; have := ih (z / 2); omega
  unfold stepsV
  split
  · have := this 12 k.toNat; simp; omega
  · simp
set_option maxRecDepth 100000 in
set_option maxHeartbeats 4000000 in
theorem least_loop (v : List Int) (hv : v.length ≤ 96) (j e1 : Ent) (p : Nat) (mid : Heap) (hp : p = mid.length) (Q : Out → Prop) : ∀ (n i : Nat) (a : Int) (sl : List (Nat × AV)), i + n = v.length → 0 ≤ a → 
    getS sl (.tup []) 2 = .ptr 1 1 0 0 → getS sl (.tup []) 8 = .ptr (p + 2) 1 0 0 → getS sl (.tup []) 33 = .lst (ints v) → getS sl (.tup []) 34 = .int .i64 v.length → getS sl (.tup []) 35 = .int .i64 i →
    (∀ sl', getS sl' (.tup []) 2 = .ptr 1 1 0 0 → getS sl' (.tup []) 8 = .ptr (p + 2) 1 0 0 → Q (.exit 0 ⟨51, .tup [], sl', []⟩ (j :: e1 :: (mid ++ [.row false 2 [planV (mxF v n i a) v]])))) →
    Gives (loopL env (lp Tryz.f14 0) ⟨51, .tup [], sl, []⟩ (j :: e1 :: (mid ++ [.row false 2 [planV a v]]))) Q := by
  subst hp
  intro n
  induction n with
  | zero =>
    intro i a sl hi ha g2 g8 g33 g34 g35 q
    refine gives_loop ?_
    simp (disch := omega) [lp, Tryz.f14, loops, g34, g35, decF]
    exact q _ (by simp [g2]) (by simp [g8])
  | succ n ih =>
    intro i a sl hi ha g2 g8 g33 g34 g35 q
    refine gives_loop ?_
    have hr := stepsV_rng (nth 0 v i)
    have e : mxF v (n + 1) i a = mxF v n (i + 1) (max a (stepsV (nth 0 v i)).1) := rfl
    rw [e] at q
    simp (disch := omega) [lp, Tryz.f14, loops, g8, g33, g34, g35, decT, wrapI, index_ints, planV]
    refine ih (i + 1) _ _ (by omega) (by omega) ?_ ?_ ?_ ?_ ?_ q
    · simp [g2]
    · simp [g8]
    · simp [g33]
    · simp [g34]
    · simp
set_option maxRecDepth 100000 in
set_option maxHeartbeats 4000000 in
theorem least_ok (l : List It) (w : Int) (hl : l.length < 2 ^ 62) (ho : Ord l (sortL l (List.range l.length))) : Gives (callL env 14 [jobV l w] []) fun r => ∃ v, snap .any depth r.2 r.1 = some v ∧ leastOk l w v := by
  have o := od_14_0
  have k := ok_14_0
  simp [dr, drs, Tryz.f14] at o k
  apply gives_call
  have c := fun h => c30 l w hl h
  simp only [jobV] at c
  by_cases h0 : vJob l w = 0
  · have hf := fine_of h0
    have c2 := fun h => c32 l w hf.len h
    obtain ⟨v, c3, hv⟩ := c31 l w hf ho
    simp only [jobV] at c2 c3
    rcases hv with ⟨bs, v, hs, hb, hbv, hr, rfl⟩ | ⟨hn, rfl⟩
    · simp (disch := omega) [Tryz.f14, jobV, c, h0, regionD_ok o k, od14_0, runD, c2, c3, clsOf, extP, wantedA, act, gone_none, gone_gone, isGone, pads, held, quiet, Pend.holds, still, opA]
      generalize hx : loopL env _ _ _ = L
      apply gives_cut hx
      clear hx
      refine least_loop v (by rw [hs.1]; exact hf.len) _ _ 0 [] rfl _ v.length 0 0 _ (by omega) (by omega) ?_ ?_ ?_ ?_ ?_ (fun sl' h2 h8 => ?_)
      · simp
      · simp
      · simp
      · simp
      · simp
      · simp [h2, h8, planV]
        exact ⟨_, rfl, .inr (.inl ⟨h0, v, hs, hr, rfl⟩)⟩
    · simp (disch := omega) [Tryz.f14, jobV, c, h0, regionD_ok o k, od14_0, runD, c2, c3, clsOf, extP, wantedA, act, gone_none, gone_gone, isGone, pads, held, quiet, Pend.holds, still, opA]
      exact ⟨_, rfl, .inr (.inr ⟨h0, hn, rfl⟩)⟩
  · simp (disch := omega) [Tryz.f14, jobV, c, h0]
    exact ⟨_, rfl, .inl ⟨h0, rfl⟩⟩
theorem c14 (l : List It) (w : Int) (hl : l.length < 2 ^ 62) (ho : Ord l (sortL l (List.range l.length))) : ∃ v, (∀ h, callN env (callL env) 14 [jobV l w] h = some (v, h)) ∧ leastOk l w v := by
  obtain ⟨r, hr, v, hv, hR⟩ := gives_iff.1 (least_ok l w hl ho)
  exact ⟨v, fun h => callF rfl (by simp [Abs.freeze, depth, jobV]) (by simp [snap, depth, jobV]) hr hv, hR⟩
end Rival
