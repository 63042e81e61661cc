/- TopRival: the reference of the least codes. -/
import Derived.Test.YtgdcimpndddepaaGreatRF
/- TopRival: r13.Least. -/
open Go Go.Proofs Go.Abs
namespace Rival
/-- Blocks below b, and of block b the items below y. -/
def Pb (l : List It) (b y : Nat) (x : Nat) : Prop := x < l.length ∧ ((nth default l x).b < b ∨ (nth default l x).b = b ∧ x < y)
theorem c37R (l : List It) (w : Int) (v : List Int) (y : Nat) (hl : l.length < 2 ^ 62) (hv : v.length = l.length) (hy : y < l.length) (hs : small v) (b : Nat) (h : Heap) (hb : h[b]? = some (.row false 1 (ints v))) : callN env (callL env) 37 [jobV l w, .ref b l.length 0 l.length, .int .i64 y] h = some (.int .i64 (baseV l v y), h) := by
  obtain ⟨r, hr, h1⟩ := gives_iff.1 (base_ok l w v y hl hv hy hs)
  refine callS rfl (by simp [closed?, depth, jobV]) ?_ hr (by rw [h1]; rfl)
  simp only [List.mapM_cons, List.mapM_nil]
  have e : snap .any depth h (.ref b l.length 0 l.length) = some (.lst (ints v)) := snap_rints (d := 10) (by simp) hb hv
  simp only [e]
  simp [snap, jobV, depth]
theorem c37 (l : List It) (w : Int) (v : List Int) (y : Nat) (hl : l.length < 2 ^ 62) (hv : v.length = l.length) (hy : y < l.length) (hs : small v) (h : Heap) : callN env (callL env) 37 [jobV l w, .lst (ints v), .int .i64 y] h = some (.int .i64 (baseV l v y), h) := by
  obtain ⟨r, hr, h1⟩ := gives_iff.1 (base_ok l w v y hl hv hy hs)
  exact callE rfl (by simp [closed?, depth, jobV]) hr (by rw [h1]; rfl) h
theorem Part.congr {l : List It} {w : Int} {P P' : Nat → Prop} {v : List Int} (h : Part l w P v) (hP : ∀ x, P' x ↔ P x) : Part l w P' v := by
  have : P' = P := funext fun x => propext (hP x)
  rw [this]; exact h
theorem pm16_0 : permD env (dr Tryz.f16 0) = true := by kernel_rfl
theorem po16_0 : (orderOf (dr Tryz.f16 0)).map (·.i) = [0, 1, 2, 4, 5, 6, 7, 8, 9, 10, 11, 3, 12, 13, 14, 15, 16, 17] := by kernel_rfl
def hp3 (l : List It) (w : Int) (v : List Int) : Heap := [.row false 2 [jobV l w], .row false 2 [.agg [.int .i64 0, .nil]], .row false 1 (ints v)]
theorem hp3_0 (l : List It) (w : Int) (v : List Int) : (hp3 l w v)[0]? = some (.row false 2 [jobV l w]) := rfl
theorem hp3_1 (l : List It) (w : Int) (v : List Int) : (hp3 l w v)[1]? = some (.row false 2 [.agg [.int .i64 0, .nil]]) := rfl
theorem hp3_2 (l : List It) (w : Int) (v : List Int) : (hp3 l w v)[2]? = some (.row false 1 (ints v)) := rfl
theorem hp3_s2 (l : List It) (w : Int) (v v' : List Int) : (hp3 l w v).set 2 (.row false 1 (ints v')) = hp3 l w v' := rfl
set_option maxRecDepth 100000 in
set_option maxHeartbeats 4000000 in
theorem rl_inner (l : List It) (w : Int) (hf : Fine l w) (b : Nat) (Q : Out → Prop) : ∀ (n y : Nat) (m : Int) (v : List Int) (sl : List (Nat × AV)), y + n = l.length → Part l w (Pb l b y) v → (∀ k, 0 ≤ nth 0 v k ∧ nth 0 v k ≤ 4095) → 0 ≤ m ∧ m ≤ 4095 → 
    getS sl (.tup []) 1 = .ptr 0 1 0 0 → getS sl (.tup []) 2 = .ptr 1 1 0 0 → getS sl (.tup []) 5 = .ref 2 l.length 0 l.length → getS sl (.tup []) 6 = .int .i64 m → getS sl (.tup []) 7 = .int .i64 b → getS sl (.tup []) 8 = .int .i64 y →
    (∀ sl' m' v', Part l w (Pb l b l.length) v' → (∀ k, 0 ≤ nth 0 v' k ∧ nth 0 v' k ≤ 4095) → 0 ≤ m' ∧ m' ≤ 4095 → Keep [1, 2, 5, 7] sl sl' → getS sl' (.tup []) 6 = .int .i64 m' → Q (.exit 2 ⟨70, .tup [], sl', []⟩ (hp3 l w v'))) →
    (∀ sl' h', (∀ v', ¬ Sol l w v') → getS sl' (.tup []) 2 = .ptr 1 1 0 0 → getS sl' (.tup []) 3 = .int .i64 15 → h'[1]? = some (.row false 2 [.agg [.int .i64 0, .nil]]) → Q (.ret ⟨70, .tup [], sl', []⟩ h')) →
    Gives (loopL env (lp Tryz.f16 1) ⟨70, .tup [], sl, []⟩ (hp3 l w v)) Q := by
  have p := pm16_0
  have o := po16_0
  simp [dr, drs, Tryz.f16] at p o
  have hl := hf.len
  intro n
  induction n with
  | zero =>
    intro y m v sl hi hp hr hm g1 g2 g5 g6 g7 g8 q1 q2
    obtain rfl : y = l.length := by omega
    refine gives_loop ?_
    simp (disch := omega) [lp, Tryz.f16, loops, g5, g8, decF]
    exact q1 _ m v hp hr hm (by repeat (first | exact Keep.refl _ _ | refine Keep.put ?_ (by decide))) (by simp [g6])
  | succ n ih =>
    intro y m v sl hi hp hr hm g1 g2 g5 g6 g7 g8 q1 q2
    refine gives_loop ?_
    have hy : y < l.length := by omega
    have hs : small v := fun k => by have := hr k; omega
    by_cases hb : (nth default l y).b = b
    · have hP : ∀ x, Pb l b (y + 1) x ↔ Pb l b y x ∨ x = y := fun x => by
        unfold Pb
        constructor
        · rintro ⟨h1, h2 | ⟨h2, h3⟩⟩
          · exact .inl ⟨h1, .inl h2⟩
          · by_cases hxy : x = y
            · exact .inr hxy
            · exact .inl ⟨h1, .inr ⟨h2, by omega⟩⟩
        · rintro (⟨h1, h2 | ⟨h2, h3⟩⟩ | rfl)
          · exact ⟨h1, .inl h2⟩
          · exact ⟨h1, .inr ⟨h2, by omega⟩⟩
          · exact ⟨hy, .inr ⟨hb, by omega⟩⟩
      have hfr : ¬ Pb l b y y := fun h => by unfold Pb at h; omega
      have hpre : ∀ x, x < l.length → 0 < kindV l x y → Pb l b y x := fun x hx hk => ⟨hx, .inl (by have := (kind_block hk).1; omega)⟩
      have hform := hf.form hy
      have c := fun h hb => c37R l w v y (by omega) hp.len hy hs 2 h hb
      have c' := c _ (hp3_2 l w v)
      clear c
      have hv := hp.len
      have l2 : (ints v).length = l.length := by simp [hv]
      have en := nthIs (v := v) (i := y) (by omega)
      have hns := nextV_cases (baseV_nonneg l v y) hform
      have hstep := fun k hk => hp.step hy hfr hpre (k := k) hk hP
      have hstk := hp.stuck hy hpre
      simp only [jobV] at c'
      rcases hns with ⟨k, hk0, hk1, hk2, hk3⟩ | ⟨hk0, hk3⟩
      · have hkr := isB_range hk1
        simp (disch := omega) [lp, Tryz.f16, loops, g1, g2, g5, g6, g7, g8, decT, wrapI, index_its, hb, regionD_perm p o, hp3_0, hp3_2, c', jobV, hk0, ix25 (hp3_2 ..) l2, l2, en, ints_set, hp3_s2, -getElem?_pos]
        refine ih (y + 1) (max m k) _ _ (by omega) (hstep k hk0) (fun x => ?_) ?_ ?_ ?_ ?_ ?_ ?_ ?_ (fun sl' m' v' f1 f2 f3 f4 f5 => q1 sl' m' v' f1 f2 f3 (Keep.trans ?_ f4) f5) q2
        · rw [nth_set _ _ _ _ _ (by omega)]
          split
          · exact hkr
          · exact hr x
        · omega
        · simp [g1]
        · simp [g2]
        · simp [g5]
        · simp
        · simp [g7]
        · simp
        · repeat (first | exact Keep.refl _ _ | refine Keep.put ?_ (by decide))
      · simp (disch := omega) [lp, Tryz.f16, loops, g1, g2, g5, g6, g7, g8, decT, wrapI, index_its, hb, regionD_perm p o, hp3_0, hp3_1, hp3_2, c', jobV, hk0, ix25 (hp3_2 ..) l2, l2, en, ints_set, hp3_s2, -getElem?_pos]
        exact q2 _ _ (hstk (by rw [hk0]; simp)) (by simp [g2]) (by simp) rfl
    · have hP : ∀ x, Pb l b (y + 1) x ↔ Pb l b y x := fun x => by
        unfold Pb
        constructor
        · rintro ⟨h1, h2 | ⟨h2, h3⟩⟩
          · exact ⟨h1, .inl h2⟩
          · refine ⟨h1, .inr ⟨h2, ?_⟩⟩
            by_cases hxy : x = y
            · subst hxy; exact absurd h2 hb
            · omega
        · rintro ⟨h1, h2 | ⟨h2, h3⟩⟩
          · exact ⟨h1, .inl h2⟩
          · exact ⟨h1, .inr ⟨h2, by omega⟩⟩
      simp (disch := omega) [lp, Tryz.f16, loops, g1, g2, g5, g6, g7, g8, decT, wrapI, index_its, hb, hp3_0, jobV, -getElem?_pos]
      refine ih (y + 1) m _ _ (by omega) (hp.congr hP) hr hm ?_ ?_ ?_ ?_ ?_ ?_ (fun sl' m' v' f1 f2 f3 f4 f5 => q1 sl' m' v' f1 f2 f3 (Keep.trans ?_ f4) f5) q2
      · simp [g1]
      · simp [g2]
      · simp [g5]
      · simp [g6]
      · simp [g7]
      · simp
      · repeat (first | exact Keep.refl _ _ | refine Keep.put ?_ (by decide))
set_option maxRecDepth 100000 in
set_option maxHeartbeats 4000000 in
theorem rl_outer (l : List It) (w : Int) (hf : Fine l w) (Q : Out → Prop) : ∀ (n b : Nat) (m : Int) (v : List Int) (sl : List (Nat × AV)), b + n = 32 → Part l w (Pb l b 0) v → (∀ k, 0 ≤ nth 0 v k ∧ nth 0 v k ≤ 4095) → 0 ≤ m ∧ m ≤ 4095 → 
    getS sl (.tup []) 1 = .ptr 0 1 0 0 → getS sl (.tup []) 2 = .ptr 1 1 0 0 → getS sl (.tup []) 5 = .ref 2 l.length 0 l.length → getS sl (.tup []) 6 = .int .i64 m → getS sl (.tup []) 7 = .int .i64 b →
    (∀ sl' m' v', Sol l w v' → (∀ k, 0 ≤ nth 0 v' k ∧ nth 0 v' k ≤ 4095) → 0 ≤ m' ∧ m' ≤ 4095 → Keep [1, 2, 5] sl sl' → getS sl' (.tup []) 6 = .int .i64 m' → Q (.exit 0 ⟨70, .tup [], sl', []⟩ (hp3 l w v'))) →
    (∀ sl' h', (∀ v', ¬ Sol l w v') → getS sl' (.tup []) 2 = .ptr 1 1 0 0 → getS sl' (.tup []) 3 = .int .i64 15 → h'[1]? = some (.row false 2 [.agg [.int .i64 0, .nil]]) → Q (.ret ⟨70, .tup [], sl', []⟩ h')) →
    Gives (loopL env (lp Tryz.f16 0) ⟨70, .tup [], sl, []⟩ (hp3 l w v)) Q := by
  intro n
  induction n with
  | zero =>
    intro b m v sl hi hp hr hm g1 g2 g5 g6 g7 q1 q2
    obtain rfl : b = 32 := by omega
    refine gives_loop ?_
    simp (disch := omega) [lp, Tryz.f16, loops, g7]
    refine q1 _ m v (hp.sol fun x hx => ?_) hr hm (by repeat (first | exact Keep.refl _ _ | refine Keep.put ?_ (by decide))) (by simp [g6])
    have := hf.item x hx
    exact ⟨hx, .inl (by omega)⟩
  | succ n ih =>
    intro b m v sl hi hp hr hm g1 g2 g5 g6 g7 q1 q2
    refine gives_loop ?_
    simp (disch := omega) [lp, Tryz.f16, loops, g7, decT]
    generalize hx : loopL env _ _ _ = L
    apply gives_cut hx
    clear hx
    refine rl_inner l w hf b _ l.length 0 m v _ (by omega) hp hr hm ?_ ?_ ?_ ?_ ?_ ?_ (fun sl' m' v' f1 f2 f3 f4 f5 => ?_) (fun sl' h' f1 f2 f3 f4 => ?_)
    · simp [g1]
    · simp [g2]
    · simp [g5]
    · simp [g6]
    · simp [g7]
    · simp
    · have k1 : getS sl' (.tup []) 1 = .ptr 0 1 0 0 := f4.get (by simp [g1]) (by simp)
      have k2 : getS sl' (.tup []) 2 = .ptr 1 1 0 0 := f4.get (by simp [g2]) (by simp)
      have k5 : getS sl' (.tup []) 5 = .ref 2 l.length 0 l.length := f4.get (by simp [g5]) (by simp)
      have k7 : getS sl' (.tup []) 7 = .int .i64 b := f4.get (by simp [g7]) (by simp)
      have hK : Keep [1, 2, 5] sl sl' := fun t ht => by
        simp at ht
        rcases ht with rfl | rfl | rfl
        · rw [k1, g1]
        · rw [k2, g2]
        · rw [k5, g5]
      simp (disch := omega) [k7, wrapI]
      refine ih (b + 1) m' v' _ (by omega) (f1.congr fun x => ?_) f2 f3 ?_ ?_ ?_ ?_ ?_ (fun sl2 m2 v2 e1 e2 e3 e4 e5 => q1 sl2 m2 v2 e1 e2 e3 (Keep.trans (Keep.trans hK ?_) e4) e5) q2
      · unfold Pb
        constructor
        · rintro ⟨h1, h2 | ⟨h2, h3⟩⟩
          · exact ⟨h1, by omega⟩
          · omega
        · rintro ⟨h1, h2 | ⟨h2, h3⟩⟩
          · exact ⟨h1, .inl (by omega)⟩
          · exact ⟨h1, .inl (by omega)⟩
      · simp [k1]
      · simp [k2]
      · simp [k5]
      · simp [f5]
      · simp
      · repeat (first | exact Keep.refl _ _ | refine Keep.put ?_ (by decide))
    · simp
      exact q2 _ _ f1 f2 f3 f4
/-- What r13.Least comes to. -/
def rleastOk (l : List It) (w : Int) (r : AV) : Prop :=
  (vJob l w ≠ 0 ∧ r = .tup [.agg [.int .i64 0, .nil], .int .i64 (vJob l w)]) ∨
  (vJob l w = 0 ∧ ∃ v s, Sol l w v ∧ (∀ k, 0 ≤ nth 0 v k ∧ nth 0 v k ≤ 4095) ∧ r = .tup [planV s v, .int .i64 0]) ∨
  (vJob l w = 0 ∧ (∀ v, ¬ Sol l w v) ∧ r = .tup [.agg [.int .i64 0, .nil], .int .i64 15])
set_option maxRecDepth 100000 in
set_option maxHeartbeats 4000000 in
theorem rleast_ok (l : List It) (w : Int) (hl : l.length < 2 ^ 62) : Gives (callL env 16 [jobV l w] []) fun r => ∃ v, snap .any depth r.2 r.1 = some v ∧ rleastOk l w v := by
  apply gives_call
  have c := fun h => c20 l w hl h
  simp only [jobV] at c
  by_cases h0 : vJob l w = 0
  · have hf := fine_of h0
    have hll := hf.len
    have hmk : ¬ ((l.length : Int) * 8 ≤ 140737488355328 → 140737488355328 < (l.length : Int)) := by omega
    simp (disch := omega) [Tryz.f16, jobV, c, h0, hmk]
    generalize hx : loopL env _ _ _ = L
    apply gives_cut hx
    clear hx
    rw [← zeros]
    have z0 : ∀ k, nth (0 : Int) (List.replicate l.length 0) k = 0 := fun k => nth_range (P := fun x => x = 0) rfl (fun x hx => (List.mem_replicate.1 hx).2) k
    refine rl_outer l w hf _ 32 0 0 (List.replicate l.length 0) _ (by omega) (Part.start l w (fun x hx => ?_) (by simp)) (fun k => by rw [z0]; omega) (by omega) ?_ ?_ ?_ ?_ ?_ (fun sl' m' v' f1 f2 f3 f4 f5 => ?_) (fun sl' h' f1 f2 f3 f4 => ?_)
    · obtain ⟨h1, h2⟩ := hx
      have := hf.item x h1
      simp at h2
      omega
    · simp
    · simp
    · simp
    · simp
    · simp
    · have k2 : getS sl' (.tup []) 2 = .ptr 1 1 0 0 := f4.get (by simp) (by simp)
      have k5 : getS sl' (.tup []) 5 = .ref 2 l.length 0 l.length := f4.get (by simp) (by simp)
      obtain ⟨m', rfl⟩ := Int.eq_ofNat_of_zero_le f3.1
      have c2 := fun h => c38 m' (by omega) h
      simp (disch := omega) [k2, k5, f5, c2, hp3]
      refine ⟨.tup [planV (lng 12 m') v', .int .i64 0], ?_, .inr (.inl ⟨h0, v', lng 12 m', f1, f2, rfl⟩)⟩
      have e : snap .any 10 [.row false 2 [jobV l w], .row false 2 [.agg [.int .i64 (lng 12 m'), .ref 2 l.length 0 l.length]], .row false 1 (ints v')] (.ref 2 l.length 0 l.length) = some (.lst (ints v')) := snap_rints (d := 8) (by simp) rfl f1.1
      show (List.mapM (snap .any 11 _) _).map AV.tup = _
      simp only [List.mapM_cons, List.mapM_nil]
      have e2 : snap .any 11 [.row false 2 [jobV l w], .row false 2 [.agg [.int .i64 (lng 12 m'), .ref 2 l.length 0 l.length]], .row false 1 (ints v')] (.agg [.int .i64 (lng 12 m'), .ref 2 l.length 0 l.length]) = some (planV (lng 12 m') v') := by
        show (List.mapM (snap .any 10 _) _).map AV.agg = _
        simp only [List.mapM_cons, List.mapM_nil, e]
        rfl
      rw [e2]
      rfl
    · simp [f2, f3, f4]
      exact ⟨_, rfl, .inr (.inr ⟨h0, f1, rfl⟩)⟩
  · simp (disch := omega) [Tryz.f16, jobV, c, h0]
    exact ⟨_, rfl, .inl ⟨h0, rfl⟩⟩
theorem c16 (l : List It) (w : Int) (hl : l.length < 2 ^ 62) : ∃ v, (∀ h, callN env (callL env) 16 [jobV l w] h = some (v, h)) ∧ rleastOk l w v := by
  obtain ⟨r, hr, v, hv, hR⟩ := gives_iff.1 (rleast_ok l w hl)
  exact ⟨v, fun h => callF rfl (by simp [Abs.freeze, depth, jobV]) (by simp [snap, depth, jobV]) hr hv, hR⟩
end Rival

/- TopRival: r11.Back, r13.Witness, r15.Make. -/
open Go Go.Proofs Go.Abs
namespace Rival
theorem pl39_0 : plainD env (dr Tryz.f39 0) = true := by kernel_rfl
theorem pm39_1 : permD env (dr Tryz.f39 1) = true := by kernel_rfl
theorem po39_1 : (orderOf (dr Tryz.f39 1)).map (·.i) = [0, 1, 2, 3, 4, 5, 6, 7, 8, 9, 10, 11, 12, 15, 13, 14, 16, 17] := by kernel_rfl
set_option maxRecDepth 100000 in
set_option maxHeartbeats 4000000 in
theorem arg_loop (v : List Int) (hv : v.length ≤ 96) (H : Heap) (Q : Out → Prop) : ∀ (n i y : Nat) (sl : List (Nat × AV)), i + n = v.length → y < v.length →
    getS sl (.tup []) 1 = .lst (ints v) → getS sl (.tup []) 2 = .ptr 0 1 0 0 → getS sl (.tup []) 5 = .int .i64 y → getS sl (.tup []) 6 = .int .i64 i →
    (∀ sl' (y' : Nat), y' < v.length → Keep [1, 2] sl sl' → getS sl' (.tup []) 5 = .int .i64 y' → Q (.exit 0 ⟨67, .tup [], sl', []⟩ H)) →
    Gives (loopL env (lp Tryz.f39 0) ⟨67, .tup [], sl, []⟩ H) Q := by
  have p := pl39_0
  simp [dr, drs, Tryz.f39] at p
  intro n
  induction n with
  | zero =>
    intro i y sl hi hy g1 g2 g5 g6 q
    refine gives_loop ?_
    simp (disch := omega) [lp, Tryz.f39, loops, g1, g6, decF]
    exact q _ y hy (by repeat (first | exact Keep.refl _ _ | refine Keep.put ?_ (by decide))) (by simp [g5])
  | succ n ih =>
    intro i y sl hi hy g1 g2 g5 g6 q
    refine gives_loop ?_
    by_cases hc : nth 0 v y < nth 0 v i
    · simp (disch := omega) [lp, Tryz.f39, loops, g1, g5, g6, decT, wrapI, index_ints, regionD_plain p, hc]
      refine ih (i + 1) i _ (by omega) (by omega) ?_ ?_ ?_ ?_ (fun sl' y' h1 h2 h3 => q sl' y' h1 (Keep.trans ?_ h2) h3)
      · simp [g1]
      · simp [g2]
      · simp
      · simp
      · repeat (first | exact Keep.refl _ _ | refine Keep.put ?_ (by decide))
    · simp (disch := omega) [lp, Tryz.f39, loops, g1, g5, g6, decT, wrapI, index_ints, regionD_plain p, hc]
      refine ih (i + 1) y _ (by omega) hy ?_ ?_ ?_ ?_ (fun sl' y' h1 h2 h3 => q sl' y' h1 (Keep.trans ?_ h2) h3)
      · simp [g1]
      · simp [g2]
      · simp [g5]
      · simp
      · repeat (first | exact Keep.refl _ _ | refine Keep.put ?_ (by decide))
set_option maxRecDepth 100000 in
set_option maxHeartbeats 4000000 in
theorem seek_loop (l : List It) (w : Int) (hl : l.length ≤ 96) (v : List Int) (hv : v.length = l.length) (hr : ∀ k, 0 ≤ nth 0 v k ∧ nth 0 v k ≤ 4095) (y : Nat) (hy : y < l.length) (H : Heap) (H0 : H[0]? = some (.row false 2 [jobV l w])) (Q : Out → Prop) : ∀ (n i : Nat) (sl : List (Nat × AV)), i + n = l.length → (∃ x, i ≤ x ∧ Asks l v x y) →
    getS sl (.tup []) 1 = .lst (ints v) → getS sl (.tup []) 2 = .ptr 0 1 0 0 → getS sl (.tup []) 5 = .int .i64 y → getS sl (.tup []) 8 = .int .i64 (baseV l v y) → getS sl (.tup []) 9 = .int .i64 i →
    (∀ sl' (x : Nat), Asks l v x y → Keep [1, 2, 7] sl sl' → getS sl' (.tup []) 9 = .int .i64 x → Q (.exit 4 ⟨67, .tup [], sl', []⟩ H)) →
    Gives (loopL env (lp Tryz.f39 2) ⟨67, .tup [], sl, []⟩ H) Q := by
  have p := pm39_1
  have o := po39_1
  simp [dr, drs, Tryz.f39] at p o
  simp only [jobV] at H0
  intro n
  induction n with
  | zero =>
    intro i sl hi hx
    obtain ⟨x, h1, h2, _⟩ := hx
    omega
  | succ n ih =>
    intro i sl hi hx g1 g2 g5 g8 g9 q
    refine gives_loop ?_
    have c := fun h => c52 l w i y (by omega) hy h
    have d := fun h => c53 l w i y (by omega) hy h
    simp only [jobV] at c d
    have hk := kind_cases l i y
    have hri := hr i
    have hA : Asks l v i y ↔ (0 < kindV l i y ∧ nth 0 v i + kindV l i y / 2 = baseV l v y) := ⟨fun h => h.2, fun h => ⟨by omega, h⟩⟩
    generalize kindV l i y = k at c d hk hA
    by_cases hk0 : k = 0
    · simp (disch := omega) [lp, Tryz.f39, loops, g1, g2, g5, g8, g9, wrapI, c, d, hk0, H0, regionD_perm p o, index_ints, -getElem?_pos]
      refine ih (i + 1) _ (by omega) ?_ ?_ ?_ ?_ ?_ ?_ (fun sl' x h1 h2 h3 => q sl' x h1 (Keep.trans ?_ h2) h3)
      · obtain ⟨x, h1, h2⟩ := hx
        refine ⟨x, ?_, h2⟩
        by_cases hxi : x = i
        · subst hxi; have := (hA.1 h2).1; omega
        · omega
      · simp [g1]
      · simp [g2]
      · simp [g5]
      · simp [g8]
      · simp
      · repeat (first | exact Keep.refl _ _ | refine Keep.put ?_ (by decide))
    · by_cases he : nth 0 v i + k / 2 = baseV l v y
      · simp (disch := omega) [lp, Tryz.f39, loops, g1, g2, g5, g8, g9, wrapI, c, d, hk0, he, H0, regionD_perm p o, index_ints, -getElem?_pos]
        refine q _ i (hA.2 ⟨by omega, he⟩) ?_ ?_
        · repeat (first | exact Keep.refl _ _ | refine Keep.put ?_ (by decide))
        · simp [g9]
      · have he' : ¬ baseV l v y = nth 0 v i + k / 2 := fun h => he h.symm
        simp (disch := omega) [lp, Tryz.f39, loops, g1, g2, g5, g8, g9, wrapI, c, d, hk0, he, he', H0, regionD_perm p o, index_ints, -getElem?_pos]
        refine ih (i + 1) _ (by omega) ?_ ?_ ?_ ?_ ?_ ?_ (fun sl' x h1 h2 h3 => q sl' x h1 (Keep.trans ?_ h2) h3)
        · obtain ⟨x, h1, h2⟩ := hx
          refine ⟨x, ?_, h2⟩
          by_cases hxi : x = i
          · subst hxi; exact absurd (hA.1 h2).2 he
          · omega
        · simp [g1]
        · simp [g2]
        · simp [g5]
        · simp [g8]
        · simp
        · repeat (first | exact Keep.refl _ _ | refine Keep.put ?_ (by decide))
set_option maxRecDepth 100000 in
set_option maxHeartbeats 4000000 in
theorem back_loop (l : List It) (w : Int) (hf : Fine l w) (v : List Int) (hv : v.length = l.length) (hr : ∀ k, 0 ≤ nth 0 v k ∧ nth 0 v k ≤ 4095) (Q : Out → Prop) : ∀ (n : Nat) (c : List Int) (p y : Nat) (H : Heap) (sl : List (Nat × AV)), (nth default l y).b < n → (c.length : Int) + (nth default l y).b ≤ 32 → y < l.length → H[0]? = some (.row false 2 [jobV l w]) → H[p]? = some (.row false 1 (ints c)) →
    getS sl (.tup []) 1 = .lst (ints v) → getS sl (.tup []) 2 = .ptr 0 1 0 0 → getS sl (.tup []) 5 = .int .i64 y → getS sl (.tup []) 7 = .ref p c.length 0 c.length → getS sl (.tup []) 8 = .int .i64 (baseV l v y) →
    (∀ sl' c' p' H', H'[p']? = some (.row false 1 (ints c')) → getS sl' (.tup []) 7 = .ref p' c'.length 0 c'.length → Q (.exit 2 ⟨67, .tup [], sl', []⟩ H')) →
    Gives (loopL env (lp Tryz.f39 1) ⟨67, .tup [], sl, []⟩ H) Q := by
  have hl := hf.len
  have hs : small v := fun k => by have := hr k; omega
  intro n
  induction n with
  | zero =>
    intro c p y H sl hn hc hy
    have := hf.item y hy
    simp at hn
    omega
  | succ n ih =>
    intro c p y H sl hn hc hy H0 Hp g1 g2 g5 g7 g8 q
    refine gives_loop ?_
    by_cases hz : 0 < baseV l v y
    · have hit := hf.item y hy
      obtain ⟨x, hx1, hx2, hx3⟩ := baseV_hit hz
      simp (disch := omega) [lp, Tryz.f39, loops, g8, hz]
      generalize hx : loopL env _ _ _ = L
      apply gives_cut hx
      clear hx
      refine seek_loop l w hl v hv hr y hy _ H0 _ l.length 0 _ (by omega) ⟨x, by omega, hx1, hx2, hx3⟩ ?_ ?_ ?_ ?_ ?_ (fun sl' x' h1 h2 h3 => ?_)
      · simp [g1]
      · simp [g2]
      · simp [g5]
      · simp [g8]
      · simp
      · have k1 : getS sl' (.tup []) 1 = .lst (ints v) := h2.get (by simp [g1]) (by simp)
        have k2 : getS sl' (.tup []) 2 = .ptr 0 1 0 0 := h2.get (by simp [g2]) (by simp)
        have k7 : getS sl' (.tup []) 7 = .ref p c.length 0 c.length := h2.get (by simp [g7]) (by simp)
        have hb' := (kind_block h1.2.1).1
        have hx' := h1.1
        have c5 := fun h => c37 l w v x' (by omega) hv hx' hs h
        have hlp : p < H.length := (List.getElem?_eq_some_iff.1 Hp).1
        have Hp' : ∀ t, (H ++ t)[p]? = some (.row false 1 (ints c)) := fun t => by rw [List.getElem?_append_left hlp, Hp]
        have H0' : ∀ t, (H ++ t)[0]? = some (.row false 2 [jobV l w]) := fun t => by rw [List.getElem?_append_left (by omega), H0]
        simp only [jobV] at H0' c5
        have htk : List.take c.length (ints c) = ints c := List.take_of_length_le (by simp)
        simp (disch := omega) [k1, k2, k7, h3, app25, Hp', H0', c5, htk, -getElem?_pos]
        have hlH : H.length < (H ++ [Ent.row false 1 (AV.int .i64 x' :: ints c)]).length := by simp
        refine ih ((x' : Int) :: c) H.length x' _ _ (by omega) (by simp; omega) hx' (H0' _) ?_ ?_ ?_ ?_ ?_ ?_ q
        · simp [ints]
        · simp [k1]
        · simp [k2]
        · simp
        · simp; omega
        · simp
    · simp (disch := omega) [lp, Tryz.f39, loops, g8, hz]
      exact q _ c p H Hp (by simp [g7])
set_option maxRecDepth 100000 in
set_option maxHeartbeats 4000000 in
theorem back_ok (l : List It) (w : Int) (hf : Fine l w) (v : List Int) (hv : v.length = l.length) (hr : ∀ k, 0 ≤ nth 0 v k ∧ nth 0 v k ≤ 4095) : Gives (callL env 39 [jobV l w, .lst (ints v)] []) fun r => ∃ c, snap .any depth r.2 r.1 = some (.lst (ints c)) := by
  have hl := hf.len
  have hs : small v := fun k => by have := hr k; omega
  apply gives_call
  by_cases hz : v = []
  · subst hz
    simp (disch := omega) [Tryz.f39, jobV, ints_nil]
    exact ⟨[], rfl⟩
  · have h0 : 0 < v.length := List.length_pos_iff.2 hz
    simp (disch := omega) [Tryz.f39, jobV, hz]
    generalize hx : loopL env _ _ _ = L
    apply gives_cut hx
    clear hx
    refine arg_loop v (by omega) _ _ v.length 0 0 _ (by omega) h0 ?_ ?_ ?_ ?_ (fun sl' y h1 h2 h3 => ?_)
    · simp
    · simp
    · simp
    · simp
    · have hy : y < l.length := by omega
      have k1 : getS sl' (.tup []) 1 = .lst (ints v) := h2.get (by simp) (by simp)
      have k2 : getS sl' (.tup []) 2 = .ptr 0 1 0 0 := h2.get (by simp) (by simp)
      have c5 := fun h => c37 l w v y (by omega) hv hy hs h
      have hit := hf.item y hy
      simp only [jobV] at c5
      simp (disch := omega) [k1, k2, h3, c5]
      generalize hx : loopL env _ _ _ = L
      apply gives_cut hx
      clear hx
      refine back_loop l w hf v hv hr _ 32 [(y : Int)] 2 y _ _ (by omega) (by simp; omega) hy ?_ ?_ ?_ ?_ ?_ ?_ ?_ (fun sl2 c' p' H' f1 f2 => ?_)
      · rfl
      · rfl
      · simp [k1]
      · simp [k2]
      · simp [h3]
      · simp
      · simp
      · simp [f2]
        exact ⟨c', snap_rints (d := 10) (by simp) f1 rfl⟩
theorem c39 (l : List It) (w : Int) (hf : Fine l w) (v : List Int) (hv : v.length = l.length) (hr : ∀ k, 0 ≤ nth 0 v k ∧ nth 0 v k ≤ 4095) : ∃ c, ∀ h, callN env (callL env) 39 [jobV l w, .lst (ints v)] h = some (.lst (ints c), h) := by
  obtain ⟨r, hr, c, hv⟩ := gives_iff.1 (back_ok l w hf v hv hr)
  exact ⟨c, fun h => callF rfl (by simp [Abs.freeze, depth, jobV]) (by simp [snap, depth, jobV]) hr hv⟩
/-- r13.Witness of a job that has least codes. -/
theorem rwit_ok (l : List It) (w : Int) (hl : l.length < 2 ^ 62) (h0 : vJob l w = 0) (hs : ∃ v, Sol l w v) : Gives (callL env 17 [jobV l w] []) fun r => ∃ c, snap .any depth r.2 r.1 = some (.tup [.lst (ints c), .int .i64 0]) := by
  apply gives_call
  obtain ⟨p, c, hp⟩ := c16 l w hl
  simp only [jobV] at c
  rcases hp with ⟨h1, rfl⟩ | ⟨h1, v, s, hsv, hr, rfl⟩ | ⟨h1, hn, rfl⟩
  · exact absurd h0 h1
  · obtain ⟨cc, d⟩ := c39 l w (fine_of h0) v hsv.1 hr
    simp only [jobV] at d
    simp (disch := omega) [Tryz.f17, jobV, c, d, planV]
    exact ⟨cc, rfl⟩
  · obtain ⟨v, hv⟩ := hs
    exact absurd hv (hn v)
theorem c17 (l : List It) (w : Int) (hl : l.length < 2 ^ 62) (h0 : vJob l w = 0) (hs : ∃ v, Sol l w v) : ∃ c, ∀ h, callN env (callL env) 17 [jobV l w] h = some (.tup [.lst (ints c), .int .i64 0], h) := by
  obtain ⟨r, hr, c, hv⟩ := gives_iff.1 (rwit_ok l w hl h0 hs)
  exact ⟨c, fun h => callF rfl (by simp [Abs.freeze, depth, jobV]) (by simp [snap, depth, jobV]) hr hv⟩
/-- The error of making a plan. -/
def makeErr (l : List It) (w : Int) (e : Int) : Prop := (vJob l w ≠ 0 ∧ e = vJob l w) ∨ (vJob l w = 0 ∧ (∃ v, Sol l w v) ∧ e = 0) ∨ (vJob l w = 0 ∧ (∀ v, ¬ Sol l w v) ∧ e = 15)
/-- The shape of a proof. -/
def IsPf (a : AV) : Prop := ∃ x va vc k1 k2, SlV va k1 ∧ SlV vc k2 ∧ a = .agg [.int .i64 x, va, vc]
set_option maxRecDepth 100000 in
set_option maxHeartbeats 4000000 in
theorem rmake_ok (l : List It) (w : Int) (hl : l.length < 2 ^ 62) : Gives (callL env 5 [jobV l w] []) fun r => ∃ a e, snap .any depth r.2 r.1 = some (.tup [a, .int .i64 e]) ∧ makeErr l w e ∧ IsPf a := by
  apply gives_call
  obtain ⟨p, c, hp⟩ := c16 l w hl
  simp only [jobV] at c
  rcases hp with ⟨h0, rfl⟩ | ⟨h0, v, s, hs, hr, rfl⟩ | ⟨h0, hn, rfl⟩
  · simp (disch := omega) [Tryz.f5, jobV, c, h0]
    exact ⟨_, _, rfl, .inl ⟨h0, rfl⟩, _, _, _, _, _, .nil, .nil, rfl⟩
  · obtain ⟨cc, d⟩ := c17 l w hl h0 ⟨v, hs⟩
    simp only [jobV] at d
    simp (disch := omega) [Tryz.f5, jobV, c, d, planV]
    exact ⟨_, _, rfl, .inr (.inl ⟨h0, ⟨v, hs⟩, rfl⟩), _, _, _, _, _, .lst _, .lst _, rfl⟩
  · simp (disch := omega) [Tryz.f5, jobV, c]
    exact ⟨_, _, rfl, .inr (.inr ⟨h0, hn, rfl⟩), _, _, _, _, _, .nil, .nil, rfl⟩
theorem c5 (l : List It) (w : Int) (hl : l.length < 2 ^ 62) : ∃ a e, (∀ h, callN env (callL env) 5 [jobV l w] h = some (.tup [a, .int .i64 e], h)) ∧ makeErr l w e ∧ IsPf a := by
  obtain ⟨r, hr, a, e, hv, hR⟩ := gives_iff.1 (rmake_ok l w hl)
  exact ⟨a, e, fun h => callF rfl (by simp [Abs.freeze, depth, jobV]) (by simp [snap, depth, jobV]) hr hv, hR⟩
end Rival
