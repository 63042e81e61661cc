/- TopRival: Sorted. -/
import Derived.Test.YtgdcimpndddepaaGreatRI
/- TopRival: r11.Sorted. -/
open Go Go.Proofs Go.Abs
namespace Rival
theorem trV_cells (L : List Nat) : (trV L).cells = [trV L] := by unfold trV; split <;> rfl
theorem trV_load (L : List Nat) : loadE false 1 (trV L) 0 = some (trV L) := by unfold trV; split <;> rfl
theorem trV_len (L : List Nat) (h : Heap) : lenA h (.slice 3) (trV L) = some (L.length : Int) := by
  unfold trV
  split
  · rename_i e; subst e; rfl
  · simp [lenA]
theorem trV_index (L : List Nat) (h : Heap) (k : Nat) (hk : k < L.length) : indexAddrA env 25 h (trV L) (.int .i64 k) = some (.iptr (.int .i64 (nth 0 L k : Nat)) 0) := by
  have hL : ¬ L = [] := fun e => by rw [e] at hk; simp at hk
  have := index_ints (L.map Int.ofNat) k h (by omega) (by simp; omega)
  rw [show (k : Int).toNat = k from rfl, nth_map] at this
  simp only [trV, hL, if_false]
  exact this
theorem trains_index (TL : List (List Nat)) (h : Heap) (T : Nat) (hT : T < TL.length) : indexAddrA env 33 h (trainsV TL) (.int .i64 T) = some (.iptr (trV (nth [] TL T)) 0) := by
  have hL : ¬ TL = [] := fun e => by rw [e] at hT; simp at hT
  simp only [trainsV, hL, if_false]
  unfold indexAddrA
  have ha : (TL.map trV).all (fun e => e.cells.length == 1) = true := by simp [trV_cells]
  have h1 : (T : Int) < ((TL.map trV).length : Int) := by simp; omega
  simp only [kd, envti, ti33, ti25, Option.map_some, ha, h1, and_self, if_true]
  simp [hT, nth_getD, List.getD_eq_getElem?_getD]
theorem trains_len (TL : List (List Nat)) (h : Heap) : lenA h (.slice 25) (trainsV TL) = some (TL.length : Int) := by
  unfold trainsV
  split
  · rename_i e; subst e; rfl
  · simp [lenA]
/-- The trains of a machine. -/
structure Trains (l : List It) (TL : List (List Nat)) : Prop where
  all : ∀ x, x < l.length → 0 ≤ (nth default l x).t ∧ (nth default l x).t < TL.length
  nodup : ∀ T, T < TL.length → (nth [] TL T).Nodup
  mem : ∀ T, T < TL.length → ∀ x, x ∈ nth [] TL T ↔ x < l.length ∧ (nth default l x).t = T
/-- Do the blocks not fall from a place on? -/
def upF (l : List It) (L : List Nat) : Nat → Nat → Bool
  | 0, _ => true
  | n + 1, k => if 0 < k ∧ (nth default l (nth 0 L k)).b < (nth default l (nth 0 L (k - 1))).b then false else upF l L n (k + 1)
def upT (l : List It) (TL : List (List Nat)) : Nat → Nat → Bool
  | 0, _ => true
  | n + 1, T => upF l (nth [] TL T) (nth [] TL T).length 0 && upT l TL n (T + 1)
/-- Which items were seen. -/
structure Seen (l : List It) (TL : List (List Nat)) (T k : Nat) (S : List Nat) (es : List AV) : Prop where
  nodup : S.Nodup
  mem : ∀ x, x ∈ S ↔ x < l.length ∧ ((nth default l x).t < T ∨ x ∈ (nth [] TL T).take k)
  len : es.length = l.length
  get : ∀ x, x < l.length → es[x]? = some (.bool (decide (x ∈ S)))
theorem ix63 {H : Heap} {b n : Nat} {ro : Bool} {es : List AV} {i : Int} (hb : H[b]? = some (.row ro 1 es)) (hl : es.length = n) (h0 : 0 ≤ i) (h1 : i < n) : indexAddrA env 63 H (.ref b n 0 n) (.int .i64 i) = some (.ptr b n i.toNat 0) := by
  unfold indexAddrA
  simp [hb, hl, h0, h1]
theorem pl10_0 : plainD env (dr Tryz.f10 0) = true := by kernel_rfl
theorem Seen.step {l : List It} {TL : List (List Nat)} {T k : Nat} {S : List Nat} {es : List AV} (h : Seen l TL T k S es) (ht : Trains l TL) (hT : T < TL.length) (hk : k < (nth [] TL T).length) : nth 0 (nth [] TL T) k ∉ S ∧ nth 0 (nth [] TL T) k < l.length ∧ (nth default l (nth 0 (nth [] TL T) k)).t = T ∧ Seen l TL T (k + 1) (S ++ [nth 0 (nth [] TL T) k]) (es.set (nth 0 (nth [] TL T) k) (.bool true)) := by
  have hm := ht.mem T hT
  have hn := ht.nodup T hT
  have hge : nth 0 (nth [] TL T) k = (nth [] TL T)[k] := by rw [nth_getD 0, List.getD_eq_getElem?_getD, List.getElem?_eq_getElem hk]; rfl
  have hx : nth 0 (nth [] TL T) k ∈ nth [] TL T := by rw [hge]; exact List.getElem_mem hk
  obtain ⟨h1, h2⟩ := (hm _).1 hx
  have hnt : nth 0 (nth [] TL T) k ∉ (nth [] TL T).take k := by
    rw [mem_take_nth (by omega)]
    rintro ⟨i, hi, he⟩
    have e1 : nth 0 (nth [] TL T) i = (nth [] TL T)[i] := by rw [nth_getD 0, List.getD_eq_getElem?_getD, List.getElem?_eq_getElem (by omega)]; rfl
    rw [e1, hge] at he
    have := List.pairwise_iff_getElem.1 hn i k (by omega) hk hi
    exact this he
  have hnS : nth 0 (nth [] TL T) k ∉ S := fun hS => by
    rcases ((h.mem _).1 hS).2 with h3 | h3
    · omega
    · exact hnt h3
  have htake : ∀ x, x ∈ (nth [] TL T).take (k + 1) ↔ x ∈ (nth [] TL T).take k ∨ x = nth 0 (nth [] TL T) k := fun x => by
    rw [mem_take_nth (by omega), mem_take_nth (by omega)]
    constructor
    · rintro ⟨i, hi, rfl⟩
      by_cases he : i = k
      · subst he; exact .inr rfl
      · exact .inl ⟨i, by omega, rfl⟩
    · rintro (⟨i, hi, rfl⟩ | rfl)
      · exact ⟨i, by omega, rfl⟩
      · exact ⟨k, by omega, rfl⟩
  generalize nth 0 (nth [] TL T) k = y at *
  refine ⟨hnS, h1, h2, ?_, fun x => ?_, by simp [h.len], fun x hx => ?_⟩
  · rw [List.nodup_append]
    refine ⟨h.nodup, by simp, fun a ha b hb e => ?_⟩
    obtain rfl : b = y := by simpa using hb
    exact hnS (e ▸ ha)
  · rw [List.mem_append, h.mem, htake]
    simp only [List.mem_singleton]
    constructor
    · rintro (⟨g1, g2 | g2⟩ | rfl)
      · exact ⟨g1, .inl g2⟩
      · exact ⟨g1, .inr (.inl g2)⟩
      · exact ⟨h1, .inr (.inr rfl)⟩
    · rintro ⟨g1, g2 | g2 | g2⟩
      · exact .inl ⟨g1, .inl g2⟩
      · exact .inl ⟨g1, .inr g2⟩
      · exact .inr g2
  · rw [List.getElem?_set]
    by_cases hxy : y = x
    · subst hxy
      simp [h.len, hx]
    · rw [if_neg hxy, h.get x hx]
      have : x ≠ y := Ne.symm hxy
      simp [this]
set_option maxRecDepth 100000 in
set_option maxHeartbeats 8000000 in
theorem sorted_inner {l : List It} {w : Int} {TL : List (List Nat)} (ht : Trains l TL) {T : Nat} (hT : T < TL.length) (hTl : TL.length ≤ 1000000) (hLl : (nth [] TL T).length ≤ 96) (Q : Out → Prop) : ∀ (n k : Nat) (S : List Nat) (es : List AV) (sl : List (Nat × AV)), k + n = (nth [] TL T).length → Seen l TL T k S es → S.length ≤ 1000 * T + k →
    getS sl (.tup []) 1 = trainsV TL → getS sl (.tup []) 2 = .ptr 0 1 0 0 → getS sl (.tup []) 7 = .ref 1 l.length 0 l.length → getS sl (.tup []) 8 = .int .i64 S.length → getS sl (.tup []) 9 = .int .i64 T → getS sl (.tup []) 10 = .int .i64 k →
    (∀ sl' S' es', Seen l TL T (nth [] TL T).length S' es' → S'.length ≤ 1000 * T + 96 → upF l (nth [] TL T) n k = true → Keep [1, 2, 7, 9] sl sl' → getS sl' (.tup []) 8 = .int .i64 S'.length → Q (.exit 2 ⟨102, .tup [], sl', []⟩ [.row false 2 [jobV l w], .row false 1 es'])) →
    (∀ sl' es', upF l (nth [] TL T) n k = false → getS sl' (.tup []) 4 = .bool false → getS sl' (.tup []) 5 = .int .i64 0 → Q (.ret ⟨102, .tup [], sl', []⟩ [.row false 2 [jobV l w], .row false 1 es'])) →
    Gives (loopL env (lp Tryz.f10 1) ⟨102, .tup [], sl, []⟩ [.row false 2 [jobV l w], .row false 1 es]) Q := by
  have p := pl10_0
  simp [dr, drs, Tryz.f10] at p
  have ti := fun h => trains_index TL h T hT
  intro n
  induction n with
  | zero =>
    intro k S es sl hi hs hS g1 g2 g7 g8 g9 g10 q1 q2
    obtain rfl : k = (nth [] TL T).length := by omega
    refine gives_loop ?_
    have hd : decide (((nth [] TL T).length : Int) < (nth [] TL T).length) = false := decF (by omega)
    simp (disch := omega) [lp, Tryz.f10, loops, g1, g9, g10, ti, trV_load, trV_len, hd, -lenA]
    exact q1 _ S es hs (by omega) rfl (by repeat (first | exact Keep.refl _ _ | refine Keep.put ?_ (by decide))) (by simp [g8])
  | succ n ih =>
    intro k S es sl hi hs hS g1 g2 g7 g8 g9 g10 q1 q2
    have hk : k < (nth [] TL T).length := by omega
    obtain ⟨s1, s2, s3, s4⟩ := hs.step ht hT hk
    have tk := fun h => trV_index (nth [] TL T) h k hk
    have hlen := hs.len
    have hg := hs.get _ s2
    have e0 : ∀ e1 e2 : Ent, ([e1, e2] : Heap)[1]? = some e2 := fun _ _ => rfl
    have hup : upF l (nth [] TL T) (n + 1) k = if 0 < k ∧ (nth default l (nth 0 (nth [] TL T) k)).b < (nth default l (nth 0 (nth [] TL T) (k - 1))).b then false else upF l (nth [] TL T) n (k + 1) := rfl
    have hprev : 0 < k → nth 0 (nth [] TL T) (k - 1) < l.length ∧ ∀ h, indexAddrA env 25 h (trV (nth [] TL T)) (.int .i64 ((k - 1 : Nat) : Int)) = some (.iptr (.int .i64 (nth 0 (nth [] TL T) (k - 1) : Nat)) 0) := fun h0 => by
      have hk1 : k - 1 < (nth [] TL T).length := by omega
      have hge : nth 0 (nth [] TL T) (k - 1) = (nth [] TL T)[k - 1] := by rw [nth_getD 0, List.getD_eq_getElem?_getD, List.getElem?_eq_getElem hk1]; rfl
      exact ⟨((ht.mem T hT _).1 (by rw [hge]; exact List.getElem_mem hk1)).1, fun h => trV_index (nth [] TL T) h (k - 1) hk1⟩
    have hkT : (k : Int) < (nth [] TL T).length := by omega
    have lenr : ∀ h b g s n, lenA h (.slice 4) (.ref b g s n) = some (n : Int) := fun _ _ _ _ _ => rfl
    have hS1 : (S ++ [nth 0 (nth [] TL T) k]).length = S.length + 1 := by simp
    generalize nth 0 (nth [] TL T) k = y at *
    generalize nth 0 (nth [] TL T) (k - 1) = z at *
    have hy1 : decide ((y : Int) < 0) = false := decF (by omega)
    have hy2 : ¬ l.length ≤ y := by omega
    rw [decide_eq_false s1] at hg
    refine gives_loop ?_
    by_cases h0 : 0 < k
    · obtain ⟨hz, tz⟩ := hprev h0
      have e1 : ((k : Int) - 1) = ((k - 1 : Nat) : Int) := by omega
      by_cases hb : (nth default l y).b < (nth default l z).b
      · rw [if_pos ⟨h0, hb⟩] at hup
        simp (maxSteps := 2000000) (disch := omega) [lp, Tryz.f10, loops, g1, g2, g7, g8, g9, g10, ti, tk, tz, lenr, hk, trV_load, trV_len, hkT, regionD_plain p, hy1, hy2, ix63 (e0 ..) hlen, hlen, hg, index_its, jobV, s3, h0, e1, hb, wrapI, -lenA, -getElem?_pos]
        exact q2 _ es hup (by simp) (by simp)
      · rw [if_neg (fun h => hb h.2)] at hup
        simp (maxSteps := 2000000) (disch := omega) [lp, Tryz.f10, loops, g1, g2, g7, g8, g9, g10, ti, tk, tz, lenr, hk, trV_load, trV_len, hkT, regionD_plain p, hy1, hy2, ix63 (e0 ..) hlen, hlen, hg, index_its, jobV, s3, h0, e1, hb, wrapI, -lenA, -getElem?_pos]
        refine ih (k + 1) (S ++ [y]) _ _ (by omega) s4 (by rw [hS1]; omega) ?_ ?_ ?_ ?_ ?_ ?_ (fun sl' S' es' f1 f2 f3 f4 f5 => q1 sl' S' es' f1 f2 (by rw [hup, f3]) (Keep.trans ?_ f4) f5) (fun sl' es' f1 f2 f3 => q2 sl' es' (by rw [hup, f1]) f2 f3)
        · simp [g1]
        · simp [g2]
        · simp [g7]
        · simp
        · simp [g9]
        · simp
        · repeat (first | exact Keep.refl _ _ | refine Keep.put ?_ (by decide))
    · rw [if_neg (fun h => h0 h.1)] at hup
      obtain rfl : k = 0 := by omega
      have tk0 : ∀ h, indexAddrA env 25 h (trV (nth [] TL T)) (.int .i64 0) = some (.iptr (.int .i64 (y : Int)) 0) := tk
      simp (maxSteps := 2000000) (disch := omega) [lp, Tryz.f10, loops, g1, g2, g7, g8, g9, g10, ti, tk0, lenr, hk, trV_load, trV_len, hkT, regionD_plain p, hy1, hy2, ix63 (e0 ..) hlen, hlen, hg, index_its, jobV, s3, wrapI, -lenA, -getElem?_pos]
      refine ih (0 + 1) (S ++ [y]) _ _ (by omega) s4 (by rw [hS1]; omega) ?_ ?_ ?_ ?_ ?_ ?_ (fun sl' S' es' f1 f2 f3 f4 f5 => q1 sl' S' es' f1 f2 (by rw [hup, f3]) (Keep.trans ?_ f4) f5) (fun sl' es' f1 f2 f3 => q2 sl' es' (by rw [hup, f1]) f2 f3)
      · simp [g1]
      · simp [g2]
      · simp [g7]
      · simp
      · simp [g9]
      · simp
      · repeat (first | exact Keep.refl _ _ | refine Keep.put ?_ (by decide))
set_option maxRecDepth 100000 in
set_option maxHeartbeats 8000000 in
theorem sorted_outer {l : List It} {w : Int} (hl : l.length ≤ 96) {TL : List (List Nat)} (ht : Trains l TL) (hTl : TL.length ≤ 1000000) (Q : Out → Prop) : ∀ (n T : Nat) (S : List Nat) (es : List AV) (sl : List (Nat × AV)), T + n = TL.length → Seen l TL T 0 S es → S.length ≤ 1000 * T →
    getS sl (.tup []) 1 = trainsV TL → getS sl (.tup []) 2 = .ptr 0 1 0 0 → getS sl (.tup []) 7 = .ref 1 l.length 0 l.length → getS sl (.tup []) 8 = .int .i64 S.length → getS sl (.tup []) 9 = .int .i64 T →
    (∀ sl' S' es', Seen l TL TL.length 0 S' es' → upT l TL n T = true → getS sl' (.tup []) 7 = .ref 1 l.length 0 l.length → getS sl' (.tup []) 8 = .int .i64 S'.length → Q (.exit 0 ⟨102, .tup [], sl', []⟩ [.row false 2 [jobV l w], .row false 1 es'])) →
    (∀ sl' es', upT l TL n T = false → getS sl' (.tup []) 4 = .bool false → getS sl' (.tup []) 5 = .int .i64 0 → Q (.ret ⟨102, .tup [], sl', []⟩ [.row false 2 [jobV l w], .row false 1 es'])) →
    Gives (loopL env (lp Tryz.f10 0) ⟨102, .tup [], sl, []⟩ [.row false 2 [jobV l w], .row false 1 es]) Q := by
  intro n
  induction n with
  | zero =>
    intro T S es sl hi hs hS g1 g2 g7 g8 g9 q1 q2
    obtain rfl : T = TL.length := by omega
    refine gives_loop ?_
    have hd : decide ((TL.length : Int) < TL.length) = false := decF (by omega)
    simp (disch := omega) [lp, Tryz.f10, loops, g1, g9, trains_len, hd, -lenA]
    exact q1 _ S es hs rfl (by simp [g7]) (by simp [g8])
  | succ n ih =>
    intro T S es sl hi hs hS g1 g2 g7 g8 g9 q1 q2
    have hT : T < TL.length := by omega
    have hd : decide ((T : Int) < TL.length) = true := decT (by omega)
    have hLl : (nth [] TL T).length ≤ 96 := by
      have := List.Nodup.length_le_of_subset (ht.nodup T hT) (l₂ := List.range l.length) fun x hx => List.mem_range.2 ((ht.mem T hT x).1 hx).1
      simp at this; omega
    have hup : upT l TL (n + 1) T = (upF l (nth [] TL T) (nth [] TL T).length 0 && upT l TL n (T + 1)) := rfl
    refine gives_loop ?_
    simp (disch := omega) [lp, Tryz.f10, loops, g1, g9, trains_len, hT, -lenA]
    generalize hx : loopL env _ _ _ = X
    apply gives_cut hx
    clear hx
    refine sorted_inner ht hT hTl hLl _ (nth [] TL T).length 0 S es _ (by omega) hs (by omega) ?_ ?_ ?_ ?_ ?_ ?_ (fun sl' S' es' f1 f2 f3 f4 f5 => ?_) (fun sl' es' f1 f2 f3 => ?_)
    · simp [g1]
    · simp [g2]
    · simp [g7]
    · simp [g8]
    · simp [g9]
    · simp
    · have k1 : getS sl' (.tup []) 1 = trainsV TL := f4.get (by simp [g1]) (by simp)
      have k2 : getS sl' (.tup []) 2 = .ptr 0 1 0 0 := f4.get (by simp [g2]) (by simp)
      have k7 : getS sl' (.tup []) 7 = .ref 1 l.length 0 l.length := f4.get (by simp [g7]) (by simp)
      have k9 : getS sl' (.tup []) 9 = .int .i64 T := f4.get (by simp [g9]) (by simp)
      have hs' : Seen l TL (T + 1) 0 S' es' := by
        refine ⟨f1.nodup, fun x => ?_, f1.len, f1.get⟩
        rw [f1.mem, List.take_of_length_le (Nat.le_refl _), ht.mem T hT]
        simp
        intro hx
        omega
      rw [hup, f3] at q1 q2
      simp only [Bool.true_and] at q1 q2
      simp (disch := omega) [k9, wrapI]
      refine ih (T + 1) S' es' _ (by omega) hs' (by omega) ?_ ?_ ?_ ?_ ?_ q1 q2
      · simp [k1]
      · simp [k2]
      · simp [k7]
      · simp [f5]
      · simp
    · simp
      exact q2 _ es' (by rw [hup, f1, Bool.false_and]) f2 f3
set_option maxRecDepth 100000 in
set_option maxHeartbeats 8000000 in
theorem sorted_ok {l : List It} {w : Int} (hv : vJob l w = 0) {TL : List (List Nat)} (ht : Trains l TL) (hTl : TL.length ≤ 1000000) : Gives (callL env 10 [jobV l w, trainsV TL] []) fun r => r.1 = .tup [.bool (upT l TL TL.length 0), .int .i64 0] := by
  have hl := vJob_len hv
  apply gives_call
  have c := fun h => c20 l w (by omega) h
  rw [hv] at c
  simp only [jobV] at c
  have hmk : ¬ ((l.length : Int) ≤ 140737488355328 → 140737488355328 < (l.length : Int)) := by omega
  simp (disch := omega) [Tryz.f10, jobV, c, hmk]
  generalize hx : loopL env _ _ _ = X
  apply gives_cut hx
  clear hx
  have h0 : Seen l TL 0 0 [] (List.replicate l.length (.bool false)) := by
    refine ⟨by simp, fun x => ?_, by simp, fun x hx => by simp [hx]⟩
    simp
    intro hx
    have := ht.all x hx
    omega
  refine sorted_outer hl ht hTl _ TL.length 0 [] _ _ (by omega) h0 (by simp) ?_ ?_ ?_ ?_ ?_ (fun sl' S es' f1 f2 f3 f4 => ?_) (fun sl' es' f1 f2 f3 => ?_)
  · simp
  · simp
  · simp
  · simp
  · simp
  · have hS : S.length = l.length := by
      have a : S.length ≤ (List.range l.length).length := List.Nodup.length_le_of_subset f1.nodup fun x hx => List.mem_range.2 ((f1.mem x).1 hx).1
      have b : (List.range l.length).length ≤ S.length := List.Nodup.length_le_of_subset List.nodup_range fun x hx => (f1.mem x).2 ⟨List.mem_range.1 hx, .inl (ht.all x (List.mem_range.1 hx)).2⟩
      simp at a b
      omega
    rw [hS] at f4
    simp [f3, f4, f2]
  · simp [f1, f2, f3]
theorem trains_closed (TL : List (List Nat)) : closed? depth (trainsV TL) = true := by unfold trainsV; split <;> simp [closed?, depth]
theorem c10 {l : List It} {w : Int} (hv : vJob l w = 0) {TL : List (List Nat)} (ht : Trains l TL) (hTl : TL.length ≤ 1000000) (h : Heap) : callN env (callL env) 10 [jobV l w, trainsV TL] h = some (.tup [.bool (upT l TL TL.length 0), .int .i64 0], h) := by
  obtain ⟨r, hr, h1⟩ := gives_iff.1 (sorted_ok hv ht hTl)
  refine callE rfl (by simp [trains_closed, closed_job]) hr (by rw [h1]; rfl) h
end Rival
