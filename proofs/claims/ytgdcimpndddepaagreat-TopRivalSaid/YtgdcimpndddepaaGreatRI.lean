/- TopRival: runs of the machine. -/
import Derived.Test.YtgdcimpndddepaaGreatRH
/- TopRival: rollin's start. -/
open Go Go.Proofs Go.Abs
namespace Rival
theorem pl41_1 : plainD env (dr Tryz.f41 1) = true := by kernel_rfl
def od41 : List DOp := [⟨0, 0, 0⟩, ⟨1, 0, 0⟩, ⟨2, 0, 0⟩, ⟨3, 0, 4⟩, ⟨4, 0, 12⟩, ⟨5, 1, 31⟩, ⟨6, 1, 63⟩, ⟨7, 2, 127⟩]
theorem od41_0 : orderOf (dr Tryz.f41 0) = od41 := by kernel_rfl
theorem ok41_0 : okD (dr Tryz.f41 0) od41 = true := by kernel_rfl
/-- A machine with empty tracks, that has m trains so far. -/
structure Fresh (l : List It) (w : Int) (s : Nat) (ks : List Int) (mp sb tb : Nat) (m : Nat) (tv : AV) (H : Heap) : Prop where
  box : H[mp]? = some (boxE l w s ks sb tv 0 0)
  srow : H[sb]? = some (.row false 1 (List.replicate s .nil))
  trow : (m = 0 ∧ tv = .nil) ∨ (0 < m ∧ tv = .ref tb m 0 m ∧ H[tb]? = some (.row false 1 (List.replicate m .nil)))
  apart : mp ≠ sb ∧ mp ≠ tb ∧ sb ≠ tb ∧ mp < H.length ∧ sb < H.length ∧ tb < H.length
theorem Fresh.mach {l : List It} {w : Int} {s : Nat} {ks : List Int} {mp sb tb m : Nat} {tv : AV} {H : Heap} (h : Fresh l w s ks mp sb tb m tv H) : Mach l w s ks mp sb tb tv m H (tr fun _ => []) (fun _ => 0) 0 0 := by
  refine ⟨h.box, fun h0 => ?_, ⟨_, h.srow, by simp, fun b hb => by simp [hb, trk, tr]⟩, fun h0 => ?_, fun k _ hL => absurd rfl hL, fun k k' _ _ hL => absurd rfl hL, fun k _ hL => absurd rfl hL, h.apart⟩
  · rcases h.trow with ⟨h1, _⟩ | ⟨_, h2, _⟩
    · omega
    · exact h2
  · rcases h.trow with ⟨h1, _⟩ | ⟨_, _, h3⟩
    · omega
    · exact ⟨_, h3, by simp, fun t ht => by simp [ht, trk, tr]⟩
set_option maxRecDepth 100000 in
set_option maxHeartbeats 4000000 in
theorem start_loop1 {l : List It} {w : Int} {s : Nat} {ks : List Int} {mp sb : Nat} (x : It) (hx : 0 ≤ x.t ∧ x.t ≤ 15) (Q : Out → Prop) : ∀ (n m tb p : Nat) (tv : AV) (H : Heap) (sl : List (Nat × AV)), x.t < m + n → m ≤ 16 → Fresh l w s ks mp sb tb m tv H → H[p]? = some (.row false 4 [x.av]) → p ≠ mp → p ≠ sb → (p ≠ tb) →
    getS sl (.tup []) 5 = .ptr mp 1 0 0 → getS sl (.tup []) 7 = .ptr p 1 0 0 →
    (∀ sl' tb' (m' : Nat) tv' H', x.t < m' → m ≤ m' → m' ≤ 16 → Fresh l w s ks mp sb tb' m' tv' H' → (H.length ≤ H'.length ∧ ∀ q, q < H.length → q ≠ mp → q ≠ tb → q ≠ tb' ∧ H'[q]? = H[q]?) → Keep [1, 5, 16, 17, 18] sl sl' → Q (.exit 2 ⟨41, .tup [], sl', []⟩ H')) →
    Gives (loopL env (lp Tryz.f41 1) ⟨41, .tup [], sl, []⟩ H) Q := by
  have pl := pl41_1
  simp [dr, drs, Tryz.f41] at pl
  have hxv : x.av = .agg [.int .i64 x.t, .int .i64 x.b, .int .i64 x.r, .int .i64 x.l] := rfl
  intro n
  induction n with
  | zero =>
    intro m tb p tv H sl hm hm2 h hp hp1 hp2 hp3 g5 g7 q
    have hbox := h.box
    unfold boxE at hbox
    rw [hxv] at hp
    refine gives_loop ?_
    have h1 : decide ((m : Int) ≤ x.t) = false := decF (by omega)
    rcases h.trow with ⟨h2, h3⟩ | ⟨h2, h3, h4⟩
    · subst h2
      subst h3
      omega
    · subst h3
      simp (disch := omega) [lp, Tryz.f41, loops, g5, g7, hbox, hp, regionD_plain pl, h1, -getElem?_pos]
      exact q _ tb m _ H (by omega) (Nat.le_refl _) hm2 h ⟨Nat.le_refl _, fun r _ _ h3 => ⟨h3, rfl⟩⟩ (by repeat (first | exact Keep.refl _ _ | refine Keep.put ?_ (by decide)))
  | succ n ih =>
    intro m tb p tv H sl hm hm2 h hp hp1 hp2 hp3 g5 g7 q
    have hbox := h.box
    unfold boxE at hbox
    have hp' := hp
    rw [hxv] at hp
    obtain ⟨a1, a2, a3, a4, a5, a6⟩ := h.apart
    have hpl := (List.getElem?_eq_some_iff.1 hp).1
    have hbox' : ∀ t, (H ++ t)[mp]? = H[mp]? := fun t => List.getElem?_append_left a4
    rw [hbox] at hbox'
    refine gives_loop ?_
    rcases h.trow with ⟨h2, h3⟩ | ⟨h2, h3, h4⟩
    · subst h2
      subst h3
      simp (disch := omega) [lp, Tryz.f41, loops, g5, g7, hbox, hbox', hp, regionD_plain pl, hx, appendA, -getElem?_pos]
      refine ih 1 (H.length + 1) p _ _ _ (by omega) (by omega) ⟨?_, ?_, .inr ⟨by omega, rfl, ?_⟩, a1, by omega, by omega, by simp; omega, by simp; omega, by simp⟩ ?_ hp1 hp2 (by omega) ?_ ?_ (fun sl' tb' m' tv' H' f1 f2 f3 f4 fk f5 => q sl' tb' m' tv' H' f1 (by omega) f3 f4 ⟨by have := fk.1; simp at this; omega, fun r h1 h2 h3 => ⟨(fk.2 r (by simp; omega) h2 (by omega)).1, (fk.2 r (by simp; omega) h2 (by omega)).2.trans (by rw [List.getElem?_append_left (by simpa using h1), List.getElem?_set_ne (Ne.symm h2)])⟩⟩ (Keep.trans ?_ f5))
      · rw [List.getElem?_append_left (by simpa using a4), List.getElem?_set_self a4]
        rfl
      · rw [List.getElem?_append_left (by simpa using a5), List.getElem?_set_ne a1, h.srow]
      · rw [List.getElem?_append_right (by simp)]
        simp
      · rw [List.getElem?_append_left (by simpa using hpl), List.getElem?_set_ne (Ne.symm hp1), hp']
      · simp [g5]
      · simp [g7]
      · repeat (first | exact Keep.refl _ _ | refine Keep.put ?_ (by decide))
    · subst h3
      by_cases hc : (m : Int) ≤ x.t
      · have hb2 : ∀ e t, (H.set tb e ++ t)[mp]? = H[mp]? := fun e t => by rw [List.getElem?_append_left (by simpa using a4), List.getElem?_set_ne (Ne.symm a2)]
        rw [hbox] at hb2
        have h4' : ∀ t, (H ++ t)[tb]? = H[tb]? := fun t => List.getElem?_append_left a6
        rw [h4] at h4'
        have htk : List.take m (List.replicate m AV.nil) = List.replicate m .nil := List.take_of_length_le (by simp)
        simp (disch := omega) [lp, Tryz.f41, loops, g5, g7, hbox, hbox', hp, regionD_plain pl, hc, app33, h4, h4', hb2, htk, -getElem?_pos]
        rw [List.set_append_left _ _ (by simpa using a4)]
        refine ih (m + 1) tb p _ _ _ (by omega) (by omega) ⟨?_, ?_, .inr ⟨by omega, rfl, ?_⟩, a1, a2, a3, by simp; omega, by simp; omega, by simp; omega⟩ ?_ hp1 hp2 hp3 ?_ ?_ (fun sl' tb' m' tv' H' f1 f2 f3 f4 fk f5 => q sl' tb' m' tv' H' f1 (by omega) f3 f4 ⟨by have := fk.1; simp at this; omega, fun r h1 h2 h3 => ⟨(fk.2 r (by simp; omega) h2 h3).1, (fk.2 r (by simp; omega) h2 h3).2.trans (by rw [List.getElem?_append_left (by simpa using h1), List.getElem?_set_ne (Ne.symm h2), List.getElem?_set_ne (Ne.symm h3)])⟩⟩ (Keep.trans ?_ f5))
        · rw [List.getElem?_append_left (by simpa using a4), List.getElem?_set_self (by simpa using a4)]
          rfl
        · rw [List.getElem?_append_left (by simpa using a5), List.getElem?_set_ne a1, List.getElem?_set_ne (Ne.symm a3), h.srow]
        · rw [List.getElem?_append_left (by simpa using a6), List.getElem?_set_ne a2, List.getElem?_set_self a6, List.replicate_succ']
        · rw [List.getElem?_append_left (by simpa using hpl), List.getElem?_set_ne (Ne.symm hp1), List.getElem?_set_ne (Ne.symm hp3), hp']
        · simp [g5]
        · simp [g7]
        · repeat (first | exact Keep.refl _ _ | refine Keep.put ?_ (by decide))
      · have h1 : decide ((m : Int) ≤ x.t) = false := decF (by omega)
        simp (disch := omega) [lp, Tryz.f41, loops, g5, g7, hbox, hp, regionD_plain pl, h1, -getElem?_pos]
        exact q _ tb m _ H (by omega) (Nat.le_refl _) hm2 h ⟨Nat.le_refl _, fun r _ _ h3 => ⟨h3, rfl⟩⟩ (by repeat (first | exact Keep.refl _ _ | refine Keep.put ?_ (by decide)))
set_option maxRecDepth 100000 in
set_option maxHeartbeats 4000000 in
theorem start_loop0 {l : List It} {w : Int} (hf : Fine l w) {s : Nat} {ks : List Int} {mp sb : Nat} (Q : Out → Prop) : ∀ (n i m tb : Nat) (tv : AV) (H : Heap) (sl : List (Nat × AV)), i + n = l.length → m ≤ 16 → Fresh l w s ks mp sb tb m tv H → (∀ x, x < i → (nth default l x).t < m) → 
    getS sl (.tup []) 5 = .ptr mp 1 0 0 → getS sl (.tup []) 16 = .lst (its l) → getS sl (.tup []) 17 = .int .i64 l.length → getS sl (.tup []) 18 = .int .i64 i →
    (∀ sl' tb' (m' : Nat) tv' H', (∀ x, x < l.length → (nth default l x).t < m') → m' ≤ 16 → Fresh l w s ks mp sb tb' m' tv' H' → (H.length ≤ H'.length ∧ ∀ q, q < H.length → q ≠ mp → q ≠ tb → q ≠ tb' ∧ H'[q]? = H[q]?) → getS sl' (.tup []) 5 = .ptr mp 1 0 0 → Q (.exit 0 ⟨41, .tup [], sl', []⟩ H')) →
    Gives (loopL env (lp Tryz.f41 0) ⟨41, .tup [], sl, []⟩ H) Q := by
  intro n
  induction n with
  | zero =>
    intro i m tb tv H sl hi hm h ht g5 g16 g17 g18 q
    obtain rfl : i = l.length := by omega
    refine gives_loop ?_
    simp (disch := omega) [lp, Tryz.f41, loops, g17, g18, decF]
    exact q _ tb m tv H ht hm h ⟨Nat.le_refl _, fun r _ _ h3 => ⟨h3, rfl⟩⟩ (by simp [g5])
  | succ n ih =>
    intro i m tb tv H sl hi hm h ht g5 g16 g17 g18 q
    have hl := hf.len
    have hit := hf.item i (by omega)
    obtain ⟨a1, a2, a3, a4, a5, a6⟩ := h.apart
    refine gives_loop ?_
    simp (disch := omega) [lp, Tryz.f41, loops, g5, g16, g17, g18, decT, wrapI, index_its]
    generalize hx : loopL env _ _ _ = X
    apply gives_cut hx
    clear hx
    have hF : Fresh l w s ks mp sb tb m tv (H ++ [.row false 4 [(nth default l i).av]]) := by
      refine ⟨by rw [List.getElem?_append_left a4, h.box], by rw [List.getElem?_append_left a5, h.srow], ?_, a1, a2, a3, by simp; omega, by simp; omega, by simp; omega⟩
      rcases h.trow with h1 | ⟨h1, h2, h3⟩
      · exact .inl h1
      · exact .inr ⟨h1, h2, by rw [List.getElem?_append_left a6, h3]⟩
    refine start_loop1 (nth default l i) (by omega) _ 16 m tb H.length tv _ _ (by omega) hm hF (by simp [It.av]) (by omega) (by omega) (by omega) ?_ ?_ (fun sl' tb' m' tv' H' f1 f2 f3 f4 fk f5 => ?_)
    · simp [g5]
    · simp
    · have k5 : getS sl' (.tup []) 5 = .ptr mp 1 0 0 := f5.get (by simp [g5]) (by simp)
      have k16 : getS sl' (.tup []) 16 = .lst (its l) := f5.get (by simp [g16]) (by simp)
      have k17 : getS sl' (.tup []) 17 = .int .i64 l.length := f5.get (by simp [g17]) (by simp)
      have k18 : getS sl' (.tup []) 18 = .int .i64 i := f5.get (by simp [g18]) (by simp)
      simp (disch := omega) [k18, wrapI]
      refine ih (i + 1) m' tb' tv' H' _ (by omega) f3 f4 (fun x hx => ?_) ?_ ?_ ?_ ?_ (fun sl2 tb2 m2 tv2 H2 e1 e2 e3 ek e4 => q sl2 tb2 m2 tv2 H2 e1 e2 e3 ⟨by have h1 := fk.1; have h2 := ek.1; simp at h1; omega, fun r h1 h2 h3 => ?_⟩ e4)
      · by_cases h : x = i
        · subst h; exact f1
        · have := ht x (by omega); omega
      · simp [k5]
      · simp [k16]
      · simp [k17]
      · simp
      · obtain ⟨g1, g2⟩ := fk.2 r (by simp; omega) h2 h3
        have hle := fk.1
        simp at hle
        obtain ⟨g3, g4⟩ := ek.2 r (by omega) h2 g1
        exact ⟨g3, g4.trans (g2.trans (List.getElem?_append_left h1))⟩
set_option maxRecDepth 100000 in
set_option maxHeartbeats 4000000 in
theorem start_ok {l : List It} {w : Int} (hf : Fine l w) {s : Nat} (hs : s ≤ 12) (ks : List Int) (H : Heap) (h0 : 0 < H.length) :
    ∃ H' mp sb tb nt tv, callN env (callL env) 41 [jobV l w, planV s ks] H = some (.ptr mp 1 0 0, H') ∧ Fresh l w s ks mp sb tb nt tv H' ∧ (∀ x, x < l.length → (nth default l x).t < nt) ∧ nt ≤ 16 ∧ (H.length ≤ H'.length ∧ ∀ q, 0 < q → q < H.length → q ≠ mp ∧ q ≠ sb ∧ q ≠ tb ∧ H'[q]? = H[q]?) := by
  have hg : Gives (callL env 41 [jobV l w, planV s ks] H) fun r => ∃ mp sb tb nt tv, r.1 = .ptr mp 1 0 0 ∧ Fresh l w s ks mp sb tb nt tv r.2 ∧ (∀ x, x < l.length → (nth default l x).t < nt) ∧ nt ≤ 16 ∧ (H.length ≤ r.2.length ∧ ∀ q, 0 < q → q < H.length → q ≠ mp ∧ q ≠ sb ∧ q ≠ tb ∧ r.2[q]? = H[q]?) := by
    have o := od41_0
    have k := ok41_0
    simp [dr, drs, Tryz.f41] at o k
    apply gives_call
    have hmk : ¬ ((s : Int) * 24 ≤ 140737488355328 → 140737488355328 < (s : Int)) := by omega
    have hA : H.length + 2 + 1 = H.length + 3 := rfl
    simp (disch := omega) [Tryz.f41, jobV, planV, hmk, regionD_ok o k, od41, runD, clsOf, extP, wantedA, act, gone_none, gone_gone, isGone, pads, opA, hA]
    generalize hx : loopL env _ _ _ = X
    apply gives_cut hx
    clear hx
    refine start_loop0 hf (s := s) (ks := ks) (mp := H.length + 3) (sb := H.length + 2) _ l.length 0 0 0 .nil _ _ (by omega) (by omega) ⟨?_, ?_, .inl ⟨rfl, rfl⟩, by omega, by omega, by omega, by simp, by simp, by simp⟩ (fun x hx => by omega) ?_ ?_ ?_ ?_ (fun sl' tb' m' tv' H' f1 f2 f3 fk f4 => ?_)
    · simp [boxE]
    · simp
    · simp
    · simp
    · simp
    · simp
    · simp [f4]
      refine ⟨_, _, _, ⟨_, f3⟩, f1, f2, by have := fk.1; simp at this; omega, fun r h1 h2 => ?_⟩
      obtain ⟨g1, g2⟩ := fk.2 r (by simp; omega) (by omega) (by omega)
      refine ⟨by omega, by omega, g1, g2.trans (List.getElem?_append_left h2)⟩
  obtain ⟨r, hr, mp, sb, tb, nt, tv, h1, h2, h3, h4, h5⟩ := gives_iff.1 hg
  obtain ⟨v, H'⟩ := r
  obtain rfl : v = .ptr mp 1 0 0 := h1
  exact ⟨H', mp, sb, tb, nt, tv, hr, h2, h3, h4, h5⟩
end Rival

/- TopRival: the machine is a stable sort by the codes' digits. -/
open Go Go.Proofs Go.Abs
namespace Rival
theorem bitOf_iff (c b : Nat) : bitOf c b = true ↔ c / 2 ^ b % 2 = 1 := by
  unfold bitOf
  rw [decide_eq_true_iff, Nat.and_one_is_mod, Nat.shiftRight_eq_div_pow]
theorem destF_some {c : Nat} : ∀ {n b d : Nat}, destF c n b = some d → b ≤ d ∧ d < b + n ∧ bitOf c d = true ∧ ∀ j, b ≤ j → j < d → bitOf c j = false
  | 0, b, d, h => by cases h
  | n + 1, b, d, h => by
    unfold destF at h
    split at h
    · cases h
      exact ⟨Nat.le_refl _, by omega, by assumption, fun j h1 h2 => by omega⟩
    · rename_i hb
      obtain ⟨h1, h2, h3, h4⟩ := destF_some h
      refine ⟨by omega, by omega, h3, fun j g1 g2 => ?_⟩
      by_cases hj : j = b
      · subst hj; simpa using hb
      · exact h4 j (by omega) g2
/-- How a job's codes are. -/
structure Codes (l : List It) (s : Nat) (cs : List Nat) : Prop where
  lt : ∀ x, x < l.length → nth 0 cs x < 2 ^ s
  low : ∀ x, x < l.length → nth 0 cs x % 2 ^ (nth default l x).r.toNat = 2 ^ (nth default l x).r.toNat - 1
  rnd : ∀ x, x < l.length → 0 ≤ (nth default l x).r
  trn : ∀ x, x < l.length → 0 ≤ (nth default l x).t
  mono : ∀ x y, x ≤ y → y < l.length → (nth default l x).r ≤ (nth default l y).r
def ltK (cs : List Nat) (t x y : Nat) : Prop := nth 0 cs x % 2 ^ t < nth 0 cs y % 2 ^ t ∨ nth 0 cs x % 2 ^ t = nth 0 cs y % 2 ^ t ∧ x < y
/-- What lies on the tracks behind a time. -/
structure Sem (l : List It) (s : Nat) (cs : List Nat) (t : Nat) (L : Nat → List Nat) : Prop where
  sorted : ∀ k, (L k).Pairwise (ltK cs t)
  mem : ∀ k x, x ∈ L k ↔ x < l.length ∧ (nth default l x).r ≤ t ∧ dest l s (nth 0 cs x) x t = k
theorem pushAll_eq {l : List It} {s : Nat} {cs : List Nat} {t : Nat} : ∀ (M : List Nat) (L : Nat → List Nat) (k : Nat), pushAll l s cs t M L k = L k ++ M.filter fun x => decide (dest l s (nth 0 cs x) x t = k)
  | [], L, k => by simp [pushAll]
  | x :: M, L, k => by
    rw [pushAll, pushAll_eq M]
    by_cases h : dest l s (nth 0 cs x) x t = k
    · subst h; simp [upN]
    · simp [upN, h, Ne.symm h]
theorem ofRound_mem (l : List It) (t : Nat) : ∀ (n x y : Nat), y ∈ ofRound l t n x ↔ x ≤ y ∧ y < x + n ∧ (nth default l y).r = t
  | 0, x, y => by simp [ofRound]; omega
  | n + 1, x, y => by
    have ih := ofRound_mem l t n (x + 1) y
    simp only [ofRound]
    split
    · rename_i h
      rw [List.mem_cons, ih]
      constructor
      · rintro (rfl | ⟨h1, h2, h3⟩)
        · exact ⟨Nat.le_refl _, by omega, h⟩
        · exact ⟨by omega, by omega, h3⟩
      · rintro ⟨h1, h2, h3⟩
        by_cases e : y = x
        · exact .inl e
        · exact .inr ⟨by omega, by omega, h3⟩
    · rename_i h
      rw [ih]
      constructor
      · rintro ⟨h1, h2, h3⟩
        exact ⟨by omega, by omega, h3⟩
      · rintro ⟨h1, h2, h3⟩
        by_cases e : y = x
        · subst e; exact absurd h3 h
        · exact ⟨by omega, by omega, h3⟩
theorem ofRound_up (l : List It) (t : Nat) : ∀ (n x : Nat), (ofRound l t n x).Pairwise (· < ·)
  | 0, x => by simp [ofRound]
  | n + 1, x => by
    have ih := ofRound_up l t n (x + 1)
    simp only [ofRound]
    split
    · refine List.Pairwise.cons (fun y hy => ?_) ih
      have := (ofRound_mem l t n (x + 1) y).1 hy
      omega
    · exact ih
theorem dest_bit {l : List It} {s c x t : Nat} (ht : t < s) (hb : bitOf c t = true) : dest l s c x t = t := by
  have e : s - t = (s - t - 1) + 1 := by omega
  unfold dest
  rw [e]
  simp [destF, hb]
theorem dest_clear {l : List It} {s c x t : Nat} (ht : t < s) (hb : bitOf c t = false) : dest l s c x t = dest l s c x (t + 1) := by
  have e : s - t = (s - (t + 1)) + 1 := by omega
  unfold dest
  rw [e]
  simp [destF, hb]
theorem dest_ge {l : List It} {s c x t : Nat} (ht : t ≤ s) : t ≤ dest l s c x t := by
  unfold dest
  cases h : destF c (s - t) t with
  | none => simp; omega
  | some d => exact (destF_some h).1
theorem key_clear {c t : Nat} (hb : bitOf c t = false) : c % 2 ^ (t + 1) = c % 2 ^ t := by
  rw [Nat.mod_pow_succ]
  have : ¬ c / 2 ^ t % 2 = 1 := fun h => by rw [(bitOf_iff c t).2 h] at hb; cases hb
  have h2 : c / 2 ^ t % 2 = 0 := by omega
  rw [h2, Nat.mul_zero, Nat.add_zero]
theorem key_set {c t : Nat} (hb : bitOf c t = true) : c % 2 ^ (t + 1) = c % 2 ^ t + 2 ^ t := by
  rw [Nat.mod_pow_succ, (bitOf_iff c t).1 hb, Nat.mul_one]
theorem low_key {c r t : Nat} (h : c % 2 ^ r = 2 ^ r - 1) (ht : t ≤ r) : c % 2 ^ t = 2 ^ t - 1 := by
  have h1 : c % 2 ^ t = (c % 2 ^ r) % 2 ^ t := (Nat.mod_mod_of_dvd c (Nat.pow_dvd_pow 2 ht)).symm
  rw [h1, h]
  obtain ⟨k, rfl⟩ := Nat.exists_eq_add_of_le ht
  have h2 : 0 < 2 ^ t := Nat.pow_pos (by omega)
  have h3 : 0 < 2 ^ k := Nat.pow_pos (by omega)
  have e : 2 ^ (t + k) - 1 = 2 ^ t * (2 ^ k - 1) + (2 ^ t - 1) := by
    rw [Nat.pow_add, Nat.mul_sub, Nat.mul_one]
    have : 2 ^ t * 1 ≤ 2 ^ t * 2 ^ k := Nat.mul_le_mul_left _ h3
    omega
  rw [e, Nat.mul_add_mod, Nat.mod_eq_of_lt (by omega)]
theorem sem_zero {l : List It} {s : Nat} {cs : List Nat} (hc : Codes l s cs) : Sem l s cs 0 (atL l s cs 0 fun _ => []) := by
  have e : ∀ k, atL l s cs 0 (fun _ => []) k = (ofRound l 0 l.length 0).filter fun x => decide (dest l s (nth 0 cs x) x 0 = k) := fun k => by
    simp [atL, pushAll_eq]
  refine ⟨fun k => ?_, fun k x => ?_⟩
  · rw [e]
    refine List.Pairwise.filter _ ((ofRound_up l 0 l.length 0).imp fun {a b} h => ?_)
    right
    simp [Nat.mod_one, h]
  · rw [e, List.mem_filter, ofRound_mem]
    simp only [decide_eq_true_eq]
    constructor
    · rintro ⟨⟨h1, h2, h3⟩, h4⟩
      exact ⟨by omega, by omega, h4⟩
    · rintro ⟨h1, h2, h3⟩
      have := hc.rnd x h1
      exact ⟨⟨by omega, by omega, by omega⟩, h3⟩
theorem sem_succ {l : List It} {s : Nat} {cs : List Nat} (hc : Codes l s cs) {t : Nat} (ht : t + 1 ≤ s) {L : Nat → List Nat} (h : Sem l s cs t L) : Sem l s cs (t + 1) (atL l s cs (t + 1) L) := by
  have e : ∀ k, atL l s cs (t + 1) L k = (upN L t [] k) ++ (L t ++ ofRound l (t + 1) l.length 0).filter fun x => decide (dest l s (nth 0 cs x) x (t + 1) = k) := fun k => by
    simp [atL, pushAll_eq]
  -- items that stay
  have stay : ∀ k x, x ∈ upN L t [] k → x < l.length ∧ (nth default l x).r ≤ t ∧ bitOf (nth 0 cs x) t = false ∧ dest l s (nth 0 cs x) x (t + 1) = k := fun k x hx => by
    simp only [upN] at hx
    split at hx
    · cases hx
    · rename_i hk
      obtain ⟨h1, h2, h3⟩ := (h.mem k x).1 hx
      cases hb : bitOf (nth 0 cs x) t
      · rw [dest_clear (by omega) hb] at h3
        exact ⟨h1, h2, rfl, h3⟩
      · rw [dest_bit (by omega) hb] at h3
        exact absurd h3.symm hk
  have gone : ∀ x, x ∈ L t → x < l.length ∧ (nth default l x).r ≤ t ∧ bitOf (nth 0 cs x) t = true := fun x hx => by
    obtain ⟨h1, h2, h3⟩ := (h.mem t x).1 hx
    refine ⟨h1, h2, ?_⟩
    cases hb : bitOf (nth 0 cs x) t
    · rw [dest_clear (by omega) hb] at h3
      have := dest_ge (l := l) (s := s) (c := nth 0 cs x) (x := x) (t := t + 1) ht
      omega
    · rfl
  have come : ∀ x, x ∈ ofRound l (t + 1) l.length 0 → x < l.length ∧ (nth default l x).r = t + 1 ∧ nth 0 cs x % 2 ^ (t + 1) = 2 ^ (t + 1) - 1 := fun x hx => by
    have := (ofRound_mem l (t + 1) l.length 0 x).1 hx
    have h1 : x < l.length := by omega
    refine ⟨h1, by omega, ?_⟩
    have h2 := hc.low x h1
    exact low_key h2 (by omega)
  have p2 : 0 < 2 ^ t := Nat.pow_pos (by omega)
  have p3 : 2 ^ (t + 1) = 2 ^ t + 2 ^ t := by rw [Nat.pow_succ]; omega
  have kg : ∀ x, x ∈ L t → nth 0 cs x % 2 ^ (t + 1) = nth 0 cs x % 2 ^ t + 2 ^ t := fun x hx => key_set (gone x hx).2.2
  have kb : ∀ c, c % 2 ^ t < 2 ^ t := fun c => Nat.mod_lt _ p2
  refine ⟨fun k => ?_, fun k x => ?_⟩
  · rw [e, List.pairwise_append]
    refine ⟨?_, List.Pairwise.filter _ ?_, fun x hx y hy => ?_⟩
    · have hs : (upN L t [] k).Pairwise (ltK cs t) := by
        simp only [upN]
        split
        · exact .nil
        · exact h.sorted k
      refine List.Pairwise.imp_of_mem ?_ hs
      intro a b ha hb hab
      have h1 := key_clear (stay k a ha).2.2.1
      have h2 := key_clear (stay k b hb).2.2.1
      unfold ltK at hab ⊢
      rw [h1, h2]
      exact hab
    · rw [List.pairwise_append]
      refine ⟨List.Pairwise.imp_of_mem (fun {a b} ha hb hab => ?_) (h.sorted t), List.Pairwise.imp_of_mem (fun {a b} ha hb hab => ?_) (ofRound_up l (t + 1) l.length 0), fun a ha b hb => ?_⟩
      · have h1 := kg a ha
        have h2 := kg b hb
        unfold ltK at hab ⊢
        rw [h1, h2]
        omega
      · right
        exact ⟨by rw [(come a ha).2.2, (come b hb).2.2], hab⟩
      · obtain ⟨g1, g2, g3⟩ := gone a ha
        obtain ⟨c1, c2, c3⟩ := come b hb
        have h1 := kg a ha
        have h2 := kb (nth 0 cs a)
        have hlt : a < b := by
          by_cases hab : a < b
          · exact hab
          · have := hc.mono b a (by omega) g1
            omega
        unfold ltK
        rw [c3]
        omega
    · obtain ⟨s1, s2, s3, s4⟩ := stay k x hx
      have hk := key_clear s3
      have hkb := kb (nth 0 cs x)
      left
      rw [hk]
      rw [List.mem_filter, List.mem_append] at hy
      rcases hy.1 with hy | hy
      · rw [kg y hy]; omega
      · rw [(come y hy).2.2]; omega
  · rw [e, List.mem_append, List.mem_filter, List.mem_append]
    simp only [decide_eq_true_eq]
    constructor
    · rintro (hx | ⟨hx | hx, hd⟩)
      · obtain ⟨s1, s2, s3, s4⟩ := stay k x hx
        exact ⟨s1, by omega, s4⟩
      · obtain ⟨g1, g2, g3⟩ := gone x hx
        exact ⟨g1, by omega, hd⟩
      · obtain ⟨c1, c2, c3⟩ := come x hx
        exact ⟨c1, by omega, hd⟩
    · rintro ⟨h1, h2, h3⟩
      have h0 := hc.rnd x h1
      by_cases hr : (nth default l x).r = ((t + 1 : Nat) : Int)
      · exact .inr ⟨.inr ((ofRound_mem l (t + 1) l.length 0 x).2 ⟨by omega, by omega, hr⟩), h3⟩
      · have hr' : (nth default l x).r ≤ t := by omega
        cases hb : bitOf (nth 0 cs x) t
        · left
          have hge := dest_ge (l := l) (s := s) (c := nth 0 cs x) (x := x) (t := t + 1) ht
          have hk : k ≠ t := by omega
          simp only [upN, hk, if_false]
          exact (h.mem k x).2 ⟨h1, hr', by rw [dest_clear (by omega) hb, h3]⟩
        · exact .inr ⟨.inl ((h.mem t x).2 ⟨h1, hr', dest_bit (by omega) hb⟩), h3⟩
/-- A run of the machine. -/
def runL (l : List It) (s : Nat) (cs : List Nat) : Nat → (Nat → List Nat)
  | 0 => atL l s cs 0 fun _ => []
  | t + 1 => atL l s cs (t + 1) (runL l s cs t)
theorem runL_sem {l : List It} {s : Nat} {cs : List Nat} (hc : Codes l s cs) : ∀ t, t ≤ s → Sem l s cs t (runL l s cs t)
  | 0, _ => sem_zero hc
  | t + 1, h => sem_succ hc h (runL_sem hc t (by omega))
theorem ltK_irrefl (cs : List Nat) (t x : Nat) : ¬ ltK cs t x x := fun h => by unfold ltK at h; omega
theorem Sem.len {l : List It} {s : Nat} {cs : List Nat} {t : Nat} {L : Nat → List Nat} (h : Sem l s cs t L) (k : Nat) : (L k).length ≤ l.length := by
  have hn : (L k).Nodup := (h.sorted k).imp fun {a b} hab (e : a = b) => ltK_irrefl cs t a (by rw [← e] at hab; exact hab)
  have hs : (L k) ⊆ List.range l.length := fun x hx => List.mem_range.2 ((h.mem k x).1 hx).1
  have := List.Nodup.length_le_of_subset hn hs
  simpa using this
/-- The law of the machine: behind the last time, the items of each train lie in the order of their codes. -/
structure Final (l : List It) (cs : List Nat) (T : Nat) (L : List Nat) : Prop where
  sorted : L.Pairwise fun x y => nth 0 cs x < nth 0 cs y ∨ nth 0 cs x = nth 0 cs y ∧ x < y
  mem : ∀ x, x ∈ L ↔ x < l.length ∧ (nth default l x).t = T
theorem runL_final {l : List It} {s : Nat} {cs : List Nat} (hc : Codes l s cs) (T : Nat) : Final l cs T (runL l s cs s (s + T)) := by
  have h := runL_sem hc s (Nat.le_refl _)
  have hd : ∀ x, dest l s (nth 0 cs x) x s = s + (nth default l x).t.toNat := fun x => by simp [dest, destF]
  refine ⟨List.Pairwise.imp_of_mem (fun {a b} ha hb hab => ?_) (h.sorted (s + T)), fun x => ?_⟩
  · have h1 := hc.lt a ((h.mem _ a).1 ha).1
    have h2 := hc.lt b ((h.mem _ b).1 hb).1
    unfold ltK at hab
    rwa [Nat.mod_eq_of_lt h1, Nat.mod_eq_of_lt h2] at hab
  · rw [h.mem, hd]
    constructor
    · rintro ⟨h1, h2, h3⟩
      have := hc.trn x h1
      exact ⟨h1, by omega⟩
    · rintro ⟨h1, h2⟩
      have h3 := hc.rnd x h1
      refine ⟨h1, ?_, by omega⟩
      have h4 := hc.low x h1
      have h5 := hc.lt x h1
      by_cases hr : (nth default l x).r.toNat ≤ s
      · omega
      · exfalso
        have h6 : nth 0 cs x % 2 ^ (nth default l x).r.toNat ≤ nth 0 cs x := Nat.mod_le ..
        have h7 : 2 ^ (s + 1) ≤ 2 ^ (nth default l x).r.toNat := Nat.pow_le_pow_right (by omega) (by omega)
        rw [Nat.pow_succ] at h7
        have h8 : 0 < 2 ^ s := Nat.pow_pos (by omega)
        omega
end Rival

/- TopRival: rollin.Run. -/
open Go Go.Proofs Go.Abs
namespace Rival
def runP (l : List It) (s : Nat) (cs : List Nat) : Nat → (Nat → List Nat)
  | 0 => fun _ => []
  | t + 1 => runL l s cs t
theorem runP_succ (l : List It) (s : Nat) (cs : List Nat) (t : Nat) : atL l s cs t (runP l s cs t) = runP l s cs (t + 1) := by cases t <;> rfl
set_option maxRecDepth 100000 in
set_option maxHeartbeats 4000000 in
theorem run_loop {l : List It} {w : Int} {s : Nat} {cs : List Nat} {mp sb tb nt : Nat} {tv : AV} (hf : Fit l s cs nt) (hc : Codes l s cs) (Q : Out → Prop) : ∀ (n t : Nat) (H : Heap) (pos : Nat → Nat) (mv pu : Int) (sl : List (Nat × AV)), t + n = s + 1 → Mach l w s (cs.map Int.ofNat) mp sb tb tv nt H (tr (runP l s cs t)) pos mv pu → 0 ≤ mv ∧ mv ≤ 192 * t → 0 ≤ pu ∧ pu ≤ t → 
    getS sl (.tup []) 2 = .int .i64 s → getS sl (.tup []) 7 = .ptr mp 1 0 0 → getS sl (.tup []) 8 = .int .i64 t →
    (∀ sl' H' pos' mv' pu', Mach l w s (cs.map Int.ofNat) mp sb tb tv nt H' (tr (runL l s cs s)) pos' mv' pu' → Frees s nt mp sb tb H (tr (runP l s cs t)) pos H' (tr (runL l s cs s)) pos' → getS sl' (.tup []) 7 = .ptr mp 1 0 0 → Q (.exit 0 ⟨21, .tup [], sl', []⟩ H')) →
    Gives (loopL env (lp Tryz.f19 0) ⟨21, .tup [], sl, []⟩ H) Q := by
  intro n
  induction n with
  | zero =>
    intro t H pos mv pu sl hi hm hmv hpu g2 g7 g8 q
    obtain rfl : t = s + 1 := by omega
    have hs := hf.s12
    refine gives_loop ?_
    have h1 : decide ((((s + 1 : Nat) : Int)) ≤ (s : Int)) = false := decF (by omega)
    simp only [Int.natCast_add, Int.cast_ofNat_Int] at h1 g8
    simp (disch := omega) [lp, Tryz.f19, loops, g2, g8, h1]
    exact q _ H pos mv pu hm (Frees.refl _ _ _ _ _ _ _ _) (by simp [g7])
  | succ n ih =>
    intro t H pos mv pu sl hi hm hmv hpu g2 g7 g8 q
    have hs := hf.s12
    have hn := hf.n96
    refine gives_loop ?_
    have hsem : ∀ k, (runP l s cs t k).length ≤ 96 ∧ ∀ x ∈ runP l s cs t k, x < l.length := fun k => by
      cases t with
      | zero => simp [runP]
      | succ t =>
        have h := runL_sem hc t (by omega)
        exact ⟨by have := h.len k; simp only [runP]; omega, fun x hx => ((h.mem k x).1 hx).1⟩
    have hN : atN l t (runP l s cs t) ≤ 192 := by
      unfold atN
      have h1 := ofRound_len l t l.length 0
      have h2 := (hsem (t - 1)).1
      split <;> omega
    obtain ⟨H', pos', pu', c1, c2, ⟨c3, c4⟩, c5⟩ := at_ok hm hf t (by omega) (fun k => (hsem k).1) (fun k => (hsem k).2) (by omega) (by omega)
    rw [runP_succ] at c2 c5
    simp (disch := omega) [lp, Tryz.f19, loops, g2, g7, g8, c1, decT, wrapI]
    refine ih (t + 1) H' pos' _ pu' _ (by omega) c2 (by omega) (by omega) ?_ ?_ ?_ (fun sl' H2 pos2 mv2 pu2 e1 e2 e3 => q sl' H2 pos2 mv2 pu2 e1 (c5.trans e2) e3)
    · simp [g2]
    · simp [g7]
    · simp
set_option maxRecDepth 100000 in
set_option maxHeartbeats 4000000 in
theorem run_ok {l : List It} {w : Int} (hf : Fine l w) {s : Nat} (hs : s ≤ 12) (cs : List Nat) (hl : cs.length = l.length) (hc : Codes l s cs) (H : Heap) :
    ∃ H' mp sb tb nt tv pos mv pu, callN env (callL env) 19 [jobV l w, planV s (cs.map Int.ofNat), .int .i64 s] H = some (.ptr mp 1 0 0, H') ∧ Mach l w s (cs.map Int.ofNat) mp sb tb tv nt H' (tr (runL l s cs s)) pos mv pu ∧ (nt = 0 → tv = .nil) ∧ (∀ x, x < l.length → (nth default l x).t < nt) ∧ nt ≤ 16 ∧ (∀ q, 0 < q → q < H.length → H'[q]? = H[q]?) := by
  have hg : Gives (callL env 19 [jobV l w, planV s (cs.map Int.ofNat), .int .i64 s] H) fun r => ∃ mp sb tb nt tv pos mv pu, r.1 = .ptr mp 1 0 0 ∧ Mach l w s (cs.map Int.ofNat) mp sb tb tv nt r.2 (tr (runL l s cs s)) pos mv pu ∧ (nt = 0 → tv = .nil) ∧ (∀ x, x < l.length → (nth default l x).t < nt) ∧ nt ≤ 16 ∧ (∀ q, 0 < q → q < H.length → r.2[q]? = H[q]?) := by
    apply gives_call
    obtain ⟨H1, mp, sb, tb, nt, tv, c1, c2, c3, c4, c5, c6⟩ := start_ok hf hs (cs.map Int.ofNat) (H ++ [.row false 2 [jobV l w], .row false 2 [planV s (cs.map Int.ofNat)]]) (by simp)
    have hft : Fit l s cs nt := by
      refine ⟨hs, hf.len, hl, fun x hx => ?_, fun x hx => ⟨by have := hf.item x hx; omega, c3 x hx⟩⟩
      have := hc.lt x hx
      have h2 : 2 ^ s ≤ 2 ^ 12 := Nat.pow_le_pow_right (by omega) hs
      omega
    have hm := c2.mach
    simp only [jobV, planV] at c1
    simp (disch := omega) [Tryz.f19, jobV, planV, c1]
    generalize hx : loopL env _ _ _ = X
    apply gives_cut hx
    clear hx
    refine run_loop hft hc _ (s + 1) 0 _ _ 0 0 _ (by omega) hm (by omega) (by omega) ?_ ?_ ?_ (fun sl' H' pos' mv' pu' f1 fr f2 => ?_)
    · simp
    · simp
    · simp
    · simp [f2]
      refine ⟨sb, tb, nt, tv, ⟨_, _, _, f1⟩, fun hz => ?_, c3, c4, fun q h1 h2 => ?_⟩
      rcases c2.trow with ⟨_, h2⟩ | ⟨h2, _⟩
      · exact h2
      · omega
      · simp at c5
        obtain ⟨g1, g2, g3, g4⟩ := c6 q h1 (by simp; omega)
        have := fr q ⟨by omega, g1, g2, g3, fun k _ hL => absurd rfl hL⟩
        rw [this.2, g4, List.getElem?_append_left h2]
  obtain ⟨r, hr, mp, sb, tb, nt, tv, pos, mv, pu, h1, h2⟩ := gives_iff.1 hg
  obtain ⟨v, H'⟩ := r
  obtain rfl : v = .ptr mp 1 0 0 := h1
  exact ⟨H', mp, sb, tb, nt, tv, pos, mv, pu, hr, h2⟩
theorem pl6_0 : plainD env (dr Tryz.f6 0) = true := by kernel_rfl
def trV (L : List Nat) : AV := if L = [] then .nil else .lst (ints (L.map Int.ofNat))
/-- The trains, as a list by value. -/
def trainsV (TL : List (List Nat)) : AV := if TL = [] then .nil else .lst (TL.map trV)
def sortedV (TL : List (List Nat)) (mv : Int) : AV := .agg [trainsV TL, .int .i64 mv]
theorem snap_trk {d : Nat} {h : Heap} {p : Nat} {L : List Nat} (hr : L.map Int.ofNat ≠ [] → h[p]? = some (.row false 1 (ints (L.map Int.ofNat)))) : snap .any (d + 2) h (trk p (L.map Int.ofNat)) = some (trV L) := by
  by_cases hL : L = []
  · subst hL; rfl
  · have h1 : trk p (L.map Int.ofNat) = .ref p (L.map Int.ofNat).length 0 (L.map Int.ofNat).length := by simp [trk, hL]
    rw [h1]
    have := snap_rints (m := .any) (d := d) (by simp) (hr (by simpa using hL)) rfl
    rw [this]
    simp [trV, hL]
theorem mapM_snap {d : Nat} {h : Heap} : ∀ (es : List AV) (TL : List (List Nat)), es.length = TL.length → (∀ t, t < TL.length → ∀ e, es[t]? = some e → snap .any d h e = some (trV (nth [] TL t))) → es.mapM (snap .any d h) = some (TL.map trV)
  | [], [], _, _ => rfl
  | e :: es, L :: TL, hl, hs => by
    have h1 := hs 0 (by simp) e rfl
    have h2 := mapM_snap es TL (by simpa using hl) fun t ht e' he => by
      have := hs (t + 1) (by simpa using ht) e' (by simpa using he)
      simpa using this
    simp only [nth_zero] at h1
    simp only [List.mapM_cons, h1, h2]
    rfl
  | [], _ :: _, hl, _ => by simp at hl
  | _ :: _, [], hl, _ => by simp at hl
/-- What Run hands back for a plan that fits. -/
def runOk (l : List It) (s : Nat) (cs : List Nat) (r : AV) : Prop := ∃ TL mv, r = .tup [sortedV TL mv, .int .i64 0] ∧ (∀ x, x < l.length → (nth default l x).t < TL.length) ∧ TL.length ≤ 16 ∧ ∀ T, T < TL.length → nth [] TL T = runL l s cs s (s + T)
set_option maxRecDepth 100000 in
set_option maxHeartbeats 4000000 in
theorem Run_ok {l : List It} {w : Int} {s : Nat} (cs : List Nat) (hv : vPlan l w s (cs.map Int.ofNat) = 0) (hf : Fine l w) (hs : s ≤ 12) (hl : cs.length = l.length) (hc : Codes l s cs) : Gives (callL env 6 [jobV l w, planV s (cs.map Int.ofNat)] []) fun r => ∃ v, snap .any depth r.2 r.1 = some v ∧ runOk l s cs v := by
  have p := pl6_0
  simp [dr, drs, Tryz.f6] at p
  apply gives_call
  have hn := hf.len
  have c := fun h => c18 l w s (cs.map Int.ofNat) (by omega) h
  rw [hv] at c
  obtain ⟨H', mp, sb, tb, nt, tv, pos, mv, pu, d1, hm, hz, ht, hn16, hk⟩ := run_ok hf hs cs hl hc [.row false 2 [jobV l w], .row false 2 [planV s (cs.map Int.ofNat)], .row false 2 [.agg [.nil, .int .i64 0]]]
  simp only [jobV, planV] at c d1
  have hbox := hm.box
  unfold boxE at hbox
  have h2 := hk 2 (by omega) (by simp)
  simp only [List.getElem?_cons_succ, List.getElem?_cons_zero] at h2
  have hlt := (List.getElem?_eq_some_iff.1 h2).1
  have htv1 : tv.cells = [tv] := by
    by_cases hn0 : nt = 0
    · rw [hz hn0]; rfl
    · rw [hm.tval (by omega)]; rfl
  have htv2 : tv.solid = true := by
    by_cases hn0 : nt = 0
    · rw [hz hn0]; rfl
    · rw [hm.tval (by omega)]; rfl
  have htv3 : tv.one = true := by
    by_cases hn0 : nt = 0
    · rw [hz hn0]; rfl
    · rw [hm.tval (by omega)]; rfl
  have hlde : loadE false 1 tv 0 = some tv := by
    by_cases hn0 : nt = 0
    · rw [hz hn0]; rfl
    · rw [hm.tval (by omega)]; rfl
  simp (disch := omega) [Tryz.f6, jobV, planV, c, d1, regionD_plain p, hbox, htv1, htv2, htv3, hlde, h2, -getElem?_pos]
  generalize hK : H'.set 2 (.row false 2 [.agg [tv, .int .i64 mv]]) = K
  have key : ∀ (r : Nat) (es : List AV), H'[r]? = some (Ent.row false 1 es) → K[r]? = some (Ent.row false 1 es) := fun r es hr => by
    rw [← hK, List.getElem?_set_ne, hr]
    intro e
    subst e
    rw [h2] at hr
    simp at hr
  by_cases hn0 : nt = 0
  · rw [hz hn0]
    refine ⟨_, rfl, [], mv, rfl, fun x hx => ?_, by simp, fun T hT => by simp at hT⟩
    have := ht x hx
    have := hf.item x hx
    omega
  · obtain ⟨te, te1, te2, te3⟩ := hm.trow (by omega)
    have hTL : ((List.range nt).map fun T => runL l s cs s (s + T)).length = nt := by simp
    have hnth : ∀ T, T < nt → nth [] ((List.range nt).map fun T => runL l s cs s (s + T)) T = runL l s cs s (s + T) := fun T hT => by
      simp [nth_getD, List.getD_eq_getElem?_getD, hT]
    refine ⟨.tup [sortedV ((List.range nt).map fun T => runL l s cs s (s + T)) mv, .int .i64 0], ?_, _, mv, rfl, fun x hx => by rw [hTL]; exact ht x hx, by rw [hTL]; exact hn16, fun T hT => hnth T (by rw [hTL] at hT; exact hT)⟩
    rw [hm.tval (by omega)]
    have e : snap .any 10 K (.ref tb nt 0 nt) = some (.lst (((List.range nt).map fun T => runL l s cs s (s + T)).map trV)) := by
      refine snap_rowM (by simp) (key tb te te1) te2 (mapM_snap te _ (by rw [te2, hTL]) fun T hT e he => ?_)
      rw [hTL] at hT
      rw [te3 T hT] at he
      cases he
      rw [hnth T hT]
      exact snap_trk fun hne => key _ _ (hm.rows (s + T) (by omega) hne)
    have hne : ¬ ((List.range nt).map fun T => runL l s cs s (s + T)) = [] := fun h => by
      have := congrArg List.length h
      simp at this
      exact hn0 this
    have e2 : snap .any 11 K (.agg [.ref tb nt 0 nt, .int .i64 mv]) = some (sortedV ((List.range nt).map fun T => runL l s cs s (s + T)) mv) := by
      show (List.mapM (snap .any 10 _) _).map AV.agg = _
      simp only [List.mapM_cons, List.mapM_nil, e, sortedV, trainsV, hne, if_false]
      rfl
    show (List.mapM (snap .any 11 _) _).map AV.tup = _
    simp only [List.mapM_cons, List.mapM_nil, e2]
    rfl
theorem c6 {l : List It} {w : Int} {s : Nat} (cs : List Nat) (hv : vPlan l w s (cs.map Int.ofNat) = 0) (hf : Fine l w) (hs : s ≤ 12) (hl : cs.length = l.length) (hc : Codes l s cs) : ∃ v, (∀ h, callN env (callL env) 6 [jobV l w, planV s (cs.map Int.ofNat)] h = some (v, h)) ∧ runOk l s cs v := by
  obtain ⟨r, hr, v, hv, hR⟩ := gives_iff.1 (Run_ok cs hv hf hs hl hc)
  exact ⟨v, fun h => callF rfl (by simp [Abs.freeze, depth, jobV, planV]) (by simp [snap, depth, jobV, planV]) hr hv, hR⟩
set_option maxRecDepth 100000 in
/-- Run of a plan that does not fit. -/
theorem Run_bad {l : List It} {w s : Int} {ks : List Int} (hl : l.length < 2 ^ 62) (hv : vPlan l w s ks ≠ 0) : Gives (callL env 6 [jobV l w, planV s ks] []) fun r => snap .any depth r.2 r.1 = some (.tup [.agg [.nil, .int .i64 0], .int .i64 (vPlan l w s ks)]) := by
  apply gives_call
  have c := fun h => c18 l w s ks hl h
  simp only [jobV, planV] at c
  simp (disch := omega) [Tryz.f6, jobV, planV, c, hv]
  rfl
theorem c6b {l : List It} {w s : Int} {ks : List Int} (hl : l.length < 2 ^ 62) (hv : vPlan l w s ks ≠ 0) (h : Heap) : callN env (callL env) 6 [jobV l w, planV s ks] h = some (.tup [.agg [.nil, .int .i64 0], .int .i64 (vPlan l w s ks)], h) := by
  obtain ⟨r, hr, hv⟩ := gives_iff.1 (Run_bad hl hv)
  exact callF rfl (by simp [Abs.freeze, depth, jobV, planV]) (by simp [snap, depth, jobV, planV]) hr hv
end Rival
