/- TopRival: the machine. -/
import Derived.Test.YtgdcimpndddepaaGreatRG
/- TopRival: the machine in memory. -/
open Go Go.Proofs Go.Abs
namespace Rival
def boxE (l : List It) (w : Int) (s : Nat) (ks : List Int) (sb : Nat) (tv : AV) (mv pu : Int) : Ent := .row false 8 [.agg [.lst (its l), .int .i64 w, .int .i64 s, .lst (ints ks), .ref sb s 0 s, tv, .int .i64 mv, .int .i64 pu]]
/-- What a track's list is, as a slice. -/
def trk (p : Nat) (L : List Int) : AV := if L = [] then .nil else .ref p L.length 0 L.length
def upL (L : Nat → List Int) (d : Nat) (v : List Int) : Nat → List Int := fun k => if k = d then v else L k
/-- A machine lies in memory: tracks of the steps 0 .., s - 1, then those of the trains s .., s + nt - 1. -/
structure Mach (l : List It) (w : Int) (s : Nat) (ks : List Int) (mp sb tb : Nat) (tv : AV) (nt : Nat) (H : Heap) (L : Nat → List Int) (pos : Nat → Nat) (mv pu : Int) : Prop where
  box : H[mp]? = some (boxE l w s ks sb tv mv pu)
  tval : 0 < nt → tv = .ref tb nt 0 nt
  srow : ∃ se, H[sb]? = some (.row false 1 se) ∧ se.length = s ∧ ∀ b, b < s → se[b]? = some (trk (pos b) (L b))
  trow : 0 < nt → ∃ te, H[tb]? = some (.row false 1 te) ∧ te.length = nt ∧ ∀ t, t < nt → te[t]? = some (trk (pos (s + t)) (L (s + t)))
  rows : ∀ k, k < s + nt → L k ≠ [] → H[pos k]? = some (.row false 1 (ints (L k)))
  inj : ∀ k k', k < s + nt → k' < s + nt → L k ≠ [] → L k' ≠ [] → pos k = pos k' → k = k'
  sep : ∀ k, k < s + nt → L k ≠ [] → pos k ≠ mp ∧ pos k ≠ sb ∧ pos k ≠ tb
  apart : mp ≠ sb ∧ mp ≠ tb ∧ sb ≠ tb ∧ mp < H.length ∧ sb < H.length ∧ tb < H.length
/-- What else lies in memory stays. -/
def Rest (s nt mp sb tb : Nat) (H : Heap) (L : Nat → List Int) (pos : Nat → Nat) (H' : Heap) : Prop := H.length ≤ H'.length ∧ ∀ q, q < H.length → q ≠ mp → q ≠ sb → q ≠ tb → (∀ k, k < s + nt → L k ≠ [] → pos k ≠ q) → H'[q]? = H[q]?
variable {l : List It} {w : Int} {s : Nat} {ks : List Int} {mp sb tb nt : Nat} {tv : AV} {H : Heap} {L : Nat → List Int} {pos : Nat → Nat} {mv pu : Int}
theorem Mach.lt (h : Mach l w s ks mp sb tb tv nt H L pos mv pu) {k : Nat} (hk : k < s + nt) (hL : L k ≠ []) : pos k < H.length := (List.getElem?_eq_some_iff.1 (h.rows k hk hL)).1
/-- The box changes. -/
theorem Mach.setBox (h : Mach l w s ks mp sb tb tv nt H L pos mv pu) (mv' pu' : Int) : Mach l w s ks mp sb tb tv nt (H.set mp (boxE l w s ks sb tv mv' pu')) L pos mv' pu' := by
  obtain ⟨a1, a2, a3, a4, a5, a6⟩ := h.apart
  refine ⟨by rw [List.getElem?_set_self a4], h.tval, ?_, fun h0 => ?_, fun k hk hL => ?_, h.inj, h.sep, by simp [a1, a2, a3, a4, a5, a6]⟩
  · obtain ⟨se, h1, h2⟩ := h.srow
    exact ⟨se, by rw [List.getElem?_set_ne a1, h1], h2⟩
  · obtain ⟨te, h1, h2⟩ := h.trow h0
    exact ⟨te, by rw [List.getElem?_set_ne a2, h1], h2⟩
  · rw [List.getElem?_set_ne (Ne.symm (h.sep k hk hL).1)]
    exact h.rows k hk hL
/-- One track's list changes: rows elsewhere stay, its own is where the new position says. -/
theorem Mach.upd (h : Mach l w s ks mp sb tb tv nt H L pos mv pu) {H' : Heap} {d : Nat} {v : List Int} {p : Nat} (hlen : H.length ≤ H'.length)
    (hb : H'[mp]? = H[mp]?)
    (hs : d < s → ∃ se, H[sb]? = some (.row false 1 se) ∧ H'[sb]? = some (.row false 1 (se.set d (trk p v)))) (hs' : ¬ d < s → H'[sb]? = H[sb]?)
    (ht : ¬ d < s → ∃ te, H[tb]? = some (.row false 1 te) ∧ H'[tb]? = some (.row false 1 (te.set (d - s) (trk p v)))) (ht' : d < s → H'[tb]? = H[tb]?)
    (hp : v ≠ [] → H'[p]? = some (.row false 1 (ints v))) (hp2 : v ≠ [] → p ≠ mp ∧ p ≠ sb ∧ p ≠ tb ∧ (∀ k, k < s + nt → k ≠ d → L k ≠ [] → pos k ≠ p))
    (ho : ∀ k, k < s + nt → k ≠ d → L k ≠ [] → H'[pos k]? = H[pos k]?) :
    Mach l w s ks mp sb tb tv nt H' (upL L d v) (fun k => if k = d then p else pos k) mv pu := by
  obtain ⟨a1, a2, a3, a4, a5, a6⟩ := h.apart
  refine ⟨by rw [hb, h.box], h.tval, ?_, fun h0 => ?_, fun k hk hL => ?_, fun k k' hk hk' hL hL' he => ?_, fun k hk hL => ?_, ⟨a1, a2, a3, by omega, by omega, by omega⟩⟩
  · obtain ⟨se, h1, h2, h3⟩ := h.srow
    by_cases hds : d < s
    · obtain ⟨se', g1, g2⟩ := hs hds
      rw [h1] at g1; cases g1
      refine ⟨_, g2, by simp [h2], fun b hb => ?_⟩
      rw [List.getElem?_set]
      by_cases hbd : d = b
      · subst hbd
        simp [h2, hb, upL]
      · rw [if_neg hbd, h3 b hb]
        simp [upL, Ne.symm hbd]
    · refine ⟨se, by rw [hs' hds, h1], h2, fun b hb => ?_⟩
      have : b ≠ d := by omega
      rw [h3 b hb]
      simp [upL, this]
  · obtain ⟨te, h1, h2, h3⟩ := h.trow h0
    by_cases hds : d < s
    · refine ⟨te, by rw [ht' hds, h1], h2, fun t ht => ?_⟩
      have : s + t ≠ d := by omega
      rw [h3 t ht]
      simp [upL, this]
    · obtain ⟨te', g1, g2⟩ := ht hds
      rw [h1] at g1; cases g1
      refine ⟨_, g2, by simp [h2], fun t ht => ?_⟩
      rw [List.getElem?_set]
      by_cases hbd : d - s = t
      · have : s + t = d := by omega
        subst hbd
        simp [h2, ht, upL, this]
      · have : s + t ≠ d := by omega
        rw [if_neg hbd, h3 t ht]
        simp [upL, this]
  · by_cases hkd : k = d
    · simp only [upL, hkd, if_true] at hL ⊢
      exact hp hL
    · simp only [upL, hkd, if_false] at hL ⊢
      rw [ho k hk hkd hL]
      exact h.rows k hk hL
  · by_cases hkd : k = d <;> by_cases hkd' : k' = d
    · rw [hkd, hkd']
    · simp only [upL, hkd, hkd', if_true, if_false] at hL hL' he
      exact absurd he.symm ((hp2 hL).2.2.2 k' hk' hkd' hL')
    · simp only [upL, hkd, hkd', if_true, if_false] at hL hL' he
      exact absurd he ((hp2 hL').2.2.2 k hk hkd hL)
    · simp only [upL, hkd, hkd', if_false] at hL hL' he
      exact h.inj k k' hk hk' hL hL' he
  · by_cases hkd : k = d
    · simp only [upL, hkd, if_true] at hL ⊢
      exact ⟨(hp2 hL).1, (hp2 hL).2.1, (hp2 hL).2.2.1⟩
    · simp only [upL, hkd, if_false] at hL ⊢
      exact h.sep k hk hL
end Rival

/- TopRival: rollin's push. -/
open Go Go.Proofs Go.Abs
namespace Rival
def od57 : List DOp := [⟨0, 0, 0⟩, ⟨1, 0, 1⟩, ⟨2, 0, 3⟩, ⟨3, 0, 7⟩, ⟨4, 0, 0⟩, ⟨5, 0, 0⟩, ⟨6, 0, 32⟩, ⟨7, 0, 96⟩, ⟨8, 0, 224⟩, ⟨9, 0, 0⟩, ⟨10, 0, 992⟩, ⟨11, 0, 2016⟩, ⟨12, 0, 0⟩, ⟨13, 0, 4096⟩, ⟨14, 1, 16352⟩, ⟨15, 1, 32767⟩, ⟨16, 1, 65535⟩]
theorem od57_0 : orderOf (dr Tryz.f57 0) = od57 := by kernel_rfl
theorem ok57_0 : okD (dr Tryz.f57 0) od57 = true := by kernel_rfl
theorem od57_1 : orderOf (dr Tryz.f57 1) = od57 := by kernel_rfl
theorem ok57_1 : okD (dr Tryz.f57 1) od57 = true := by kernel_rfl
theorem tb_65535_0 : Nat.testBit 65535 0 = true := by decide
theorem tb_65535_1 : Nat.testBit 65535 1 = true := by decide
theorem tb_65535_2 : Nat.testBit 65535 2 = true := by decide
theorem tb_65535_3 : Nat.testBit 65535 3 = true := by decide
theorem tb_65535_4 : Nat.testBit 65535 4 = true := by decide
theorem tb_65535_5 : Nat.testBit 65535 5 = true := by decide
theorem tb_65535_6 : Nat.testBit 65535 6 = true := by decide
theorem tb_65535_7 : Nat.testBit 65535 7 = true := by decide
theorem tb_65535_8 : Nat.testBit 65535 8 = true := by decide
theorem tb_65535_9 : Nat.testBit 65535 9 = true := by decide
theorem tb_65535_10 : Nat.testBit 65535 10 = true := by decide
theorem tb_65535_11 : Nat.testBit 65535 11 = true := by decide
theorem tb_65535_12 : Nat.testBit 65535 12 = true := by decide
theorem tb_65535_13 : Nat.testBit 65535 13 = true := by decide
theorem tb_65535_14 : Nat.testBit 65535 14 = true := by decide
theorem tb_65535_15 : Nat.testBit 65535 15 = true := by decide
theorem tb_16352_0 : Nat.testBit 16352 0 = false := by decide
theorem tb_16352_1 : Nat.testBit 16352 1 = false := by decide
theorem tb_16352_2 : Nat.testBit 16352 2 = false := by decide
theorem tb_16352_3 : Nat.testBit 16352 3 = false := by decide
theorem tb_16352_4 : Nat.testBit 16352 4 = false := by decide
theorem tb_16352_5 : Nat.testBit 16352 5 = true := by decide
theorem tb_16352_6 : Nat.testBit 16352 6 = true := by decide
theorem tb_16352_7 : Nat.testBit 16352 7 = true := by decide
theorem tb_16352_8 : Nat.testBit 16352 8 = true := by decide
theorem tb_16352_9 : Nat.testBit 16352 9 = true := by decide
theorem tb_16352_10 : Nat.testBit 16352 10 = true := by decide
theorem tb_16352_11 : Nat.testBit 16352 11 = true := by decide
theorem tb_16352_12 : Nat.testBit 16352 12 = true := by decide
theorem tb_16352_13 : Nat.testBit 16352 13 = true := by decide
theorem tb_16352_14 : Nat.testBit 16352 14 = false := by decide
theorem tb_16352_15 : Nat.testBit 16352 15 = false := by decide
attribute [simp] tb_65535_0 tb_65535_1 tb_65535_2 tb_65535_3 tb_65535_4 tb_65535_5 tb_65535_6 tb_65535_7 tb_65535_8 tb_65535_9 tb_65535_10 tb_65535_11 tb_65535_12 tb_65535_13 tb_65535_14 tb_65535_15 tb_16352_0 tb_16352_1 tb_16352_2 tb_16352_3 tb_16352_4 tb_16352_5 tb_16352_6 tb_16352_7 tb_16352_8 tb_16352_9 tb_16352_10 tb_16352_11 tb_16352_12 tb_16352_13 tb_16352_14 tb_16352_15
def bitOf (c b : Nat) : Bool := decide (c >>> b &&& 1 = 1)
/-- Where a code's item goes: the first step from b on, of n steps. -/
def destF (c : Nat) : Nat → Nat → Option Nat
  | 0, _ => none
  | n + 1, b => if bitOf c b = true then some b else destF c n (b + 1)
theorem eqv_ref (b g s n : Nat) : eqv depth (.ref b g s n) (.ref b g s n) = true := by simp [depth, eqv]
attribute [simp] eqv_ref
/-- What a push does. -/
def Pushed (l : List It) (w : Int) (s : Nat) (ks : List Int) (mp sb tb : Nat) (tv : AV) (nt : Nat) (H : Heap) (L : Nat → List Int) (pos : Nat → Nat) (mv pu : Int) (d : Nat) (x : Int) (H' : Heap) : Prop :=
  ∃ p, Mach l w s ks mp sb tb tv nt H' (upL L d (L d ++ [x])) (fun k => if k = d then p else pos k) mv pu ∧ Rest s nt mp sb tb H L pos H' ∧ (p = pos d ∧ L d ≠ [] ∨ H.length ≤ p)
section
variable {l : List It} {w : Int} {s : Nat} {ks : List Int} {mp sb tb nt : Nat} {tv : AV} {H : Heap} {L : Nat → List Int} {pos : Nat → Nat} {mv pu : Int}
/-- Which row names the track, and where. -/
def Cont (s nt sb tb d cb i : Nat) : Prop := (d < s ∧ cb = sb ∧ i = d) ∨ (s ≤ d ∧ d < s + nt ∧ cb = tb ∧ i = d - s)
theorem pushed_new (h : Mach l w s ks mp sb tb tv nt H L pos mv pu) {d cb i : Nat} (hc : Cont s nt sb tb d cb i) {es : List AV} (he : H[cb]? = some (.row false 1 es)) (hL : L d = []) (x : Int) :
    Pushed l w s ks mp sb tb tv nt H L pos mv pu d x (H.set cb (.row false 1 (es.set i (.ref (H.length + 1) 1 0 1))) ++ [.row false 1 [.int .i64 x], .row false 1 [.int .i64 x]]) := by
  obtain ⟨a1, a2, a3, a4, a5, a6⟩ := h.apart
  have hv : L d ++ [x] = [x] := by rw [hL]; rfl
  have ht : trk (H.length + 1) [x] = .ref (H.length + 1) 1 0 1 := rfl
  have hcb : cb ≠ mp ∧ (d < s → cb = sb) ∧ (¬ d < s → cb = tb) := by
    rcases hc with ⟨h1, h2, h3⟩ | ⟨h1, h2, h3, h4⟩
    · subst h2; exact ⟨Ne.symm a1, fun _ => rfl, fun h => absurd h1 h⟩
    · subst h3; exact ⟨Ne.symm a2, fun h => by omega, fun _ => rfl⟩
  have hi : (d < s → i = d) ∧ (¬ d < s → i = d - s) := by
    rcases hc with ⟨h1, h2, h3⟩ | ⟨h1, h2, h3, h4⟩
    · exact ⟨fun _ => h3, fun h => absurd h1 h⟩
    · exact ⟨fun h => by omega, fun _ => h4⟩
  have key : ∀ e q, q < H.length → q ≠ cb → (H.set cb e ++ [.row false 1 [.int .i64 x], .row false 1 [.int .i64 x]])[q]? = H[q]? := fun e q hq hn => by
    rw [List.getElem?_append_left (by simpa using hq), List.getElem?_set_ne (Ne.symm hn)]
  have self : ∀ e, cb < H.length → (H.set cb e ++ [.row false 1 [.int .i64 x], .row false 1 [.int .i64 x]])[cb]? = some e := fun e hq => by
    rw [List.getElem?_append_left (by simpa using hq), List.getElem?_set_self hq]
  refine ⟨H.length + 1, ?_, ⟨by simp, fun q hq h1 h2 h3 h4 => key _ q hq fun e => ?_⟩, .inr (by omega)⟩
  · rw [hv]
    refine h.upd (by simp) (key _ mp a4 (Ne.symm hcb.1)) (fun hd => ?_) (fun hd => ?_) (fun hd => ?_) (fun hd => ?_) (fun _ => ?_) (fun _ => ⟨by omega, by omega, by omega, fun k hk hkd hLk e => ?_⟩) (fun k hk hkd hLk => ?_)
    · obtain rfl := hcb.2.1 hd
      obtain rfl := hi.1 hd
      exact ⟨es, he, self _ a5⟩
    · have := hcb.2.2 hd
      subst this
      exact key _ sb a5 a3
    · obtain rfl := hcb.2.2 hd
      obtain rfl := hi.2 hd
      exact ⟨es, he, self _ a6⟩
    · have := hcb.2.1 hd
      subst this
      exact key _ tb a6 (Ne.symm a3)
    · rw [List.getElem?_append_right (by simp)]
      simp [ints]
    · have := h.lt hk hLk
      omega
    · refine key _ _ (h.lt hk hLk) fun e => ?_
      have := h.sep k hk hLk
      by_cases hd : d < s
      · have := hcb.2.1 hd; omega
      · have := hcb.2.2 hd; omega
  · by_cases hd : d < s
    · have := hcb.2.1 hd; omega
    · have := hcb.2.2 hd; omega
theorem pushed_grow (h : Mach l w s ks mp sb tb tv nt H L pos mv pu) {d cb i : Nat} (hc : Cont s nt sb tb d cb i) {es : List AV} (he : H[cb]? = some (.row false 1 es)) (hL : L d ≠ []) (x : Int) :
    Pushed l w s ks mp sb tb tv nt H L pos mv pu d x ((H.set (pos d) (.row false 1 (ints (L d ++ [x])))).set cb (.row false 1 (es.set i (.ref (pos d) ((L d).length + 1) 0 ((L d).length + 1)))) ++ [.row false 1 [.int .i64 x]]) := by
  obtain ⟨a1, a2, a3, a4, a5, a6⟩ := h.apart
  have ht : trk (pos d) (L d ++ [x]) = .ref (pos d) ((L d).length + 1) 0 ((L d).length + 1) := by simp [trk]
  have hdn : d < s + nt := by rcases hc with ⟨h1, h2, h3⟩ | ⟨h1, h2, h3, h4⟩ <;> omega
  have hcb : cb ≠ mp ∧ (d < s → cb = sb) ∧ (¬ d < s → cb = tb) := by
    rcases hc with ⟨h1, h2, h3⟩ | ⟨h1, h2, h3, h4⟩
    · subst h2; exact ⟨Ne.symm a1, fun _ => rfl, fun h => absurd h1 h⟩
    · subst h3; exact ⟨Ne.symm a2, fun h => by omega, fun _ => rfl⟩
  have hi : (d < s → i = d) ∧ (¬ d < s → i = d - s) := by
    rcases hc with ⟨h1, h2, h3⟩ | ⟨h1, h2, h3, h4⟩
    · exact ⟨fun _ => h3, fun h => absurd h1 h⟩
    · exact ⟨fun h => by omega, fun _ => h4⟩
  have hsp := h.sep d hdn hL
  have hpc : pos d ≠ cb := by
    by_cases hd : d < s
    · have := hcb.2.1 hd; omega
    · have := hcb.2.2 hd; omega
  have hpl := h.lt hdn hL
  have key : ∀ e e' q, q < H.length → q ≠ cb → q ≠ pos d → ((H.set (pos d) e').set cb e ++ [.row false 1 [.int .i64 x]])[q]? = H[q]? := fun e e' q hq hn hp => by
    rw [List.getElem?_append_left (by simpa using hq), List.getElem?_set_ne (Ne.symm hn), List.getElem?_set_ne (Ne.symm hp)]
  have self : ∀ e e', cb < H.length → ((H.set (pos d) e').set cb e ++ [.row false 1 [.int .i64 x]])[cb]? = some e := fun e e' hq => by
    rw [List.getElem?_append_left (by simpa using hq), List.getElem?_set_self (by simpa using hq)]
  refine ⟨pos d, ?_, ⟨by simp, fun q hq h1 h2 h3 h4 => key _ _ q hq (fun e => ?_) (fun e => h4 d hdn hL e.symm)⟩, .inl ⟨rfl, hL⟩⟩
  · refine h.upd (by simp) (key _ _ mp a4 (Ne.symm hcb.1) (Ne.symm hsp.1)) (fun hd => ?_) (fun hd => ?_) (fun hd => ?_) (fun hd => ?_) (fun _ => ?_) (fun _ => ⟨hsp.1, hsp.2.1, hsp.2.2, fun k hk hkd hLk e => ?_⟩) (fun k hk hkd hLk => ?_)
    · obtain rfl := hcb.2.1 hd
      obtain rfl := hi.1 hd
      exact ⟨es, he, by rw [ht]; exact self _ _ a5⟩
    · have := hcb.2.2 hd
      subst this
      exact key _ _ sb a5 a3 (Ne.symm hsp.2.1)
    · obtain rfl := hcb.2.2 hd
      obtain rfl := hi.2 hd
      exact ⟨es, he, by rw [ht]; exact self _ _ a6⟩
    · have := hcb.2.1 hd
      subst this
      exact key _ _ tb a6 (Ne.symm a3) (Ne.symm hsp.2.2)
    · rw [List.getElem?_append_left (by simpa using hpl), List.getElem?_set_ne (Ne.symm hpc), List.getElem?_set_self hpl]
    · exact hkd (h.inj k d hk hdn hLk hL e)
    · refine key _ _ _ (h.lt hk hLk) (fun e => ?_) (fun e => hkd (h.inj k d hk hdn hLk hL e))
      have := h.sep k hk hLk
      by_cases hd : d < s
      · have := hcb.2.1 hd; omega
      · have := hcb.2.2 hd; omega
  · by_cases hd : d < s
    · have := hcb.2.1 hd; omega
    · have := hcb.2.2 hd; omega
end
set_option maxRecDepth 100000 in
set_option maxHeartbeats 4000000 in
theorem push_loop {l : List It} {w : Int} {s : Nat} {ks : List Int} {mp sb tb nt : Nat} {tv : AV} {H : Heap} {L : Nat → List Int} {pos : Nat → Nat} {mv pu : Int} (h : Mach l w s ks mp sb tb tv nt H L pos mv pu) (hs : s ≤ 12) (x c : Nat) (hx : x < ks.length) (hc : nth 0 ks x = (c : Int)) (hc2 : c < 4096) (hL : ∀ k, (L k).length ≤ 1000) (Q : Out → Prop) : ∀ (n b : Nat) (sl : List (Nat × AV)), b + n = s →
    getS sl (.tup []) 0 = .ptr mp 1 0 0 → getS sl (.tup []) 1 = .int .i64 x → getS sl (.tup []) 6 = .int .i64 b →
    (∀ sl', destF c n b = none → Keep [0, 1] sl sl' → Q (.exit 0 ⟨78, .tup [], sl', []⟩ H)) →
    (∀ sl' H' d, destF c n b = some d → Pushed l w s ks mp sb tb tv nt H L pos mv pu d x H' → Q (.ret ⟨78, .tup [], sl', []⟩ H')) →
    Gives (loopL env (lp Tryz.f57 0) ⟨78, .tup [], sl, []⟩ H) Q := by
  have o := od57_0
  have k := ok57_0
  simp [dr, drs, Tryz.f57] at o k
  obtain ⟨a1, a2, a3, a4, a5, a6⟩ := h.apart
  have hbox := h.box
  obtain ⟨se, hse, hsl, hsv⟩ := h.srow
  unfold boxE at hbox
  intro n
  induction n with
  | zero =>
    intro b sl hb g0 g1 g6 q1 q2
    refine gives_loop ?_
    simp (disch := omega) [lp, Tryz.f57, loops, g0, g6, hbox, decF, -getElem?_pos]
    exact q1 _ rfl (by repeat (first | exact Keep.refl _ _ | refine Keep.put ?_ (by decide)))
  | succ n ih =>
    intro b sl hb g0 g1 g6 q1 q2
    refine gives_loop ?_
    have e1 := bin_shrN (E := env) 3 c b (by omega)
    have hle : c >>> b ≤ c := Nat.shiftRight_le c b
    have e2 : binA env .and 3 (.int .i64 ((c >>> b : Nat) : Int)) (.int .i64 1) = some (.int .i64 ((c >>> b &&& 1 : Nat) : Int)) := bin_andN (E := env) 3 (c >>> b) 1 (by omega) (by omega)
    by_cases hbit : bitOf c b = true
    · have hd : destF c (n + 1) b = some b := by simp [destF, hbit]
      have hb1 : c >>> b &&& 1 = 1 := of_decide_eq_true hbit
      rw [hb1] at e2
      generalize c >>> b = z at e1 e2
      have hsb : se[b]? = some (trk (pos b) (L b)) := hsv b (by omega)
      have hbox' : ∀ t, (H ++ t)[mp]? = H[mp]? := fun t => List.getElem?_append_left a4
      have hse' : ∀ t, (H ++ t)[sb]? = some (.row false 1 se) := fun t => by rw [List.getElem?_append_left a5, hse]
      rw [hbox] at hbox'
      by_cases hLb : L b = []
      · have ht : trk (pos b) (L b) = .nil := by simp [trk, hLb]
        rw [ht] at hsb
        simp (disch := omega) [lp, Tryz.f57, loops, g0, g1, g6, hbox, hbox', hse, hse', hc, e1, e2, index_ints, decT, regionD_ok o k, od57, runD, clsOf, extP, wantedA, act, gone_none, gone_gone, isGone, pads, held, quiet, Pend.holds, still, opA, ix33 (hse' _) hsl, hsl, hsb, appendA, -bin_shr, -bin_and, -getElem?_pos]
        exact q2 _ _ b hd (pushed_new h (.inl ⟨by omega, rfl, rfl⟩) hse hLb x)
      · have ht : trk (pos b) (L b) = .ref (pos b) (L b).length 0 (L b).length := by simp [trk, hLb]
        rw [ht] at hsb
        have hrow := h.rows b (by omega) hLb
        have hsp := h.sep b (by omega) hLb
        have hpl := h.lt (by omega) hLb
        have hrow' : ∀ t, (H ++ t)[pos b]? = some (.row false 1 (ints (L b))) := fun t => by rw [List.getElem?_append_left hpl, hrow]
        have hb1 : ∀ e t, (H.set (pos b) e ++ t)[mp]? = H[mp]? := fun e t => by rw [List.getElem?_append_left (by simpa using a4), List.getElem?_set_ne hsp.1]
        have hb2 : ∀ e t, (H.set (pos b) e ++ t)[sb]? = some (.row false 1 se) := fun e t => by rw [List.getElem?_append_left (by simpa using a5), List.getElem?_set_ne hsp.2.1, hse]
        rw [hbox] at hb1
        have hll := hL b
        have htk : List.take (L b).length (ints (L b)) = ints (L b) := List.take_of_length_le (by simp)
        simp (disch := omega) [lp, Tryz.f57, loops, g0, g1, g6, hbox, hbox', hse, hse', hrow', hb1, hb2, hc, e1, e2, index_ints, decT, regionD_ok o k, od57, runD, clsOf, extP, wantedA, act, gone_none, gone_gone, isGone, pads, held, quiet, Pend.holds, still, opA, ix33 (hse' _) hsl, ix33 (hb2 _ _) hsl, hsl, hsb, app25, htk, -bin_shr, -bin_and, -getElem?_pos]
        rw [List.set_append_left _ _ (by simpa using a5)]
        exact q2 _ _ b hd (pushed_grow h (.inl ⟨by omega, rfl, rfl⟩) hse hLb x)
    · have hd : destF c (n + 1) b = destF c n (b + 1) := by simp [destF, hbit]
      have hb1 : ¬ c >>> b &&& 1 = 1 := fun e => hbit (decide_eq_true e)
      generalize c >>> b &&& 1 = z at e2 hb1
      generalize c >>> b = y at e1 e2
      have hz : decide ((z : Int) = 1) = false := decF (by omega)
      simp (disch := omega) [lp, Tryz.f57, loops, g0, g1, g6, hbox, hc, e1, e2, hz, index_ints, decT, wrapI, -bin_shr, -bin_and, -getElem?_pos]
      refine ih (b + 1) _ (by omega) ?_ ?_ ?_ (fun sl' h1 h2 => q1 sl' (by rw [hd, h1]) (Keep.trans ?_ h2)) (fun sl' H' d h1 h2 => q2 sl' H' d (by rw [hd, h1]) h2)
      · simp [g0]
      · simp [g1]
      · simp
      · repeat (first | exact Keep.refl _ _ | refine Keep.put ?_ (by decide))
/-- Where an item goes. -/
def dest (l : List It) (s c x t : Nat) : Nat := match destF c (s - t) t with
  | some b => b
  | none => s + (nth default l x).t.toNat
set_option maxRecDepth 100000 in
set_option maxHeartbeats 4000000 in
theorem push_ok {l : List It} {w : Int} {s : Nat} {ks : List Int} {mp sb tb nt : Nat} {tv : AV} {H : Heap} {L : Nat → List Int} {pos : Nat → Nat} {mv pu : Int} (h : Mach l w s ks mp sb tb tv nt H L pos mv pu) (hs : s ≤ 12) (x c t : Nat) (ht : t ≤ s) (hx : x < l.length) (hkl : ks.length = l.length) (hc : nth 0 ks x = (c : Int)) (hc2 : c < 4096) (hxt : 0 ≤ (nth default l x).t ∧ (nth default l x).t < nt) (hL : ∀ k, (L k).length ≤ 1000) (hmv : 0 ≤ mv ∧ mv ≤ 1000000) :
    ∃ H', callN env (callL env) 57 [.ptr mp 1 0 0, .int .i64 x, .int .i64 t] H = some (.tup [], H') ∧ Pushed l w s ks mp sb tb tv nt H L pos (mv + 1) pu (dest l s c x t) x H' := by
  have hg : Gives (callL env 57 [.ptr mp 1 0 0, .int .i64 x, .int .i64 t] H) fun r => r.1 = .tup [] ∧ Pushed l w s ks mp sb tb tv nt H L pos (mv + 1) pu (dest l s c x t) x r.2 := by
    have o := od57_1
    have k := ok57_1
    simp [dr, drs, Tryz.f57] at o k
    apply gives_call
    obtain ⟨a1, a2, a3, a4, a5, a6⟩ := h.apart
    have hbox := h.box
    have hm := h.setBox (mv + 1) pu
    have hbx : boxE l w s ks sb tv (mv + 1) pu = .row false 8 [.agg [.lst (its l), .int .i64 w, .int .i64 s, .lst (ints ks), .ref sb s 0 s, tv, .int .i64 (mv + 1), .int .i64 pu]] := rfl
    rw [hbx] at hm
    have hrest : ∀ (e : Ent) (d : Nat) (H' : Heap), Pushed l w s ks mp sb tb tv nt (H.set mp e) L pos (mv + 1) pu d x H' → Pushed l w s ks mp sb tb tv nt H L pos (mv + 1) pu d x H' := fun e d H' ⟨p, g1, g2, g3⟩ => by
      refine ⟨p, g1, ⟨by simpa using g2.1, fun q h1 h2 h3 h4 h5 => ?_⟩, by simpa using g3⟩
      rw [g2.2 q (by simpa using h1) h2 h3 h4 h5, List.getElem?_set_ne (Ne.symm h2)]
    unfold boxE at hbox
    simp (disch := omega) [Tryz.f57, hbox, wrapI, -getElem?_pos]
    generalize hx : loopL env _ _ _ = X
    apply gives_cut hx
    clear hx
    refine push_loop hm hs x c (by omega) hc hc2 hL _ (s - t) t _ (by omega) ?_ ?_ ?_ (fun sl' hd hk => ?_) (fun sl' H' d hd hP => ?_)
    · simp
    · simp
    · simp
    · have hdest : dest l s c x t = s + (nth default l x).t.toNat := by simp [dest, hd]
      rw [hdest]
      replace hrest := hrest (.row false 8 [.agg [.lst (its l), .int .i64 w, .int .i64 s, .lst (ints ks), .ref sb s 0 s, tv, .int .i64 (mv + 1), .int .i64 pu]]) (s + (nth default l x).t.toNat)
      obtain ⟨T, hT⟩ := Int.eq_ofNat_of_zero_le hxt.1
      rw [hT] at hrest hxt ⊢
      simp only [Int.toNat_natCast] at hrest ⊢
      generalize H.set mp (.row false 8 [.agg [.lst (its l), .int .i64 w, .int .i64 s, .lst (ints ks), .ref sb s 0 s, tv, .int .i64 (mv + 1), .int .i64 pu]]) = G at hm hrest ⊢
      clear h a4 a5 a6 hbox hbx
      obtain ⟨a1, a2, a3, a4, a5, a6⟩ := hm.apart
      have htv := hm.tval (by omega)
      subst htv
      obtain ⟨te, hte, htl, htv⟩ := hm.trow (by omega)
      have hbox := hm.box
      unfold boxE at hbox
      have k0 : getS sl' (.tup []) 0 = .ptr mp 1 0 0 := hk.get (by simp) (by simp)
      have k1 : getS sl' (.tup []) 1 = .int .i64 x := hk.get (by simp) (by simp)
      have hsb : te[T]? = some (trk (pos (s + T)) (L (s + T))) := htv T (by omega)
      have hbox' : ∀ t, (G ++ t)[mp]? = G[mp]? := fun t => List.getElem?_append_left a4
      have hte' : ∀ t, (G ++ t)[tb]? = some (.row false 1 te) := fun t => by rw [List.getElem?_append_left a6, hte]
      rw [hbox] at hbox'
      by_cases hLb : L (s + T) = []
      · have ht : trk (pos (s + T)) (L (s + T)) = .nil := by simp [trk, hLb]
        rw [ht] at hsb
        simp (disch := omega) [k0, k1, hbox, hbox', hte, hte', index_its, hT, decT, regionD_ok o k, od57, runD, clsOf, extP, wantedA, act, gone_none, gone_gone, isGone, pads, held, quiet, Pend.holds, still, opA, ix33 (hte' _) htl, htl, hsb, appendA, -getElem?_pos]
        exact hrest _ (pushed_new hm (.inr ⟨by omega, by omega, rfl, by omega⟩) hte hLb x)
      · have ht : trk (pos (s + T)) (L (s + T)) = .ref (pos (s + T)) (L (s + T)).length 0 (L (s + T)).length := by simp [trk, hLb]
        rw [ht] at hsb
        have hrow := hm.rows (s + T) (by omega) hLb
        have hsp := hm.sep (s + T) (by omega) hLb
        have hpl := hm.lt (by omega) hLb
        have hrow' : ∀ t, (G ++ t)[pos (s + T)]? = some (.row false 1 (ints (L (s + T)))) := fun t => by rw [List.getElem?_append_left hpl, hrow]
        have hb1 : ∀ e t, (G.set (pos (s + T)) e ++ t)[mp]? = G[mp]? := fun e t => by rw [List.getElem?_append_left (by simpa using a4), List.getElem?_set_ne hsp.1]
        have hb2 : ∀ e t, (G.set (pos (s + T)) e ++ t)[tb]? = some (.row false 1 te) := fun e t => by rw [List.getElem?_append_left (by simpa using a6), List.getElem?_set_ne hsp.2.2, hte]
        rw [hbox] at hb1
        have hll := hL (s + T)
        have htk : List.take (L (s + T)).length (ints (L (s + T))) = ints (L (s + T)) := List.take_of_length_le (by simp)
        simp (disch := omega) [k0, k1, hbox, hbox', hte, hte', hrow', hb1, hb2, index_its, hT, decT, regionD_ok o k, od57, runD, clsOf, extP, wantedA, act, gone_none, gone_gone, isGone, pads, held, quiet, Pend.holds, still, opA, ix33 (hte' _) htl, ix33 (hb2 _ _) htl, htl, hsb, app25, htk, -getElem?_pos]
        rw [List.set_append_left _ _ (by simpa using a6)]
        exact hrest _ (pushed_grow hm (.inr ⟨by omega, by omega, rfl, by omega⟩) hte hLb x)
    · have hdest : dest l s c x t = d := by simp [dest, hd]
      rw [hdest]
      simp
      exact hrest _ _ _ hP
  obtain ⟨r, hr, h1, h2⟩ := gives_iff.1 hg
  obtain ⟨v, H'⟩ := r
  obtain rfl : v = .tup [] := h1
  exact ⟨H', hr, h2⟩
end Rival

/- TopRival: rollin's at. -/
open Go Go.Proofs Go.Abs
namespace Rival
def upN (L : Nat → List Nat) (d : Nat) (v : List Nat) : Nat → List Nat := fun k => if k = d then v else L k
/-- Tracks as the code has them. -/
def tr (L : Nat → List Nat) : Nat → List Int := fun k => (L k).map Int.ofNat
theorem tr_up (L : Nat → List Nat) (d : Nat) (v : List Nat) : tr (upN L d v) = upL (tr L) d (v.map Int.ofNat) := by
  funext k
  simp only [tr, upN, upL]
  split <;> rfl
/-- Items are pushed at a time, one behind the other. -/
def pushAll (l : List It) (s : Nat) (cs : List Nat) (t : Nat) : List Nat → (Nat → List Nat) → (Nat → List Nat)
  | [], L => L
  | x :: xs, L => pushAll l s cs t xs (upN L (dest l s (nth 0 cs x) x t) (L (dest l s (nth 0 cs x) x t) ++ [x]))
/-- What a machine needs of its job and plan. -/
structure Fit (l : List It) (s : Nat) (cs : List Nat) (nt : Nat) : Prop where
  s12 : s ≤ 12
  n96 : l.length ≤ 96
  len : cs.length = l.length
  code : ∀ x, x < l.length → nth 0 cs x < 4096
  train : ∀ x, x < l.length → 0 ≤ (nth default l x).t ∧ (nth default l x).t < nt
theorem pushAll_len {l : List It} {s : Nat} {cs : List Nat} {t : Nat} : ∀ (xs : List Nat) (L : Nat → List Nat) (k : Nat), (pushAll l s cs t xs L k).length ≤ (L k).length + xs.length
  | [], L, k => by simp [pushAll]
  | x :: xs, L, k => by
    have := pushAll_len (l := l) (s := s) (cs := cs) (t := t) xs (upN L (dest l s (nth 0 cs x) x t) (L (dest l s (nth 0 cs x) x t) ++ [x])) k
    simp only [pushAll, List.length_cons]
    by_cases h : k = dest l s (nth 0 cs x) x t
    · subst h; simp [upN] at this ⊢; omega
    · simp [upN, h] at this ⊢; omega
/-- Nothing of the machine lies in row q. -/
def Free (s nt mp sb tb : Nat) (H : Heap) (L : Nat → List Int) (pos : Nat → Nat) (q : Nat) : Prop := q < H.length ∧ q ≠ mp ∧ q ≠ sb ∧ q ≠ tb ∧ ∀ k, k < s + nt → L k ≠ [] → pos k ≠ q
section
variable {l : List It} {w : Int} {s : Nat} {ks : List Int} {mp sb tb nt : Nat} {tv : AV} {H : Heap} {L : Nat → List Int} {pos : Nat → Nat} {mv pu : Int}
theorem Pushed.free {p d : Nat} {x : Int} {H' : Heap} (h : Mach l w s ks mp sb tb tv nt H' (upL L d (L d ++ [x])) (fun k => if k = d then p else pos k) mv pu) (hr : Rest s nt mp sb tb H L pos H') (hp : p = pos d ∧ L d ≠ [] ∨ H.length ≤ p) {q : Nat} (hf : Free s nt mp sb tb H L pos q) :
    Free s nt mp sb tb H' (upL L d (L d ++ [x])) (fun k => if k = d then p else pos k) q ∧ H'[q]? = H[q]? := by
  obtain ⟨f1, f2, f3, f4, f5⟩ := hf
  refine ⟨⟨by have := hr.1; omega, f2, f3, f4, fun k hk hL => ?_⟩, hr.2 q f1 f2 f3 f4 f5⟩
  by_cases hkd : k = d
  · subst hkd
    show (if k = k then p else pos k) ≠ q
    rw [if_pos rfl]
    rcases hp with ⟨h1, h2⟩ | h1
    · rw [h1]; exact f5 k hk h2
    · omega
  · show (if k = d then p else pos k) ≠ q
    rw [if_neg hkd]
    simp only [upL, hkd, if_false] at hL
    exact f5 k hk hL
theorem Mach.app (h : Mach l w s ks mp sb tb tv nt H L pos mv pu) (t : Heap) : Mach l w s ks mp sb tb tv nt (H ++ t) L pos mv pu := by
  obtain ⟨a1, a2, a3, a4, a5, a6⟩ := h.apart
  refine ⟨by rw [List.getElem?_append_left a4, h.box], h.tval, ?_, fun h0 => ?_, fun k hk hL => ?_, h.inj, h.sep, ⟨a1, a2, a3, by simp; omega, by simp; omega, by simp; omega⟩⟩
  · obtain ⟨se, h1, h2⟩ := h.srow
    exact ⟨se, by rw [List.getElem?_append_left a5, h1], h2⟩
  · obtain ⟨te, h1, h2⟩ := h.trow h0
    exact ⟨te, by rw [List.getElem?_append_left a6, h1], h2⟩
  · rw [List.getElem?_append_left (h.lt hk hL)]
    exact h.rows k hk hL
end
/-- What is free stays free and as it was. -/
def Frees (s nt mp sb tb : Nat) (H : Heap) (L : Nat → List Int) (pos : Nat → Nat) (H' : Heap) (L' : Nat → List Int) (pos' : Nat → Nat) : Prop := ∀ q, Free s nt mp sb tb H L pos q → Free s nt mp sb tb H' L' pos' q ∧ H'[q]? = H[q]?
theorem Frees.refl (s nt mp sb tb : Nat) (H : Heap) (L : Nat → List Int) (pos : Nat → Nat) : Frees s nt mp sb tb H L pos H L pos := fun _ h => ⟨h, rfl⟩
theorem Frees.trans {s nt mp sb tb : Nat} {H H' H'' : Heap} {L L' L'' : Nat → List Int} {pos pos' pos'' : Nat → Nat} (h : Frees s nt mp sb tb H L pos H' L' pos') (k : Frees s nt mp sb tb H' L' pos' H'' L'' pos'') : Frees s nt mp sb tb H L pos H'' L'' pos'' := fun q hq => by
  obtain ⟨h1, h2⟩ := h q hq
  obtain ⟨h3, h4⟩ := k q h1
  exact ⟨h3, h4.trans h2⟩
theorem Frees.app (s nt mp sb tb : Nat) (H : Heap) (L : Nat → List Int) (pos : Nat → Nat) (t : Heap) : Frees s nt mp sb tb H L pos (H ++ t) L pos := fun q ⟨h1, h2⟩ => ⟨⟨by simp; omega, h2⟩, List.getElem?_append_left h1⟩
/-- A push, with what it leaves. -/
theorem push_call {l : List It} {w : Int} {s : Nat} {cs : List Nat} {mp sb tb nt : Nat} {tv : AV} {H : Heap} {L : Nat → List Nat} {pos : Nat → Nat} {mv pu : Int} (h : Mach l w s (cs.map Int.ofNat) mp sb tb tv nt H (tr L) pos mv pu) (hf : Fit l s cs nt) (x t : Nat) (ht : t ≤ s) (hx : x < l.length) (hL : ∀ k, (L k).length ≤ 1000) (hmv : 0 ≤ mv ∧ mv ≤ 1000000) :
    ∃ H' pos', callN env (callL env) 57 [.ptr mp 1 0 0, .int .i64 x, .int .i64 t] H = some (.tup [], H') ∧ Mach l w s (cs.map Int.ofNat) mp sb tb tv nt H' (tr (upN L (dest l s (nth 0 cs x) x t) (L (dest l s (nth 0 cs x) x t) ++ [x]))) pos' (mv + 1) pu ∧
      H.length ≤ H'.length ∧ ∀ q, Free s nt mp sb tb H (tr L) pos q → Free s nt mp sb tb H' (tr (upN L (dest l s (nth 0 cs x) x t) (L (dest l s (nth 0 cs x) x t) ++ [x]))) pos' q ∧ H'[q]? = H[q]? := by
  obtain ⟨H', h1, p, h2, h3, h4⟩ := push_ok h hf.s12 x (nth 0 cs x) t ht hx (by simp [hf.len]) (nth_map cs x) (hf.code x hx) (hf.train x hx) (fun k => by simp [tr, hL k]) hmv
  have e : tr (upN L (dest l s (nth 0 cs x) x t) (L (dest l s (nth 0 cs x) x t) ++ [x])) = upL (tr L) (dest l s (nth 0 cs x) x t) (tr L (dest l s (nth 0 cs x) x t) ++ [(x : Int)]) := by
    rw [tr_up]; simp [tr]
  rw [e]
  exact ⟨H', _, h1, h2, h3.1, fun q hq => Pushed.free h2 h3 h4 hq⟩
set_option maxRecDepth 100000 in
set_option maxHeartbeats 4000000 in
theorem at_loop0 {l : List It} {w : Int} {s : Nat} {cs : List Nat} {mp sb tb nt : Nat} {tv : AV} {pu : Int} (hf : Fit l s cs nt) (t : Nat) (ht : t ≤ s) (q : Nat) (xs : List Nat) (hxl : xs.length ≤ 1000) (hxs : ∀ x ∈ xs, x < l.length) (Q : Out → Prop) : ∀ (n i : Nat) (H : Heap) (L : Nat → List Nat) (pos : Nat → Nat) (mv : Int) (sl : List (Nat × AV)), i + n = xs.length → Mach l w s (cs.map Int.ofNat) mp sb tb tv nt H (tr L) pos mv pu → (∀ k, (L k).length + n ≤ 1000) → 0 ≤ mv → mv + n ≤ 1000000 →
    (xs ≠ [] → H[q]? = some (.row false 1 (ints (xs.map Int.ofNat))) ∧ Free s nt mp sb tb H (tr L) pos q) →
    getS sl (.tup []) 0 = .ptr mp 1 0 0 → getS sl (.tup []) 1 = .int .i64 t → getS sl (.tup []) 31 = trk q (xs.map Int.ofNat) → getS sl (.tup []) 32 = .int .i64 xs.length → getS sl (.tup []) 33 = .int .i64 i →
    (∀ sl' H' pos', Mach l w s (cs.map Int.ofNat) mp sb tb tv nt H' (tr (pushAll l s cs t (xs.drop i) L)) pos' (mv + n) pu → Frees s nt mp sb tb H (tr L) pos H' (tr (pushAll l s cs t (xs.drop i) L)) pos' → Keep [0, 1, 4] sl sl' → Q (.exit 0 ⟨75, .tup [], sl', []⟩ H')) →
    Gives (loopL env (lp Tryz.f42 0) ⟨75, .tup [], sl, []⟩ H) Q := by
  intro n
  induction n with
  | zero =>
    intro i H L pos mv sl hi hm hL h0 hmv hq g0 g1 g31 g32 g33 q1
    refine gives_loop ?_
    have hd : xs.drop i = [] := List.drop_of_length_le (by omega)
    rw [hd] at q1
    simp (disch := omega) [lp, Tryz.f42, loops, g32, g33, decF]
    exact q1 _ H pos (by simpa [pushAll] using hm) (by simpa [pushAll] using Frees.refl s nt mp sb tb H (tr L) pos) (by repeat (first | exact Keep.refl _ _ | refine Keep.put ?_ (by decide)))
  | succ n ih =>
    intro i H L pos mv sl hi hm hL h0 hmv hq g0 g1 g31 g32 g33 q1
    have hne : xs ≠ [] := fun h => by rw [h] at hi; simp at hi
    obtain ⟨hrow, hfree⟩ := hq hne
    have hlt : i < xs.length := by omega
    have hd : xs.drop i = nth 0 xs i :: xs.drop (i + 1) := by
      rw [List.drop_eq_getElem_cons hlt]
      congr 1
      rw [nth_getD, List.getD_eq_getElem?_getD, List.getElem?_eq_getElem hlt]
      rfl
    have hxm : nth 0 xs i ∈ xs := by
      rw [nth_getD, List.getD_eq_getElem?_getD, List.getElem?_eq_getElem hlt]
      exact List.getElem_mem hlt
    have ht31 : trk q (xs.map Int.ofNat) = .ref q xs.length 0 xs.length := by simp [trk, hne]
    rw [ht31] at g31
    obtain ⟨H', pos', c1, c2, c3, c4⟩ := push_call hm hf (nth 0 xs i) t ht (hxs _ hxm) (fun k => by have := hL k; omega) (by omega)
    obtain ⟨c5, c6⟩ := c4 q hfree
    have l1 : (ints (xs.map Int.ofNat)).length = xs.length := by simp
    have en := nthIs (v := xs.map Int.ofNat) (i := i) (by simpa using hlt)
    rw [nth_map] at en
    rw [hd] at q1
    refine gives_loop ?_
    simp (disch := omega) [lp, Tryz.f42, loops, g0, g1, g31, g32, g33, decT, wrapI, ix25 hrow l1, hrow, l1, en, c1, -getElem?_pos]
    refine ih (i + 1) H' _ pos' (mv + 1) _ (by omega) c2 (fun k => ?_) (by omega) (by omega) (fun _ => ⟨c6.trans hrow, c5⟩) ?_ ?_ ?_ ?_ ?_ (fun sl' H2 pos2 f1 fr f2 => q1 sl' H2 pos2 (by rw [show mv + ((n + 1 : Nat) : Int) = mv + 1 + n by omega]; exact f1) (Frees.trans c4 fr) (Keep.trans ?_ f2))
    · have := hL k
      simp only [upN]
      split
      · rename_i e; subst e; simp; omega
      · omega
    · simp [g0]
    · simp [g1]
    · simp [g31, ht31]
    · simp [g32]
    · simp
    · repeat (first | exact Keep.refl _ _ | refine Keep.put ?_ (by decide))
/-- The items of a round, from one on. -/
def ofRound (l : List It) (t : Nat) : Nat → Nat → List Nat
  | 0, _ => []
  | n + 1, x => if (nth default l x).r = t then x :: ofRound l t n (x + 1) else ofRound l t n (x + 1)
theorem ofRound_len (l : List It) (t : Nat) : ∀ n x, (ofRound l t n x).length ≤ n
  | 0, _ => Nat.le_refl _
  | n + 1, x => by
    have := ofRound_len l t n (x + 1)
    simp only [ofRound]
    split <;> simp <;> omega
set_option maxRecDepth 100000 in
set_option maxHeartbeats 4000000 in
theorem at_loop1 {l : List It} {w : Int} {s : Nat} {cs : List Nat} {mp sb tb nt : Nat} {tv : AV} {pu : Int} (hf : Fit l s cs nt) (t : Nat) (ht : t ≤ s) (Q : Out → Prop) : ∀ (n x : Nat) (H : Heap) (L : Nat → List Nat) (pos : Nat → Nat) (mv : Int) (sl : List (Nat × AV)), x + n = l.length → Mach l w s (cs.map Int.ofNat) mp sb tb tv nt H (tr L) pos mv pu → (∀ k, (L k).length + n ≤ 1000) → 0 ≤ mv → mv + n ≤ 1000000 →
    getS sl (.tup []) 0 = .ptr mp 1 0 0 → getS sl (.tup []) 1 = .int .i64 t → getS sl (.tup []) 46 = .lst (its l) → getS sl (.tup []) 47 = .int .i64 l.length → getS sl (.tup []) 48 = .int .i64 x →
    (∀ sl' H' pos', Mach l w s (cs.map Int.ofNat) mp sb tb tv nt H' (tr (pushAll l s cs t (ofRound l t n x) L)) pos' (mv + (ofRound l t n x).length) pu → Frees s nt mp sb tb H (tr L) pos H' (tr (pushAll l s cs t (ofRound l t n x) L)) pos' → Keep [0, 1, 4] sl sl' → Q (.exit 2 ⟨75, .tup [], sl', []⟩ H')) →
    Gives (loopL env (lp Tryz.f42 1) ⟨75, .tup [], sl, []⟩ H) Q := by
  intro n
  induction n with
  | zero =>
    intro x H L pos mv sl hi hm hL h0 hmv g0 g1 g46 g47 g48 q1
    refine gives_loop ?_
    simp (disch := omega) [lp, Tryz.f42, loops, g47, g48, decF]
    exact q1 _ H pos (by simpa [pushAll, ofRound] using hm) (by simpa [pushAll, ofRound] using Frees.refl s nt mp sb tb H (tr L) pos) (by repeat (first | exact Keep.refl _ _ | refine Keep.put ?_ (by decide)))
  | succ n ih =>
    intro x H L pos mv sl hi hm hL h0 hmv g0 g1 g46 g47 g48 q1
    have hx : x < l.length := by omega
    have hn := hf.n96
    refine gives_loop ?_
    by_cases hr : (nth default l x).r = t
    · have hof : ofRound l t (n + 1) x = x :: ofRound l t n (x + 1) := by simp [ofRound, hr]
      rw [hof] at q1
      obtain ⟨H', pos', c1, c2, c3, c4⟩ := push_call (hm.app [.row false 4 [.agg [.int .i64 (nth default l x).t, .int .i64 (nth default l x).b, .int .i64 (nth default l x).r, .int .i64 (nth default l x).l]]]) hf x t ht hx (fun k => by have := hL k; omega) (by omega)
      rw [hr] at c1
      simp (disch := omega) [lp, Tryz.f42, loops, g0, g1, g46, g47, g48, decT, wrapI, index_its, hr, c1, -getElem?_pos]
      refine ih (x + 1) H' _ pos' (mv + 1) _ (by omega) c2 (fun k => ?_) (by omega) (by omega) ?_ ?_ ?_ ?_ ?_ (fun sl' H2 pos2 f1 fr f2 => q1 sl' H2 pos2 (by rw [List.length_cons, show mv + (((ofRound l t n (x + 1)).length + 1 : Nat) : Int) = mv + 1 + (ofRound l t n (x + 1)).length by omega]; exact f1) (Frees.trans (Frees.app s nt mp sb tb H (tr L) pos _) (Frees.trans c4 fr)) (Keep.trans ?_ f2))
      · have := hL k
        simp only [upN]
        split
        · rename_i e; subst e; simp; omega
        · omega
      · simp [g0]
      · simp [g1]
      · simp [g46]
      · simp [g47]
      · simp
      · repeat (first | exact Keep.refl _ _ | refine Keep.put ?_ (by decide))
    · have hof : ofRound l t (n + 1) x = ofRound l t n (x + 1) := by simp [ofRound, hr]
      rw [hof] at q1
      simp (disch := omega) [lp, Tryz.f42, loops, g0, g1, g46, g47, g48, decT, wrapI, index_its, hr, -getElem?_pos]
      refine ih (x + 1) _ L pos mv _ (by omega) (hm.app _) (fun k => by have := hL k; omega) (by omega) (by omega) ?_ ?_ ?_ ?_ ?_ (fun sl' H2 pos2 f1 fr f2 => q1 sl' H2 pos2 f1 (Frees.trans (Frees.app s nt mp sb tb H (tr L) pos _) fr) (Keep.trans ?_ f2))
      · simp [g0]
      · simp [g1]
      · simp [g46]
      · simp [g47]
      · simp
      · repeat (first | exact Keep.refl _ _ | refine Keep.put ?_ (by decide))
end Rival

/- TopRival: rollin's at, whole. -/
open Go Go.Proofs Go.Abs
namespace Rival
section
variable {l : List It} {w : Int} {s : Nat} {ks : List Int} {mp sb tb nt : Nat} {tv : AV} {H : Heap} {L : Nat → List Int} {pos : Nat → Nat} {mv pu : Int}
/-- A step's track is emptied. -/
theorem Mach.take (h : Mach l w s ks mp sb tb tv nt H L pos mv pu) {b : Nat} (hb : b < s) {se : List AV} (he : H[sb]? = some (.row false 1 se)) :
    Mach l w s ks mp sb tb tv nt (H.set sb (.row false 1 (se.set b .nil))) (upL L b []) (fun k => if k = b then 0 else pos k) mv pu := by
  obtain ⟨a1, a2, a3, a4, a5, a6⟩ := h.apart
  refine h.upd (by simp) (by rw [List.getElem?_set_ne (Ne.symm a1)]) (fun _ => ⟨se, he, by rw [List.getElem?_set_self a5]; rfl⟩) (fun hn => absurd hb hn) (fun hn => absurd hb hn) (fun _ => by rw [List.getElem?_set_ne a3]) (fun hn => absurd rfl hn) (fun hn => absurd rfl hn) (fun k hk hkd hL => ?_)
  rw [List.getElem?_set_ne (Ne.symm (h.sep k hk hL).2.1)]
theorem Mach.takeFree (h : Mach l w s ks mp sb tb tv nt H L pos mv pu) {b : Nat} (hb : b < s) {se : List AV} (hL : L b ≠ []) :
    Free s nt mp sb tb (H.set sb (.row false 1 (se.set b .nil))) (upL L b []) (fun k => if k = b then 0 else pos k) (pos b) ∧ (H.set sb (.row false 1 (se.set b .nil)))[pos b]? = some (.row false 1 (ints (L b))) := by
  have hs := h.sep b (by omega) hL
  refine ⟨⟨by simpa using h.lt (by omega) hL, hs.1, hs.2.1, hs.2.2, fun k hk hk2 => ?_⟩, ?_⟩
  · by_cases hkb : k = b
    · simp [upL, hkb] at hk2
    · simp only [upL, hkb, if_false] at hk2
      simp only [hkb, if_false]
      exact fun e => hkb (h.inj k b hk (by omega) hk2 hL e)
  · rw [List.getElem?_set_ne (Ne.symm hs.2.1)]
    exact h.rows b (by omega) hL
end
section
variable {l : List It} {w : Int} {s : Nat} {ks : List Int} {mp sb tb nt : Nat} {tv : AV} {H : Heap} {L : Nat → List Int} {pos : Nat → Nat} {mv pu : Int}
theorem Frees.take (b : Nat) (e : Ent) : Frees s nt mp sb tb H L pos (H.set sb e) (upL L b []) (fun k => if k = b then 0 else pos k) := fun q ⟨h1, h2, h3, h4, h5⟩ => by
  refine ⟨⟨by simpa using h1, h2, h3, h4, fun k hk hL => ?_⟩, List.getElem?_set_ne (Ne.symm h3)⟩
  by_cases hkb : k = b
  · simp [upL, hkb] at hL
  · simp only [upL, hkb, if_false] at hL
    simp only [hkb, if_false]
    exact h5 k hk hL
theorem Frees.box (e : Ent) : Frees s nt mp sb tb H L pos (H.set mp e) L pos := fun q ⟨h1, h2, h3⟩ => ⟨⟨by simpa using h1, h2, h3⟩, List.getElem?_set_ne (Ne.symm h2)⟩
end
def atL (l : List It) (s : Nat) (cs : List Nat) (t : Nat) (L : Nat → List Nat) : Nat → List Nat := pushAll l s cs t (ofRound l t l.length 0) (if 0 < t then pushAll l s cs t (L (t - 1)) (upN L (t - 1) []) else L)
def atN (l : List It) (t : Nat) (L : Nat → List Nat) : Nat := (if 0 < t then (L (t - 1)).length else 0) + (ofRound l t l.length 0).length
set_option maxRecDepth 100000 in
set_option maxHeartbeats 4000000 in
theorem at_ok {l : List It} {w : Int} {s : Nat} {cs : List Nat} {mp sb tb nt : Nat} {tv : AV} {H : Heap} {L : Nat → List Nat} {pos : Nat → Nat} {mv pu : Int} (h : Mach l w s (cs.map Int.ofNat) mp sb tb tv nt H (tr L) pos mv pu) (hf : Fit l s cs nt) (t : Nat) (ht : t ≤ s) (hL : ∀ k, (L k).length ≤ 96) (hx : ∀ k, ∀ x ∈ L k, x < l.length) (hmv : 0 ≤ mv ∧ mv ≤ 900000) (hpu : 0 ≤ pu ∧ pu ≤ 1000) :
    ∃ H' pos' pu', callN env (callL env) 42 [.ptr mp 1 0 0, .int .i64 t] H = some (.tup [], H') ∧ Mach l w s (cs.map Int.ofNat) mp sb tb tv nt H' (tr (atL l s cs t L)) pos' (mv + atN l t L) pu' ∧ (0 ≤ pu' ∧ pu' ≤ pu + 1) ∧ Frees s nt mp sb tb H (tr L) pos H' (tr (atL l s cs t L)) pos' := by
  have hg : Gives (callL env 42 [.ptr mp 1 0 0, .int .i64 t] H) fun r => ∃ pos' pu', r.1 = .tup [] ∧ Mach l w s (cs.map Int.ofNat) mp sb tb tv nt r.2 (tr (atL l s cs t L)) pos' (mv + atN l t L) pu' ∧ (0 ≤ pu' ∧ pu' ≤ pu + 1) ∧ Frees s nt mp sb tb H (tr L) pos r.2 (tr (atL l s cs t L)) pos' := by
    apply gives_call
    have hn := hf.n96
    have hs12 := hf.s12
    have hbox := h.box
    obtain ⟨a1, a2, a3, a4, a5, a6⟩ := h.apart
    unfold boxE at hbox
    by_cases h0 : 0 < t
    · obtain ⟨se, hse, hsl, hsv⟩ := h.srow
      have e1 : ((t : Int) - 1) = ((t - 1 : Nat) : Int) := by omega
      have hb := hsv (t - 1) (by omega)
      have htk := h.take (b := t - 1) (by omega) hse
      have hfree := fun hh => h.takeFree (b := t - 1) (se := se) (by omega) hh
      have hld : ∀ v, trk (pos (t - 1)) v = .nil ∨ ∃ p n, trk (pos (t - 1)) v = .ref p n 0 n := fun v => by
        unfold trk; split
        · exact .inl rfl
        · exact .inr ⟨_, _, rfl⟩
      have hlde : ∀ v : List Int, loadE false 1 (trk (pos (t - 1)) v) 0 = some (trk (pos (t - 1)) v) := fun v => by unfold trk; split <;> rfl
      have hlen : ∀ (v : List Int) (hh : Heap), lenA hh (.slice 3) (trk (pos (t - 1)) v) = some (v.length : Int) := fun v hh => by
        unfold trk; split
        · rename_i e; subst e; rfl
        · rfl
      have hset : ∀ v : List Int, setE (trk (pos (t - 1)) v) 0 [.nil] = some .nil := fun v => by unfold trk; split <;> rfl
      simp (disch := omega) [Tryz.f42, hbox, decT, wrapI, e1, ix33 hse hsl, hse, hsl, hb, hlde, hlen, hset, -setE, -lenA, -getElem?_pos]
      generalize hx : loopL env _ _ _ = X
      apply gives_cut hx
      clear hx
      have etr : upL (tr L) (t - 1) [] = tr (upN L (t - 1) []) := (tr_up L (t - 1) []).symm
      rw [etr] at htk hfree
      have hLt := hL (t - 1)
      refine at_loop0 hf t ht (pos (t - 1)) (L (t - 1)) (by omega) (hx _) _ (L (t - 1)).length 0 _ (upN L (t - 1) []) _ mv _ (by omega) htk (fun k => ?_) hmv.1 (by omega) (fun hne => ?_) ?_ ?_ ?_ ?_ ?_ (fun sl' H1 pos1 m1 fr1 k1' => ?_)
      · have := hL k
        simp only [upN]
        split
        · simp; omega
        · omega
      · have := hfree (by simpa [tr] using hne)
        exact ⟨this.2, this.1⟩
      · simp
      · simp
      · simp [tr]
      · simp [tr]
      · simp
      rw [List.drop_zero] at m1 fr1
      have hfr := Frees.trans (Frees.take (s := s) (nt := nt) (mp := mp) (sb := sb) (tb := tb) (H := H) (L := tr L) (pos := pos) (t - 1) (.row false 1 (se.set (t - 1) .nil))) (etr ▸ fr1)
      have k0 : getS sl' (.tup []) 0 = .ptr mp 1 0 0 := k1'.get (by simp) (by simp)
      have k1 : getS sl' (.tup []) 1 = .int .i64 t := k1'.get (by simp) (by simp)
      have k4 : getS sl' (.tup []) 4 = .int .i64 mv := k1'.get (by simp) (by simp)
      have hbox1 := m1.box
      unfold boxE at hbox1
      have hpl := pushAll_len (l := l) (s := s) (cs := cs) (t := t) (L (t - 1)) (upN L (t - 1) [])
      simp (disch := omega) [k0, hbox1, -getElem?_pos]
      generalize hx : loopL env _ _ _ = X
      apply gives_cut hx
      clear hx
      refine at_loop1 hf t ht _ l.length 0 _ (pushAll l s cs t (L (t - 1)) (upN L (t - 1) [])) _ (mv + ((L (t - 1)).length : Int)) _ (by omega) m1 (fun k => by have h1 := hpl k; have h2 := hL k; have h3 : (upN L (t - 1) [] k).length ≤ 96 := (by unfold upN; split <;> simp [h2]); omega) (by omega) (by omega) ?_ ?_ ?_ ?_ ?_ (fun sl2 H2 pos2 m2 fr2 k2 => ?_)
      · simp [k0]
      · simp [k1]
      · simp
      · simp
      · simp
      · have j0 : getS sl2 (.tup []) 0 = .ptr mp 1 0 0 := k2.get (by simp [k0]) (by simp)
        have j4 : getS sl2 (.tup []) 4 = .int .i64 mv := k2.get (by simp [k4]) (by simp)
        have hbox2 := m2.box
        unfold boxE at hbox2
        have hof := ofRound_len l t l.length 0
        have hat : mv + (atN l t L : Int) = (mv + ((L (t - 1)).length : Int)) + ((ofRound l t l.length 0).length : Int) := by simp only [atN, h0, if_true]; omega
        have hal : pushAll l s cs t (ofRound l t l.length 0) (pushAll l s cs t (L (t - 1)) (upN L (t - 1) [])) = atL l s cs t L := by simp only [atL, h0, if_true]
        rw [hal, ← hat] at m2
        rw [hal] at fr2
        rw [← hat] at hbox2
        have hpos : 0 ≤ (atN l t L : Int) := by omega
        generalize (atN l t L : Int) = z at m2 hbox2 hpos hat ⊢
        by_cases hz : mv < mv + z
        · simp (disch := omega) [j0, j4, hbox2, hz, wrapI, -getElem?_pos]
          exact ⟨pos2, pu + 1, m2.setBox (mv + z) (pu + 1), ⟨by omega, by omega⟩, hfr.trans (fr2.trans (Frees.box _))⟩
        · simp (disch := omega) [j0, j4, hbox2, hz, wrapI, -getElem?_pos]
          exact ⟨pos2, pu, m2, ⟨by omega, by omega⟩, hfr.trans fr2⟩
    · skip
      simp (disch := omega) [Tryz.f42, hbox, h0, -getElem?_pos]
      generalize hx : loopL env _ _ _ = X
      apply gives_cut hx
      clear hx
      refine at_loop1 hf t ht _ l.length 0 _ L _ mv _ (by omega) h (fun k => by have h2 := hL k; omega) (by omega) (by omega) ?_ ?_ ?_ ?_ ?_ (fun sl2 H2 pos2 m2 fr2 k2 => ?_)
      · simp
      · simp
      · simp
      · simp
      · simp
      · have j0 : getS sl2 (.tup []) 0 = .ptr mp 1 0 0 := k2.get (by simp) (by simp)
        have j4 : getS sl2 (.tup []) 4 = .int .i64 mv := k2.get (by simp) (by simp)
        have hbox2 := m2.box
        unfold boxE at hbox2
        have hof := ofRound_len l t l.length 0
        have hat : mv + (atN l t L : Int) = mv + ((ofRound l t l.length 0).length : Int) := by simp only [atN, h0, if_false]; omega
        have hal : pushAll l s cs t (ofRound l t l.length 0) L = atL l s cs t L := by simp only [atL, h0, if_false]
        rw [hal, ← hat] at m2
        rw [hal] at fr2
        rw [← hat] at hbox2
        have hpos : 0 ≤ (atN l t L : Int) := by omega
        generalize (atN l t L : Int) = z at m2 hbox2 hpos hat ⊢
        by_cases hz : mv < mv + z
        · simp (disch := omega) [j0, j4, hbox2, hz, wrapI, -getElem?_pos]
          exact ⟨pos2, pu + 1, m2.setBox (mv + z) (pu + 1), ⟨by omega, by omega⟩, fr2.trans (Frees.box _)⟩
        · simp (disch := omega) [j0, j4, hbox2, hz, wrapI, -getElem?_pos]
          exact ⟨pos2, pu, m2, ⟨by omega, by omega⟩, fr2⟩
  obtain ⟨r, hr, pos', pu', h1, h2, h3⟩ := gives_iff.1 hg
  obtain ⟨v, H'⟩ := r
  obtain rfl : v = .tup [] := h1
  exact ⟨H', pos', pu', hr, h2, h3⟩
end Rival
