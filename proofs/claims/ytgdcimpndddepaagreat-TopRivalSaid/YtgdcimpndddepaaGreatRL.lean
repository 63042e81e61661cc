/- TopRival: Decode. -/
import Derived.Test.YtgdcimpndddepaaGreatRK
/- TopRival: certificate.Decode. -/
open Go Go.Proofs Go.Abs
namespace Rival
def od9 : List DOp := [⟨0, 0, 0⟩, ⟨1, 0, 1⟩, ⟨2, 0, 3⟩, ⟨3, 0, 0⟩, ⟨4, 0, 0⟩, ⟨5, 0, 16⟩, ⟨6, 0, 48⟩, ⟨7, 0, 120⟩, ⟨8, 0, 248⟩, ⟨9, 0, 504⟩, ⟨10, 0, 1016⟩, ⟨11, 0, 0⟩, ⟨12, 0, 0⟩, ⟨13, 0, 4096⟩, ⟨14, 0, 12288⟩, ⟨15, 0, 30720⟩, ⟨16, 0, 63488⟩, ⟨17, 0, 129024⟩, ⟨18, 0, 262136⟩, ⟨19, 0, 524280⟩, ⟨20, 1, 1048575⟩, ⟨21, 1, 2097151⟩, ⟨22, 1, 4194303⟩, ⟨23, 1, 8388607⟩]
theorem od9_0 : orderOf (dr Tryz.f9 0) = od9 := by kernel_rfl
theorem ok9_0 : okD (dr Tryz.f9 0) od9 = true := by kernel_rfl
theorem tb_1048575_0 : Nat.testBit 1048575 0 = true := by decide
theorem tb_1048575_1 : Nat.testBit 1048575 1 = true := by decide
theorem tb_1048575_2 : Nat.testBit 1048575 2 = true := by decide
theorem tb_1048575_3 : Nat.testBit 1048575 3 = true := by decide
theorem tb_1048575_4 : Nat.testBit 1048575 4 = true := by decide
theorem tb_1048575_5 : Nat.testBit 1048575 5 = true := by decide
theorem tb_1048575_6 : Nat.testBit 1048575 6 = true := by decide
theorem tb_1048575_7 : Nat.testBit 1048575 7 = true := by decide
theorem tb_1048575_8 : Nat.testBit 1048575 8 = true := by decide
theorem tb_1048575_9 : Nat.testBit 1048575 9 = true := by decide
theorem tb_1048575_10 : Nat.testBit 1048575 10 = true := by decide
theorem tb_1048575_11 : Nat.testBit 1048575 11 = true := by decide
theorem tb_1048575_12 : Nat.testBit 1048575 12 = true := by decide
theorem tb_1048575_13 : Nat.testBit 1048575 13 = true := by decide
theorem tb_1048575_14 : Nat.testBit 1048575 14 = true := by decide
theorem tb_1048575_15 : Nat.testBit 1048575 15 = true := by decide
theorem tb_1048575_16 : Nat.testBit 1048575 16 = true := by decide
theorem tb_1048575_17 : Nat.testBit 1048575 17 = true := by decide
theorem tb_1048575_18 : Nat.testBit 1048575 18 = true := by decide
theorem tb_1048575_19 : Nat.testBit 1048575 19 = true := by decide
theorem tb_8388607_0 : Nat.testBit 8388607 0 = true := by decide
theorem tb_8388607_1 : Nat.testBit 8388607 1 = true := by decide
theorem tb_8388607_2 : Nat.testBit 8388607 2 = true := by decide
theorem tb_8388607_3 : Nat.testBit 8388607 3 = true := by decide
theorem tb_8388607_4 : Nat.testBit 8388607 4 = true := by decide
theorem tb_8388607_5 : Nat.testBit 8388607 5 = true := by decide
theorem tb_8388607_6 : Nat.testBit 8388607 6 = true := by decide
theorem tb_8388607_7 : Nat.testBit 8388607 7 = true := by decide
theorem tb_8388607_8 : Nat.testBit 8388607 8 = true := by decide
theorem tb_8388607_9 : Nat.testBit 8388607 9 = true := by decide
theorem tb_8388607_10 : Nat.testBit 8388607 10 = true := by decide
theorem tb_8388607_11 : Nat.testBit 8388607 11 = true := by decide
theorem tb_8388607_12 : Nat.testBit 8388607 12 = true := by decide
theorem tb_8388607_13 : Nat.testBit 8388607 13 = true := by decide
theorem tb_8388607_14 : Nat.testBit 8388607 14 = true := by decide
theorem tb_8388607_15 : Nat.testBit 8388607 15 = true := by decide
theorem tb_8388607_16 : Nat.testBit 8388607 16 = true := by decide
theorem tb_8388607_17 : Nat.testBit 8388607 17 = true := by decide
theorem tb_8388607_18 : Nat.testBit 8388607 18 = true := by decide
theorem tb_8388607_19 : Nat.testBit 8388607 19 = true := by decide
theorem tb_8388607_20 : Nat.testBit 8388607 20 = true := by decide
theorem tb_8388607_21 : Nat.testBit 8388607 21 = true := by decide
theorem tb_8388607_22 : Nat.testBit 8388607 22 = true := by decide
attribute [simp] tb_1048575_0 tb_1048575_1 tb_1048575_2 tb_1048575_3 tb_1048575_4 tb_1048575_5 tb_1048575_6 tb_1048575_7 tb_1048575_8 tb_1048575_9 tb_1048575_10 tb_1048575_11 tb_1048575_12 tb_1048575_13 tb_1048575_14 tb_1048575_15 tb_1048575_16 tb_1048575_17 tb_1048575_18 tb_1048575_19 tb_8388607_0 tb_8388607_1 tb_8388607_2 tb_8388607_3 tb_8388607_4 tb_8388607_5 tb_8388607_6 tb_8388607_7 tb_8388607_8 tb_8388607_9 tb_8388607_10 tb_8388607_11 tb_8388607_12 tb_8388607_13 tb_8388607_14 tb_8388607_15 tb_8388607_16 tb_8388607_17 tb_8388607_18 tb_8388607_19 tb_8388607_20 tb_8388607_21 tb_8388607_22
theorem index_byts (l : List Nat) (i : Int) (h : Heap) (h0 : 0 ≤ i) (h1 : i < l.length) : indexAddrA env 39 h (.lst (byts l)) (.int .i64 i) = some (.iptr (.int .u8 (nth 0 l i.toNat : Nat)) 0) := by
  unfold indexAddrA
  have h2 : i.toNat < l.length := by omega
  simp only [kd, envti, ti39, ti5, Option.map_some, byts_length, h0, h1, byts_all, and_self, if_true]
  simp [byts, h2, nth_getD, List.getD_eq_getElem?_getD]
theorem encB_len (s : Nat) (a c : List Nat) : (encB s a c).length = 3 + 2 * a.length + c.length := by simp [encB, codeB_len]; omega
theorem codeB_nth (a : List Nat) : ∀ i, i < a.length → nth 0 (codeB a) (2 * i) = nth 0 a i / 256 ∧ nth 0 (codeB a) (2 * i + 1) = nth 0 a i % 256 := by
  induction a with
  | nil => intro i hi; simp at hi
  | cons k a ih =>
    intro i hi
    have e : codeB (k :: a) = k / 256 :: k % 256 :: codeB a := by simp [codeB]
    rw [e]
    cases i with
    | zero => simp
    | succ i =>
      have := ih i (by simpa using hi)
      rw [show 2 * (i + 1) = 2 * i + 1 + 1 by omega, show 2 * i + 1 + 1 + 1 = (2 * i + 1) + 1 + 1 by omega]
      simp only [nth_succ]
      exact this
theorem encB_nth (s : Nat) (a c : List Nat) : nth 0 (encB s a c) 0 = s ∧ nth 0 (encB s a c) 1 = a.length ∧ (∀ i, i < a.length → nth 0 (encB s a c) (2 + 2 * i) = nth 0 a i / 256 ∧ nth 0 (encB s a c) (3 + 2 * i) = nth 0 a i % 256) ∧ nth 0 (encB s a c) (2 + 2 * a.length) = c.length ∧ ∀ i, nth 0 (encB s a c) (3 + 2 * a.length + i) = nth 0 c i := by
  have e : encB s a c = s :: a.length :: (codeB a ++ (c.length :: c)) := by simp [encB]
  rw [e]
  have hl := codeB_len a
  have hs2 : ∀ j, nth 0 (s :: a.length :: (codeB a ++ (c.length :: c))) (j + 2) = nth 0 (codeB a ++ (c.length :: c)) j := fun j => rfl
  refine ⟨by simp, by simp [nth_succ], fun i hi => ?_, ?_, fun i => ?_⟩
  · have := codeB_nth a i hi
    rw [show 2 + 2 * i = 2 * i + 2 by omega, show 3 + 2 * i = (2 * i + 1) + 2 by omega, hs2, hs2, nth_append, nth_append, if_pos (by omega), if_pos (by omega)]
    exact this
  · rw [show 2 + 2 * a.length = 2 * a.length + 2 by omega, hs2, nth_append, if_neg (by omega), show 2 * a.length - (codeB a).length = 0 by omega]
    simp
  · rw [show 3 + 2 * a.length + i = (2 * a.length + 1 + i) + 2 by omega, hs2, nth_append, if_neg (by omega), show 2 * a.length + 1 + i - (codeB a).length = i + 1 by omega, nth_succ]
theorem byte_or (k : Nat) (hk : k < 4096) : binA env .or 3 (.int .i64 ((k / 256 * 256 : Nat) : Int)) (.int .i64 ((k % 256 : Nat) : Int)) = some (.int .i64 (k : Int)) := by
  rw [bin_orN 3 _ _ (by omega) (by omega)]
  have h := Nat.shiftLeft_add_eq_or_of_lt (a := k / 256) (b := k % 256) (i := 8) (by omega)
  rw [Nat.shiftLeft_eq] at h
  have e : (k / 256 * 256 ||| k % 256) = k := by
    rw [show (256 : Nat) = 2 ^ 8 from rfl] at h ⊢
    rw [← h]; omega
  rw [e]
theorem byte_shl (x : Nat) (hx : x < 256) (k' : IntKind) : binA env .shl 3 (.int .i64 (x : Int)) (.int k' 8) = some (.int .i64 ((x * 256 : Nat) : Int)) := by
  rw [bin_shl]
  simp (disch := omega) [IntKind.bits]
  rw [wrapI (by omega) (by omega)]
set_option maxRecDepth 100000 in
set_option maxHeartbeats 4000000 in
theorem dec_loop0 {s : Nat} {a c : List Nat} (ha : a.length ≤ 96) (hr : ∀ k, k < a.length → nth 0 a k < 4096) (e0 : Ent) (Q : Out → Prop) : ∀ (n i p : Nat) (H : Heap) (sl : List (Nat × AV)), i + n = a.length → H[0]? = some e0 → H[1]? = some (.row false 3 [.agg [.int .i64 s, trk p ((a.take i).map Int.ofNat), .nil]]) → 2 ≤ p → (a.take i ≠ [] → H[p]? = some (.row false 1 (ints ((a.take i).map Int.ofNat)))) →
    getS sl (.tup []) 0 = .lst (byts (encB s a c)) → getS sl (.tup []) 4 = .int .i64 a.length → getS sl (.tup []) 8 = .ptr 1 1 0 0 → getS sl (.tup []) 9 = .int .i64 i →
    (∀ sl' H' p', H'[0]? = some e0 → H'[1]? = some (.row false 3 [.agg [.int .i64 s, trk p' (a.map Int.ofNat), .nil]]) → 2 ≤ p' → (a ≠ [] → H'[p']? = some (.row false 1 (ints (a.map Int.ofNat)))) → Keep [0, 2, 5, 8] sl sl' → Q (.exit 1 ⟨114, .tup [], sl', []⟩ H')) →
    Gives (loopL env (lp Tryz.f9 0) ⟨114, .tup [], sl, []⟩ H) Q := by
  have o := od9_0
  have k := ok9_0
  simp [dr, drs, Tryz.f9] at o k
  obtain ⟨b0, b1, b2, b3, b4⟩ := encB_nth s a c
  have bl := encB_len s a c
  intro n
  induction n with
  | zero =>
    intro i p H sl hi H0 H1 hp Hp g0 g4 g8 g9 q
    have ht : a.take i = a := List.take_of_length_le (by omega)
    rw [ht] at H1 Hp
    refine gives_loop ?_
    simp (disch := omega) [lp, Tryz.f9, loops, g4, g9, decF]
    exact q _ H p H0 H1 hp Hp (by repeat (first | exact Keep.refl _ _ | refine Keep.put ?_ (by decide)))
  | succ n ih =>
    intro i p H sl hi H0 H1 hp Hp g0 g4 g8 g9 q
    have hlt : i < a.length := by omega
    have hri := hr i hlt
    obtain ⟨c1, c2⟩ := b2 i hlt
    have hl1 := (List.getElem?_eq_some_iff.1 H1).1
    have ht1 : a.take (i + 1) = a.take i ++ [nth 0 a i] := by
      rw [List.take_add_one, List.getElem?_eq_getElem hlt, nth_getD, List.getD_eq_getElem?_getD, List.getElem?_eq_getElem hlt]
      rfl
    have ix1 : ∀ h, indexAddrA env 39 h (.lst (byts (encB s a c))) (.int .i64 (2 + 2 * (i : Int))) = some (.iptr (.int .u8 ((nth 0 a i / 256 : Nat) : Int)) 0) := fun h => by
      rw [index_byts _ _ _ (by omega) (by omega), show (2 + 2 * (i : Int)).toNat = 2 + 2 * i by omega, c1]
    have ix2 : ∀ h, indexAddrA env 39 h (.lst (byts (encB s a c))) (.int .i64 (3 + 2 * (i : Int))) = some (.iptr (.int .u8 ((nth 0 a i % 256 : Nat) : Int)) 0) := fun h => by
      rw [index_byts _ _ _ (by omega) (by omega), show (3 + 2 * (i : Int)).toNat = 3 + 2 * i by omega, c2]
    have eor := byte_or (nth 0 a i) hri
    have eshl := byte_shl (nth 0 a i / 256) (by omega)
    have hti : (a.take i).length = i := by simp; omega
    have htl : ((a.take i).map Int.ofNat).length = i := by simp; omega
    have htm : (a.take i).map Int.ofNat ++ [((nth 0 a i : Nat) : Int)] = (a.take (i + 1)).map Int.ofNat := by rw [ht1]; simp
    generalize nth 0 a i = v at *
    have w1 : IntKind.i64.wrap ((v / 256 : Nat) : Int) = ((v / 256 : Nat) : Int) := wrapI (by omega) (by omega)
    have w2 : IntKind.i64.wrap ((v % 256 : Nat) : Int) = ((v % 256 : Nat) : Int) := wrapI (by omega) (by omega)
    generalize v / 256 * 256 = z at eor eshl
    generalize v / 256 = x at *
    generalize v % 256 = y at *
    have H1' : ∀ t, (H ++ t)[1]? = H[1]? := fun t => List.getElem?_append_left hl1
    rw [H1] at H1'
    refine gives_loop ?_
    by_cases hi0 : a.take i = []
    · have htr : trk p ((a.take i).map Int.ofNat) = .nil := by simp [trk, hi0]
      rw [htr] at H1 H1'
      simp (disch := omega) [lp, Tryz.f9, loops, g0, g4, g8, g9, H1, H1', decT, hlt, wrapI, regionD_ok o k, od9, runD, clsOf, extP, wantedA, act, gone_none, gone_gone, isGone, pads, held, quiet, Pend.holds, still, opA, ix1, ix2, conv_int k5 k3, w1, w2, eshl, eor, appendA, -bin_shl, -bin_or, -getElem?_pos]
      have hA1 : (a.take (i + 1)).map Int.ofNat = [(v : Int)] := by rw [← htm, hi0]; rfl
      refine ih (i + 1) (H.length + 1) _ _ (by omega) ?_ ?_ (by omega) (fun _ => ?_) ?_ ?_ ?_ ?_ (fun sl' H' p' f1 f2 f3 f4 f5 => q sl' H' p' f1 f2 f3 f4 (Keep.trans ?_ f5))
      · rw [List.getElem?_append_left (by simp; omega), List.getElem?_set_ne (by omega), H0]
      · rw [List.getElem?_append_left (by simpa using hl1), List.getElem?_set_self hl1, hA1]
        rfl
      · rw [List.getElem?_append_right (by simp), hA1]
        simp [ints]
      · simp [g0]
      · simp [g4]
      · simp [g8]
      · simp
      · repeat (first | exact Keep.refl _ _ | refine Keep.put ?_ (by decide))
    · have htr : trk p ((a.take i).map Int.ofNat) = .ref p i 0 i := by rw [trk, if_neg (by simpa using hi0), htl]
      rw [htr] at H1 H1'
      have Hp0 := Hp hi0
      have hpl := (List.getElem?_eq_some_iff.1 Hp0).1
      have Hp' : ∀ t, (H ++ t)[p]? = H[p]? := fun t => List.getElem?_append_left hpl
      rw [Hp0] at Hp'
      have Hq : ∀ e t, (H.set p e ++ t)[1]? = H[1]? := fun e t => by rw [List.getElem?_append_left (by simpa using hl1), List.getElem?_set_ne (by omega)]
      rw [H1] at Hq
      have htk : List.take i (ints ((a.take i).map Int.ofNat)) = ints ((a.take i).map Int.ofNat) := List.take_of_length_le (by rw [ints_length, htl]; exact Nat.le_refl _)
      have hil : (ints ((a.take i).map Int.ofNat)).length = i := by rw [ints_length, htl]
      generalize hA : (a.take i).map Int.ofNat = A at *
      simp (disch := omega) [lp, Tryz.f9, loops, g0, g4, g8, g9, H1, H1', Hp0, Hp', Hq, decT, hlt, wrapI, regionD_ok o k, od9, runD, clsOf, extP, wantedA, act, gone_none, gone_gone, isGone, pads, held, quiet, Pend.holds, still, opA, ix1, ix2, conv_int k5 k3, w1, w2, eshl, eor, app25, htk, htl, hil, htm, -bin_shl, -bin_or, -getElem?_pos]
      rw [List.set_append_left _ _ (by simpa using hl1)]
      have hlen1 : ((a.take (i + 1)).map Int.ofNat).length = i + 1 := by simp; omega
      refine ih (i + 1) p _ _ (by omega) ?_ ?_ hp (fun _ => ?_) ?_ ?_ ?_ ?_ (fun sl' H' p' f1 f2 f3 f4 f5 => q sl' H' p' f1 f2 f3 f4 (Keep.trans ?_ f5))
      · rw [List.getElem?_append_left (by simp; omega), List.getElem?_set_ne (by omega), List.getElem?_set_ne (by omega), H0]
      · rw [List.getElem?_append_left (by simpa using hl1), List.getElem?_set_self (by simpa using hl1), trk, if_neg (fun e => by rw [e] at hlen1; simp at hlen1), hlen1]
      · rw [List.getElem?_append_left (by simpa using hpl), List.getElem?_set_ne (by omega), List.getElem?_set_self hpl, List.map_take]
      · simp [g0]
      · simp [g4]
      · simp [g8]
      · simp
      · repeat (first | exact Keep.refl _ _ | refine Keep.put ?_ (by decide))
end Rival
