/- TopRival: Decode, Bound. -/
import Derived.Test.YtgdcimpndddepaaGreatRL
/- TopRival: certificate.Decode, whole. -/
open Go Go.Proofs Go.Abs
namespace Rival
set_option maxRecDepth 100000 in
set_option maxHeartbeats 4000000 in
theorem dec_loop1 {s : Nat} {c : List Nat} (hc : c.length ≤ 96) (hr : ∀ k, k < c.length → nth 0 c k < 96) (e0 : Ent) (va : AV) (p : Nat) (Ra : Prop) (ea : Ent) (Q : Out → Prop) : ∀ (n i q : Nat) (H : Heap) (sl : List (Nat × AV)), i + n = c.length → H[0]? = some e0 → H[1]? = some (.row false 3 [.agg [.int .i64 s, va, trk q ((c.take i).map Int.ofNat)]]) → 2 ≤ q → 2 ≤ p → (c.take i ≠ [] → H[q]? = some (.row false 1 (ints ((c.take i).map Int.ofNat)))) → (Ra → H[p]? = some ea ∧ (c.take i ≠ [] → p ≠ q)) →
    getS sl (.tup []) 8 = .ptr 1 1 0 0 → getS sl (.tup []) 93 = .lst (byts c) → getS sl (.tup []) 94 = .int .i64 c.length → getS sl (.tup []) 95 = .int .i64 i →
    (∀ sl' H' q', H'[0]? = some e0 → H'[1]? = some (.row false 3 [.agg [.int .i64 s, va, trk q' (c.map Int.ofNat)]]) → 2 ≤ q' → (c ≠ [] → H'[q']? = some (.row false 1 (ints (c.map Int.ofNat)))) → (Ra → H'[p]? = some ea) → Keep [2, 8] sl sl' → Q (.exit 3 ⟨114, .tup [], sl', []⟩ H')) →
    Gives (loopL env (lp Tryz.f9 1) ⟨114, .tup [], sl, []⟩ H) Q := by
  intro n
  induction n with
  | zero =>
    intro i q H sl hi H0 H1 hq hp Hq HR g8 g93 g94 g95 q1
    have ht : c.take i = c := List.take_of_length_le (by omega)
    rw [ht] at H1 Hq
    refine gives_loop ?_
    simp (disch := omega) [lp, Tryz.f9, loops, g94, g95, decF]
    exact q1 _ H q H0 H1 hq Hq (fun h => (HR h).1) (by repeat (first | exact Keep.refl _ _ | refine Keep.put ?_ (by decide)))
  | succ n ih =>
    intro i q H sl hi H0 H1 hq hp Hq HR g8 g93 g94 g95 q1
    have hlt : i < c.length := by omega
    have hri := hr i hlt
    have hl1 := (List.getElem?_eq_some_iff.1 H1).1
    have ht1 : c.take (i + 1) = c.take i ++ [nth 0 c i] := by
      rw [List.take_add_one, List.getElem?_eq_getElem hlt, nth_getD, List.getD_eq_getElem?_getD, List.getElem?_eq_getElem hlt]
      rfl
    have ix1 : ∀ h, indexAddrA env 39 h (.lst (byts c)) (.int .i64 i) = some (.iptr (.int .u8 ((nth 0 c i : Nat) : Int)) 0) := fun h => index_byts c i h (by omega) (by omega)
    have htl : ((c.take i).map Int.ofNat).length = i := by simp; omega
    have htm : (c.take i).map Int.ofNat ++ [((nth 0 c i : Nat) : Int)] = (c.take (i + 1)).map Int.ofNat := by rw [ht1]; simp
    generalize nth 0 c i = v at *
    have w1 : IntKind.i64.wrap (v : Int) = (v : Int) := wrapI (by omega) (by omega)
    have H1' : ∀ t, (H ++ t)[1]? = H[1]? := fun t => List.getElem?_append_left hl1
    rw [H1] at H1'
    refine gives_loop ?_
    by_cases hi0 : c.take i = []
    · have htr : trk q ((c.take i).map Int.ofNat) = .nil := by simp [trk, hi0]
      rw [htr] at H1 H1'
      simp (disch := omega) [lp, Tryz.f9, loops, g8, g93, g94, g95, H1, H1', decT, hlt, wrapI, ix1, conv_int k5 k3, w1, appendA, -getElem?_pos]
      have hA1 : (c.take (i + 1)).map Int.ofNat = [(v : Int)] := by rw [← htm, hi0]; rfl
      refine ih (i + 1) (H.length + 1) _ _ (by omega) ?_ ?_ (by omega) hp (fun _ => ?_) (fun h => ?_) ?_ ?_ ?_ ?_ (fun sl' H' p' f1 f2 f3 f4 f5 f6 => q1 sl' H' p' f1 f2 f3 f4 f5 (Keep.trans ?_ f6))
      · rw [List.getElem?_append_left (by simp; omega), List.getElem?_set_ne (by omega), H0]
      · rw [List.getElem?_append_left (by simpa using hl1), List.getElem?_set_self hl1, hA1]
        rfl
      · rw [List.getElem?_append_right (by simp), hA1]
        simp [ints]
      · have h1 := (HR h).1
        have h2 := (List.getElem?_eq_some_iff.1 h1).1
        exact ⟨by rw [List.getElem?_append_left (by simpa using h2), List.getElem?_set_ne (by omega), h1], fun _ => by omega⟩
      · simp [g8]
      · simp [g93]
      · simp [g94]
      · simp
      · repeat (first | exact Keep.refl _ _ | refine Keep.put ?_ (by decide))
    · have htr : trk q ((c.take i).map Int.ofNat) = .ref q i 0 i := by rw [trk, if_neg (by simpa using hi0), htl]
      rw [htr] at H1 H1'
      have Hp0 := Hq hi0
      have hpl := (List.getElem?_eq_some_iff.1 Hp0).1
      have Hp' : ∀ t, (H ++ t)[q]? = H[q]? := fun t => List.getElem?_append_left hpl
      rw [Hp0] at Hp'
      have Hq1 : ∀ e t, (H.set q e ++ t)[1]? = H[1]? := fun e t => by rw [List.getElem?_append_left (by simpa using hl1), List.getElem?_set_ne (by omega)]
      rw [H1] at Hq1
      have htk : List.take i (ints ((c.take i).map Int.ofNat)) = ints ((c.take i).map Int.ofNat) := List.take_of_length_le (by rw [ints_length, htl]; exact Nat.le_refl _)
      have hil : (ints ((c.take i).map Int.ofNat)).length = i := by rw [ints_length, htl]
      generalize hA : (c.take i).map Int.ofNat = A at *
      simp (disch := omega) [lp, Tryz.f9, loops, g8, g93, g94, g95, H1, H1', Hp0, Hp', Hq1, decT, hlt, wrapI, ix1, conv_int k5 k3, w1, app25, htk, htl, hil, htm, -getElem?_pos]
      rw [List.set_append_left _ _ (by simpa using hl1)]
      have hlen1 : ((c.take (i + 1)).map Int.ofNat).length = i + 1 := by simp; omega
      refine ih (i + 1) q _ _ (by omega) ?_ ?_ hq hp (fun _ => ?_) (fun h => ?_) ?_ ?_ ?_ ?_ (fun sl' H' p' f1 f2 f3 f4 f5 f6 => q1 sl' H' p' f1 f2 f3 f4 f5 (Keep.trans ?_ f6))
      · rw [List.getElem?_append_left (by simp; omega), List.getElem?_set_ne (by omega), List.getElem?_set_ne (by omega), H0]
      · rw [List.getElem?_append_left (by simpa using hl1), List.getElem?_set_self (by simpa using hl1), trk, if_neg (fun e => by rw [e] at hlen1; simp at hlen1), hlen1]
      · rw [List.getElem?_append_left (by simpa using hpl), List.getElem?_set_ne (by omega), List.getElem?_set_self hpl, List.map_take]
      · obtain ⟨h1, h2⟩ := HR h
        have h3 := (List.getElem?_eq_some_iff.1 h1).1
        exact ⟨by rw [List.getElem?_append_left (by simpa using h3), List.getElem?_set_ne (by omega), List.getElem?_set_ne (Ne.symm (h2 hi0)), h1], fun _ => h2 hi0⟩
      · simp [g8]
      · simp [g93]
      · simp [g94]
      · simp
      · repeat (first | exact Keep.refl _ _ | refine Keep.put ?_ (by decide))
theorem slice_chain (s : Nat) (a c : List Nat) (h : Heap) : sliceA env 39 h (.lst (byts (encB s a c))) (some (.int .i64 (2 + 2 * (a.length : Int) + 1))) none none = some (.lst (byts c)) := by
  have bl := encB_len s a c
  have ha : (byts (encB s a c)).all (fun e => e.cells.length == 1) = true := byts_all _
  have hd : (encB s a c).drop (3 + 2 * a.length) = c := by
    refine ext_nth 0 (by simp [bl]) fun k hk => ?_
    rw [nth_drop]
    exact (encB_nth s a c).2.2.2.2 k
  unfold sliceA
  simp only [kd, envti, ti39, ti5, Option.map_some, ha, if_true, inBound]
  have h1 : (2 + 2 * (a.length : Int) + 1).toNat = 3 + 2 * a.length := by omega
  have h2 : (0 : Int) ≤ 2 + 2 * (a.length : Int) + 1 ∧ 2 + 2 * (a.length : Int) + 1 ≤ ((byts (encB s a c)).length : Int) := by
    rw [byts_length, bl]; omega
  simp only [Option.bind_some, h2, and_self, if_true, h1, List.take_length, Int.natCast_inj]
  have h3 : (byts (encB s a c)).drop (3 + 2 * a.length) = byts c := by
    unfold byts
    rw [← List.map_drop, hd]
  rw [h3]
theorem trk_one (p : Nat) (L : List Int) : (trk p L).one = true := by unfold trk; split <;> rfl
theorem slV_trV (L : List Nat) : SlV (trV L) (L.map Int.ofNat) := by
  unfold trV
  split
  · rename_i e; subst e; exact .nil
  · exact .lst _
theorem c22R {s : Nat} {a c : List Nat} (h : Enc s (a.map Int.ofNat) (c.map Int.ofNat)) (p q : Nat) (K : Heap) (hp : a ≠ [] → K[p]? = some (.row false 1 (ints (a.map Int.ofNat)))) (hq : c ≠ [] → K[q]? = some (.row false 1 (ints (c.map Int.ofNat)))) : callN env (callL env) 22 [.agg [.int .i64 s, trk p (a.map Int.ofNat), trk q (c.map Int.ofNat)]] K = some (.int .i64 0, K) := by
  by_cases hn : a = [] ∧ c = []
  · obtain ⟨rfl, rfl⟩ := hn
    exact c22 .nil .nil h K
  · obtain ⟨r, hr, h1⟩ := gives_iff.1 (check_ok (slV_trV a) (slV_trV c) h)
    refine callS rfl ?_ ?_ hr (by rw [h1]; rfl)
    · by_cases ha : a = []
      · have hc : c ≠ [] := fun e => hn ⟨ha, e⟩
        simp [closed?, depth, trk, ha, hc]
      · simp [closed?, depth, trk, ha]
    · have e1 : snap .any 11 K (trk p (a.map Int.ofNat)) = some (trV a) := snap_trk (d := 9) fun hne => hp (by simpa using hne)
      have e2 : snap .any 11 K (trk q (c.map Int.ofNat)) = some (trV c) := snap_trk (d := 9) fun hne => hq (by simpa using hne)
      have e3 : snap .any depth K (.agg [.int .i64 s, trk p (a.map Int.ofNat), trk q (c.map Int.ofNat)]) = some (.agg [.int .i64 s, trV a, trV c]) := by
        show (List.mapM (snap .any 11 K) _).map AV.agg = _
        simp only [List.mapM_cons, List.mapM_nil, e1, e2]
        rfl
      simp only [List.mapM_cons, List.mapM_nil, e3]
      rfl
set_option maxRecDepth 100000 in
set_option maxHeartbeats 4000000 in
theorem decode_ok {s : Nat} {a c : List Nat} (h : Enc s (a.map Int.ofNat) (c.map Int.ofNat)) : Gives (callL env 9 [.lst (byts (encB s a c))] []) fun r => snap .any depth r.2 r.1 = some (.tup [.agg [.int .i64 s, trV a, trV c], .int .i64 0]) := by
  apply gives_call
  have hE := h
  obtain ⟨⟨h1, h2⟩, h3, h4, h5, h6⟩ := h
  have h5' : ∀ k, k < a.length → nth 0 a k < 4096 := fun k hk => by have := h5 k (by simpa using hk); rw [nth_map] at this; omega
  have h6' : ∀ k, k < c.length → nth 0 c k < 96 := fun k hk => by have := h6 k (by simpa using hk); rw [nth_map] at this; omega
  simp at h3 h4
  obtain ⟨b0, b1, b2, b3, b4⟩ := encB_nth s a c
  have bl := encB_len s a c
  have i0 : ∀ h, indexAddrA env 39 h (.lst (byts (encB s a c))) (.int .i64 0) = some (.iptr (.int .u8 (s : Int)) 0) := fun h => by
    rw [index_byts _ _ _ (by omega) (by omega), show (0 : Int).toNat = 0 from rfl, b0]
  have i1 : ∀ h, indexAddrA env 39 h (.lst (byts (encB s a c))) (.int .i64 1) = some (.iptr (.int .u8 (a.length : Int)) 0) := fun h => by
    rw [index_byts _ _ _ (by omega) (by omega), show (1 : Int).toNat = 1 from rfl, b1]
  have i2 : ∀ h, indexAddrA env 39 h (.lst (byts (encB s a c))) (.int .i64 (2 + 2 * (a.length : Int))) = some (.iptr (.int .u8 (c.length : Int)) 0) := fun h => by
    rw [index_byts _ _ _ (by omega) (by omega), show (2 + 2 * (a.length : Int)).toNat = 2 + 2 * a.length by omega, b3]
  have w0 : IntKind.i64.wrap (s : Int) = (s : Int) := wrapI (by omega) (by omega)
  have w1 : IntKind.i64.wrap (a.length : Int) = (a.length : Int) := wrapI (by omega) (by omega)
  have w2 : IntKind.i64.wrap (c.length : Int) = (c.length : Int) := wrapI (by omega) (by omega)
  have hlen : ((byts (encB s a c)).length : Int) = 3 + 2 * (a.length : Int) + c.length := by rw [byts_length, bl]; omega
  have d1 : decide (3 + 2 * (a.length : Int) + (c.length : Int) < 2) = false := decF (by omega)
  have d2 : decide (3 + 2 * (a.length : Int) + (c.length : Int) < 3 + 2 * (a.length : Int)) = false := decF (by omega)
  have d3 : decide (3 + 2 * (a.length : Int) + (c.length : Int) < 2 + 2 * (a.length : Int) + 1 + c.length) = false := decF (by omega)
  have d4 : decide (2 + 2 * (a.length : Int) + 1 + c.length < 3 + 2 * (a.length : Int) + (c.length : Int)) = false := decF (by omega)
  have d5 : ¬ (3 + 2 * (a.length : Int) < 2 + 2 * (a.length : Int) + 1) := by omega
  have d6 : ¬ (2 + 2 * (a.length : Int) + 1 < 3 + 2 * (a.length : Int)) := by omega
  have hsl := fun h => slice_chain s a c h
  simp (disch := omega) [Tryz.f9, hlen, i0, i1, i2, w0, w1, w2, wrapI, conv_int k5 k3, d1, d2, d3, d4, d5, d6, -byts_length]
  generalize hx : loopL env _ _ _ = X
  apply gives_cut hx
  clear hx
  refine dec_loop0 (s := s) (c := c) h3 h5' _ _ a.length 0 2 _ _ (by omega) rfl rfl (by omega) (fun h => absurd rfl h) ?_ ?_ ?_ ?_ (fun sl' H' p f1 f2 f3 f4 f5 => ?_)
  · simp
  · simp
  · simp
  · simp
  · have k0 : getS sl' (.tup []) 0 = .lst (byts (encB s a c)) := f5.get (by simp) (by simp)
    have k2 : getS sl' (.tup []) 2 = .ptr 0 1 0 0 := f5.get (by simp) (by simp)
    have k5 : getS sl' (.tup []) 5 = .int .i64 (2 + 2 * (a.length : Int)) := f5.get (by simp) (by simp)
    have k8 : getS sl' (.tup []) 8 = .ptr 1 1 0 0 := f5.get (by simp) (by simp)
    simp (disch := omega) [k0, k5, hsl, wrapI]
    generalize hx : loopL env _ _ _ = X
    apply gives_cut hx
    clear hx
    refine dec_loop1 (s := s) h4 h6' _ (trk p (a.map Int.ofNat)) p (a ≠ []) _ _ c.length 0 (p + 1) _ _ (by omega) f1 f2 (by omega) f3 (fun h => absurd rfl h) (fun hne => ⟨f4 hne, fun h => absurd rfl h⟩) ?_ ?_ ?_ ?_ (fun sl2 K q g1 g2 g3 g4 g5 g6 => ?_)
    · simp [k8]
    · simp
    · simp
    · simp
    · have j2 : getS sl2 (.tup []) 2 = .ptr 0 1 0 0 := g6.get (by simp [k2]) (by simp)
      have j8 : getS sl2 (.tup []) 8 = .ptr 1 1 0 0 := g6.get (by simp [k8]) (by simp)
      have cc := c22R hE p q K g5 g4
      have hK0 : ∀ e, (K.set 0 e)[0]? = some e := fun e => List.getElem?_set_self (List.getElem?_eq_some_iff.1 g1).1
      simp (disch := omega) [j2, j8, g1, g2, cc, trk_one, hK0, -getElem?_pos]
      generalize hG : K.set 0 (.row false 3 [.agg [.int .i64 s, trk p (a.map Int.ofNat), trk q (c.map Int.ofNat)]]) = G
      have hGe : ∀ r, 0 < r → G[r]? = K[r]? := fun r hr => by rw [← hG, List.getElem?_set_ne (by omega)]
      have e1 : snap .any 10 G (trk p (a.map Int.ofNat)) = some (trV a) := snap_trk (d := 8) fun hne => by rw [hGe p (by omega)]; exact g5 (by simpa using hne)
      have e2 : snap .any 10 G (trk q (c.map Int.ofNat)) = some (trV c) := snap_trk (d := 8) fun hne => by rw [hGe q (by omega)]; exact g4 (by simpa using hne)
      have e3 : snap .any 11 G (.agg [.int .i64 s, trk p (a.map Int.ofNat), trk q (c.map Int.ofNat)]) = some (.agg [.int .i64 s, trV a, trV c]) := by
        show (List.mapM (snap .any 10 G) _).map AV.agg = _
        simp only [List.mapM_cons, List.mapM_nil, e1, e2]
        rfl
      show (List.mapM (snap .any 11 G) _).map AV.tup = _
      simp only [List.mapM_cons, List.mapM_nil, e3]
      rfl
theorem c9 {s : Nat} {a c : List Nat} (h : Enc s (a.map Int.ofNat) (c.map Int.ofNat)) (hp : Heap) : callN env (callL env) 9 [.lst (byts (encB s a c))] hp = some (.tup [.agg [.int .i64 s, trV a, trV c], .int .i64 0], hp) := by
  obtain ⟨r, hr, hv⟩ := gives_iff.1 (decode_ok h)
  exact callF rfl (by simp [Abs.freeze, depth]) (by simp [snap, depth]) hr hv
end Rival

/- TopRival: leastcode.Bound of a witness. -/
open Go Go.Proofs Go.Abs
namespace Rival
theorem pl24_0 : plainD env (dr Tryz.f24 0) = true := by kernel_rfl
set_option maxRecDepth 100000 in
set_option maxHeartbeats 4000000 in
theorem bound_loop0 {l : List It} {w : Int} (hf : Fine l w) {v : List Int} {c : List Nat} (hc32 : c.length ≤ 32) (hlt : ∀ i, i < c.length → nth 0 c i < l.length) (hlk : ∀ i, i + 1 < c.length → Asks l v (nth 0 c i) (nth 0 c (i + 1))) {vc : AV} (sc : SlV vc (c.map Int.ofNat)) (tl : Heap) (Q : Out → Prop) : ∀ (n i : Nat) (sl : List (Nat × AV)), i + n = c.length →
    getS sl (.tup []) 1 = vc → getS sl (.tup []) 2 = .ptr 0 1 0 0 → getS sl (.tup []) 7 = .lst (tabV (kTab l)) → getS sl (.tup []) 22 = vc → getS sl (.tup []) 23 = .int .i64 c.length → getS sl (.tup []) 24 = .int .i64 i →
    (∀ sl', Keep [1, 2, 7] sl sl' → Q (.exit 0 ⟨99, .tup [], sl', []⟩ (.row false 2 [jobV l w] :: tl))) →
    Gives (loopL env (lp Tryz.f24 0) ⟨99, .tup [], sl, []⟩ (.row false 2 [jobV l w] :: tl)) Q := by
  have hl := hf.len
  intro n
  induction n with
  | zero =>
    intro i sl hi g1 g2 g7 g22 g23 g24 q
    refine gives_loop ?_
    simp (disch := omega) [lp, Tryz.f24, loops, g23, g24, decF]
    exact q _ (by repeat (first | exact Keep.refl _ _ | refine Keep.put ?_ (by decide)))
  | succ n ih =>
    intro i sl hi g1 g2 g7 g22 g23 g24 q
    have hx := hlt i (by omega)
    have ix : ∀ h, indexAddrA env 25 h vc (.int .i64 i) = some (.iptr (.int .i64 (nth 0 c i : Nat)) 0) := fun h => by
      have := sc.index h (k := i) (by simp; omega)
      rwa [nth_map] at this
    refine gives_loop ?_
    by_cases h0 : 0 < i
    · have hz := hlt (i - 1) (by omega)
      have hk := hlk (i - 1) (by omega)
      rw [show i - 1 + 1 = i by omega] at hk
      have ix2 : ∀ h, indexAddrA env 25 h vc (.int .i64 ((i - 1 : Nat) : Int)) = some (.iptr (.int .i64 (nth 0 c (i - 1) : Nat)) 0) := fun h => by
        have := sc.index h (k := i - 1) (by simp; omega)
        rwa [nth_map] at this
      have e1 : ((i : Int) - 1) = ((i - 1 : Nat) : Int) := by omega
      have r1 := fun h => index_ktab l (nth 0 c (i - 1)) h hz
      have r2 := fun h => index_krow l (nth 0 c (i - 1)) (nth 0 c i) h hx
      have hkp := hk.2.1
      generalize nth 0 c i = y at *
      generalize nth 0 c (i - 1) = z at *
      have hy1 : decide ((y : Int) < 0) = false := decF (by omega)
      have hy2 : ¬ l.length ≤ y := by omega
      have hk0 : ¬ kindV l z y = 0 := by omega
      simp (disch := omega) [lp, Tryz.f24, loops, g1, g2, g7, g22, g23, g24, decT, wrapI, ix, ix2, e1, r1, r2, h0, hy1, hy2, hk0, jobV]
      refine ih (i + 1) _ (by omega) ?_ ?_ ?_ ?_ ?_ ?_ (fun sl' h => q sl' (Keep.trans ?_ h))
      · simp [g1]
      · simp [g2]
      · simp [g7]
      · simp [g22]
      · simp [g23]
      · simp
      · repeat (first | exact Keep.refl _ _ | refine Keep.put ?_ (by decide))
    · generalize nth 0 c i = y at *
      have hy1 : decide ((y : Int) < 0) = false := decF (by omega)
      have hy2 : ¬ l.length ≤ y := by omega
      simp (disch := omega) [lp, Tryz.f24, loops, g1, g2, g7, g22, g23, g24, decT, wrapI, ix, h0, hy1, hy2, jobV]
      refine ih (i + 1) _ (by omega) ?_ ?_ ?_ ?_ ?_ ?_ (fun sl' h => q sl' (Keep.trans ?_ h))
      · simp [g1]
      · simp [g2]
      · simp [g7]
      · simp [g22]
      · simp [g23]
      · simp
      · repeat (first | exact Keep.refl _ _ | refine Keep.put ?_ (by decide))
/-- How far the bound came. -/
def bnd (v : List Int) (c : List Nat) : Nat → Int
  | 0 => 0
  | i + 1 => nth 0 v (nth 0 c i)
set_option maxRecDepth 100000 in
set_option maxHeartbeats 4000000 in
theorem bound_loop1 {l : List It} {w : Int} (hf : Fine l w) {v : List Int} (hs : Sol l w v) (hr : ∀ k, 0 ≤ nth 0 v k ∧ nth 0 v k ≤ 4095) {c : List Nat} (hc32 : c.length ≤ 32) (hlt : ∀ i, i < c.length → nth 0 c i < l.length) (hfst : 0 < c.length → baseV l v (nth 0 c 0) = 0) (hlk : ∀ i, i + 1 < c.length → Asks l v (nth 0 c i) (nth 0 c (i + 1))) {vc : AV} (sc : SlV vc (c.map Int.ofNat)) (tl : Heap) (Q : Out → Prop) : ∀ (n i : Nat) (sl : List (Nat × AV)), i + n = c.length →
    getS sl (.tup []) 1 = vc → getS sl (.tup []) 2 = .ptr 0 1 0 0 → getS sl (.tup []) 7 = .lst (tabV (kTab l)) → getS sl (.tup []) 10 = .int .i64 (bnd v c i) → getS sl (.tup []) 57 = vc → getS sl (.tup []) 58 = .int .i64 c.length → getS sl (.tup []) 59 = .int .i64 i →
    (∀ sl', getS sl' (.tup []) 10 = .int .i64 (bnd v c c.length) → Q (.exit 2 ⟨99, .tup [], sl', []⟩ (.row false 2 [jobV l w] :: tl))) →
    Gives (loopL env (lp Tryz.f24 1) ⟨99, .tup [], sl, []⟩ (.row false 2 [jobV l w] :: tl)) Q := by
  have p := pl24_0
  simp [dr, drs, Tryz.f24] at p
  have hl := hf.len
  intro n
  induction n with
  | zero =>
    intro i sl hi g1 g2 g7 g10 g57 g58 g59 q
    obtain rfl : i = c.length := by omega
    refine gives_loop ?_
    simp (disch := omega) [lp, Tryz.f24, loops, g58, g59, decF]
    exact q _ (by simp [g10])
  | succ n ih =>
    intro i sl hi g1 g2 g7 g10 g57 g58 g59 q
    have hx := hlt i (by omega)
    have ix : ∀ h, indexAddrA env 25 h vc (.int .i64 i) = some (.iptr (.int .i64 (nth 0 c i : Nat)) 0) := fun h => by
      have := sc.index h (k := i) (by simp; omega)
      rwa [nth_map] at this
    have hsol := hs.2 _ hx
    have hb1 : bnd v c (i + 1) = nth 0 v (nth 0 c i) := rfl
    refine gives_loop ?_
    by_cases h0 : 0 < i
    · have hz := hlt (i - 1) (by omega)
      have hk := hlk (i - 1) (by omega)
      rw [show i - 1 + 1 = i by omega] at hk
      have hb0 : bnd v c i = nth 0 v (nth 0 c (i - 1)) := by
        obtain ⟨j, rfl⟩ : ∃ j, i = j + 1 := ⟨i - 1, by omega⟩
        rfl
      have ix2 : ∀ h, indexAddrA env 25 h vc (.int .i64 ((i - 1 : Nat) : Int)) = some (.iptr (.int .i64 (nth 0 c (i - 1) : Nat)) 0) := fun h => by
        have := sc.index h (k := i - 1) (by simp; omega)
        rwa [nth_map] at this
      have e1 : ((i : Int) - 1) = ((i - 1 : Nat) : Int) := by omega
      have r1 := fun h => index_ktab l (nth 0 c (i - 1)) h hz
      have r2 := fun h => index_krow l (nth 0 c (i - 1)) (nth 0 c i) h hx
      obtain ⟨hk1, hk2, hk3⟩ := hk
      have hkc := kind_cases l (nth 0 c (i - 1)) (nth 0 c i)
      have hrz := hr (nth 0 c (i - 1))
      rw [hb0] at g10
      generalize nth 0 c i = y at *
      generalize nth 0 c (i - 1) = z at *
      generalize kindV l z y = k at *
      have em : nth 0 v z + (k - 1) = baseV l v y := by omega
      simp (disch := omega) [lp, Tryz.f24, loops, g1, g2, g7, g10, g57, g58, g59, decT, wrapI, ix, ix2, e1, r1, r2, h0, em, regionD_plain p, index_its, hsol, jobV]
      refine ih (i + 1) _ (by omega) ?_ ?_ ?_ ?_ ?_ ?_ ?_ q
      · simp [g1]
      · simp [g2]
      · simp [g7]
      · simp [hb1]
      · simp [g57]
      · simp [g58]
      · simp
    · obtain rfl : i = 0 := by omega
      have hb0 := hfst (by omega)
      rw [hb0] at hsol
      have g10' : getS sl (.tup []) 10 = .int .i64 0 := g10
      generalize nth 0 c 0 = y at *
      have ix0 : ∀ h, indexAddrA env 25 h vc (.int .i64 0) = some (.iptr (.int .i64 (y : Int)) 0) := ix
      simp (disch := omega) [lp, Tryz.f24, loops, g1, g2, g7, g10', g57, g58, g59, decT, wrapI, ix0, regionD_plain p, index_its, hsol, jobV]
      refine ih (0 + 1) _ (by omega) ?_ ?_ ?_ ?_ ?_ ?_ ?_ q
      · simp [g1]
      · simp [g2]
      · simp [g7]
      · simp [hb1]
      · simp [g57]
      · simp [g58]
      · simp
set_option maxRecDepth 100000 in
set_option maxHeartbeats 4000000 in
theorem bound_ok {l : List It} {w : Int} (h0 : vJob l w = 0) {v : List Int} (hs : Sol l w v) (hr : ∀ k, 0 ≤ nth 0 v k ∧ nth 0 v k ≤ 4095) {c : List Nat} (hw : (c = [] ∧ l = []) ∨ Wit l v c) {vc : AV} (sc : SlV vc (c.map Int.ofNat)) : Gives (callL env 24 [jobV l w, vc] []) fun r => r.1 = .tup [.int .i64 (bnd v c c.length), .int .i64 0] := by
  have hf := fine_of h0
  have hl := hf.len
  have hW : c.length ≤ 32 ∧ (∀ i, i < c.length → nth 0 c i < l.length) ∧ (0 < c.length → baseV l v (nth 0 c 0) = 0) ∧ ∀ i, i + 1 < c.length → Asks l v (nth 0 c i) (nth 0 c (i + 1)) := by
    rcases hw with ⟨rfl, _⟩ | h
    · simp
    · exact ⟨h.len, h.lt, fun _ => h.first, h.link⟩
  obtain ⟨w1, w2, w3, w4⟩ := hW
  apply gives_call
  have c1 := fun h => c30 l w (by omega) h
  have c2 := fun h => c32 l w hl h
  have lc := fun hp => sc.len hp
  rw [h0] at c1
  simp only [jobV] at c1 c2
  simp only [List.length_map] at lc
  simp (disch := omega) [Tryz.f24, jobV, c1, c2, lc, -lenA]
  generalize hx : loopL env _ _ _ = X
  apply gives_cut hx
  clear hx
  refine bound_loop0 hf (v := v) w1 w2 w4 sc _ _ c.length 0 _ (by omega) ?_ ?_ ?_ ?_ ?_ ?_ (fun sl' hk => ?_)
  · simp
  · simp
  · simp
  · simp
  · simp
  · simp
  · have k1 : getS sl' (.tup []) 1 = vc := hk.get (by simp) (by simp)
    have k2 : getS sl' (.tup []) 2 = .ptr 0 1 0 0 := hk.get (by simp) (by simp)
    have k7 : getS sl' (.tup []) 7 = .lst (tabV (kTab l)) := hk.get (by simp) (by simp)
    simp (disch := omega) [k1, lc, -lenA]
    generalize hx : loopL env _ _ _ = X
    apply gives_cut hx
    clear hx
    refine bound_loop1 hf hs hr w1 w2 w3 w4 sc _ _ c.length 0 _ (by omega) ?_ ?_ ?_ ?_ ?_ ?_ ?_ (fun sl2 hb => ?_)
    · simp [k1]
    · simp [k2]
    · simp [k7]
    · simp [bnd]
    · simp
    · simp
    · simp
    · simp [hb]
theorem c24 {l : List It} {w : Int} (h0 : vJob l w = 0) {v : List Int} (hs : Sol l w v) (hr : ∀ k, 0 ≤ nth 0 v k ∧ nth 0 v k ≤ 4095) {c : List Nat} (hw : (c = [] ∧ l = []) ∨ Wit l v c) {vc : AV} (sc : SlV vc (c.map Int.ofNat)) (h : Heap) : callN env (callL env) 24 [jobV l w, vc] h = some (.tup [.int .i64 (bnd v c c.length), .int .i64 0], h) := by
  obtain ⟨r, hr', h1⟩ := gives_iff.1 (bound_ok h0 hs hr hw sc)
  exact callE rfl (by simp [sc.closed, closed_job]) hr' (by rw [h1]; rfl) h
end Rival
