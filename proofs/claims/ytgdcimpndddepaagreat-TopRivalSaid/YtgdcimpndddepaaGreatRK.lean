/- TopRival: Encode. -/
import Derived.Test.YtgdcimpndddepaaGreatRJ
/- TopRival: certificate's check and Encode. -/
open Go Go.Proofs Go.Abs
namespace Rival
theorem SlV.len {v : AV} {a : List Int} (h : SlV v a) (hp : Heap) : lenA hp (.slice 3) v = some (a.length : Int) := by cases h <;> simp [lenA]
theorem SlV.index {v : AV} {a : List Int} (h : SlV v a) (hp : Heap) {k : Nat} (hk : k < a.length) : indexAddrA env 25 hp v (.int .i64 k) = some (.iptr (.int .i64 (nth 0 a k)) 0) := by
  cases h with
  | lst => exact index_ints a k hp (by omega) (by omega)
  | nil => simp at hk
theorem SlV.cells {v : AV} {a : List Int} (h : SlV v a) : v.cells = [v] ∧ v.solid = true ∧ v.one = true ∧ loadE false 1 v 0 = some v := by cases h <;> exact ⟨rfl, rfl, rfl, rfl⟩
set_option maxRecDepth 100000 in
set_option maxHeartbeats 4000000 in
theorem check_loop0 {va : AV} {a : List Int} (sa : SlV va a) (ha : a.length ≤ 96) (hr : ∀ k, k < a.length → 0 ≤ nth 0 a k ∧ nth 0 a k < 4096) (H : Heap) (Q : Out → Prop) : ∀ (n i : Nat) (sl : List (Nat × AV)), i + n = a.length →
    getS sl (.tup []) 30 = va → getS sl (.tup []) 31 = .int .i64 a.length → getS sl (.tup []) 32 = .int .i64 i →
    (∀ sl', Keep [1] sl sl' → Q (.exit 0 ⟨57, .tup [], sl', []⟩ H)) →
    Gives (loopL env (lp Tryz.f22 0) ⟨57, .tup [], sl, []⟩ H) Q := by
  intro n
  induction n with
  | zero =>
    intro i sl hi g30 g31 g32 q
    refine gives_loop ?_
    simp (disch := omega) [lp, Tryz.f22, loops, g31, g32, decF]
    exact q _ (by repeat (first | exact Keep.refl _ _ | refine Keep.put ?_ (by decide)))
  | succ n ih =>
    intro i sl hi g30 g31 g32 q
    have hri := hr i (by omega)
    have ix := fun h => sa.index h (k := i) (by omega)
    have h1 : ¬ nth 0 a i < 0 := by omega
    have h2 : ¬ 4096 ≤ nth 0 a i := by omega
    refine gives_loop ?_
    simp (disch := omega) [lp, Tryz.f22, loops, g30, g31, g32, decT, wrapI, ix, h1, h2]
    refine ih (i + 1) _ (by omega) ?_ ?_ ?_ (fun sl' h => q sl' (Keep.trans ?_ h))
    · simp [g30]
    · simp [g31]
    · simp
    · repeat (first | exact Keep.refl _ _ | refine Keep.put ?_ (by decide))
set_option maxRecDepth 100000 in
set_option maxHeartbeats 4000000 in
theorem check_loop1 {va : AV} {a : List Int} (sa : SlV va a) (ha : a.length ≤ 96) (hr : ∀ k, k < a.length → 0 ≤ nth 0 a k ∧ nth 0 a k < 96) (H : Heap) (Q : Out → Prop) : ∀ (n i : Nat) (sl : List (Nat × AV)), i + n = a.length →
    getS sl (.tup []) 44 = va → getS sl (.tup []) 45 = .int .i64 a.length → getS sl (.tup []) 46 = .int .i64 i →
    (∀ sl', Q (.exit 2 ⟨57, .tup [], sl', []⟩ H)) →
    Gives (loopL env (lp Tryz.f22 1) ⟨57, .tup [], sl, []⟩ H) Q := by
  intro n
  induction n with
  | zero =>
    intro i sl hi g30 g31 g32 q
    refine gives_loop ?_
    simp (disch := omega) [lp, Tryz.f22, loops, g31, g32, decF]
    exact q _
  | succ n ih =>
    intro i sl hi g30 g31 g32 q
    have hri := hr i (by omega)
    have ix := fun h => sa.index h (k := i) (by omega)
    have h1 : ¬ nth 0 a i < 0 := by omega
    have h2 : ¬ 96 ≤ nth 0 a i := by omega
    refine gives_loop ?_
    simp (disch := omega) [lp, Tryz.f22, loops, g30, g31, g32, decT, wrapI, ix, h1, h2]
    refine ih (i + 1) _ (by omega) ?_ ?_ ?_ q
    · simp [g30]
    · simp [g31]
    · simp
/-- A proof that may be encoded. -/
structure Enc (s : Int) (a c : List Int) : Prop where
  s12 : 0 ≤ s ∧ s ≤ 12
  la : a.length ≤ 96
  lc : c.length ≤ 96
  ra : ∀ k, k < a.length → 0 ≤ nth 0 a k ∧ nth 0 a k < 4096
  rc : ∀ k, k < c.length → 0 ≤ nth 0 c k ∧ nth 0 c k < 96
set_option maxRecDepth 100000 in
set_option maxHeartbeats 4000000 in
theorem check_ok {s : Int} {va vc : AV} {a c : List Int} (sa : SlV va a) (sc : SlV vc c) (h : Enc s a c) : Gives (callL env 22 [.agg [.int .i64 s, va, vc]] []) fun r => r.1 = .int .i64 0 := by
  apply gives_call
  obtain ⟨⟨h1, h2⟩, h3, h4, h5, h6⟩ := h
  have la := fun hp => sa.len hp
  have lc := fun hp => sc.len hp
  obtain ⟨a1, a2, a3, a4⟩ := sa.cells
  obtain ⟨c1, c2, c3, c4⟩ := sc.cells
  have d1 : decide ((96 : Int) < a.length) = false := decF (by omega)
  have d2 : decide ((96 : Int) < c.length) = false := decF (by omega)
  have d3 : ¬ s < 0 := by omega
  have d4 : ¬ 12 < s := by omega
  simp (disch := omega) [Tryz.f22, la, lc, d1, d2, d3, d4, -lenA]
  generalize hx : loopL env _ _ _ = X
  apply gives_cut hx
  clear hx
  refine check_loop0 sa h3 h5 _ _ a.length 0 _ (by omega) ?_ ?_ ?_ (fun sl' hk => ?_)
  · simp
  · simp
  · simp
  · have k1 : getS sl' (.tup []) 1 = .ptr 0 1 0 0 := hk.get (by simp) (by simp)
    simp (disch := omega) [k1, lc, -lenA]
    generalize hx : loopL env _ _ _ = X
    apply gives_cut hx
    clear hx
    refine check_loop1 sc h4 h6 _ _ c.length 0 _ (by omega) ?_ ?_ ?_ (fun sl' => ?_)
    · simp
    · simp
    · simp
    · simp
theorem c22 {s : Int} {va vc : AV} {a c : List Int} (sa : SlV va a) (sc : SlV vc c) (h : Enc s a c) (hp : Heap) : callN env (callL env) 22 [.agg [.int .i64 s, va, vc]] hp = some (.int .i64 0, hp) := by
  obtain ⟨r, hr, h1⟩ := gives_iff.1 (check_ok sa sc h)
  exact callE rfl (by cases sa <;> cases sc <;> simp [closed?, depth]) hr (by rw [h1]; rfl) hp
/-- The bytes of some codes. -/
def codeB (a : List Nat) : List Nat := a.flatMap fun k => [k / 256, k % 256]
theorem byts_append (a b : List Nat) : byts a ++ byts b = byts (a ++ b) := by simp [byts]
theorem byts_all1 (l : List Nat) : allOne (byts l) = true := by simp [allOne, byts]
theorem byts_pair (bs : List Nat) (x y : Nat) : byts bs ++ [.int .u8 (x : Nat), .int .u8 (y : Nat)] = byts (bs ++ [x, y]) := by simp [byts]
theorem byts_one (bs : List Nat) (x : Nat) : byts bs ++ [.int .u8 (x : Nat)] = byts (bs ++ [x]) := by simp [byts]
set_option maxRecDepth 100000 in
set_option maxHeartbeats 4000000 in
theorem enc_loop0 {a : List Nat} (ha : a.length ≤ 96) (hr : ∀ k, k < a.length → nth 0 a k < 4096) (e0 e1 : Ent) (Q : Out → Prop) : ∀ (n i : Nat) (bs : List Nat) (tl : Heap) (sl : List (Nat × AV)), i + n = a.length → bs.length + 2 * n ≤ 1000 →
    getS sl (.tup []) 5 = .ref 2 bs.length 0 bs.length → getS sl (.tup []) 27 = .lst (ints (a.map Int.ofNat)) → getS sl (.tup []) 28 = .int .i64 a.length → getS sl (.tup []) 29 = .int .i64 i →
    (∀ sl' tl', Keep [1] sl sl' → getS sl' (.tup []) 5 = .ref 2 (bs ++ codeB (a.drop i)).length 0 (bs ++ codeB (a.drop i)).length → Q (.exit 0 ⟨63, .tup [], sl', []⟩ (e0 :: e1 :: .row false 1 (byts (bs ++ codeB (a.drop i))) :: tl'))) →
    Gives (loopL env (lp Tryz.f8 0) ⟨63, .tup [], sl, []⟩ (e0 :: e1 :: .row false 1 (byts bs) :: tl)) Q := by
  intro n
  induction n with
  | zero =>
    intro i bs tl sl hi hb g5 g27 g28 g29 q
    have hd : a.drop i = [] := List.drop_of_length_le (by omega)
    rw [hd] at q
    refine gives_loop ?_
    simp (disch := omega) [lp, Tryz.f8, loops, g28, g29, decF]
    have q' := fun sl' => q sl' tl
    simp only [codeB, List.flatMap_nil, List.append_nil] at q'
    exact q' _ (by repeat (first | exact Keep.refl _ _ | refine Keep.put ?_ (by decide))) (by simp [g5])
  | succ n ih =>
    intro i bs tl sl hi hb g5 g27 g28 g29 q
    have hri := hr i (by omega)
    have hlt : i < a.length := by omega
    have hd : a.drop i = nth 0 a i :: a.drop (i + 1) := by
      rw [List.drop_eq_getElem_cons hlt]
      congr 1
      rw [nth_getD, List.getD_eq_getElem?_getD, List.getElem?_eq_getElem hlt]
      rfl
    rw [hd] at q
    have ix : ∀ h, indexAddrA env 25 h (.lst (ints (a.map Int.ofNat))) (.int .i64 i) = some (.iptr (.int .i64 (nth 0 a i : Nat)) 0) := fun h => by
      have := index_ints (a.map Int.ofNat) i h (by omega) (by simp; omega)
      rw [show (i : Int).toNat = i from rfl, nth_map] at this
      exact this
    generalize nth 0 a i = k at *
    have e2 : ∀ k', binA env .shr 3 (.int .i64 k) (.int k' 8) = some (.int .i64 ((k / 256 : Nat) : Int)) := fun k' => by
      rw [bin_shr, ← bin_shr (E := env) 3 .i64 k 8 .i64]
      have := bin_shrN (E := env) 3 k 8 (by omega)
      rw [Nat.shiftRight_eq_div_pow] at this
      exact this
    have w1 : IntKind.u8.wrap ((k / 256 : Nat) : Int) = ((k / 256 : Nat) : Int) := by rw [wrap8, Nat.mod_eq_of_lt (by omega)]
    have w2 : IntKind.u8.wrap (k : Int) = ((k % 256 : Nat) : Int) := wrap8 k
    have htk : List.take bs.length (byts bs) = byts bs := List.take_of_length_le (by simp)
    have hpair := byts_pair bs (k / 256) (k % 256)
    have hlen : (bs ++ [k / 256, k % 256]).length = bs.length + 2 := by simp
    have hcb : ∀ r, bs ++ codeB (k :: r) = (bs ++ [k / 256, k % 256]) ++ codeB r := fun r => by simp [codeB]
    rw [hcb] at q
    generalize hx : k / 256 = x at *
    generalize hy : k % 256 = y at *
    refine gives_loop ?_
    simp (disch := omega) [lp, Tryz.f8, loops, g5, g27, g28, g29, decT, wrapI, ix, e2, conv_int k3 k5, w1, w2, app39, htk, -bin_shr]
    rw [hpair]
    refine ih (i + 1) _ _ _ (by omega) (by rw [hlen]; omega) ?_ ?_ ?_ ?_ (fun sl' tl' h1 h2 => q sl' tl' (Keep.trans ?_ h1) h2)
    · simp
    · simp [g27]
    · simp [g28]
    · simp
    · repeat (first | exact Keep.refl _ _ | refine Keep.put ?_ (by decide))
set_option maxRecDepth 100000 in
set_option maxHeartbeats 4000000 in
theorem enc_loop1 {c : List Nat} (hc : c.length ≤ 96) (hr : ∀ k, k < c.length → nth 0 c k < 96) (e0 e1 : Ent) (Q : Out → Prop) : ∀ (n i : Nat) (bs : List Nat) (tl : Heap) (sl : List (Nat × AV)), i + n = c.length → bs.length + n ≤ 1000 →
    getS sl (.tup []) 5 = .ref 2 bs.length 0 bs.length → getS sl (.tup []) 50 = .lst (ints (c.map Int.ofNat)) → getS sl (.tup []) 51 = .int .i64 c.length → getS sl (.tup []) 52 = .int .i64 i →
    (∀ sl' tl', getS sl' (.tup []) 5 = .ref 2 (bs ++ c.drop i).length 0 (bs ++ c.drop i).length → Q (.exit 2 ⟨63, .tup [], sl', []⟩ (e0 :: e1 :: .row false 1 (byts (bs ++ c.drop i)) :: tl'))) →
    Gives (loopL env (lp Tryz.f8 1) ⟨63, .tup [], sl, []⟩ (e0 :: e1 :: .row false 1 (byts bs) :: tl)) Q := by
  intro n
  induction n with
  | zero =>
    intro i bs tl sl hi hb g5 g27 g28 g29 q
    have hd : c.drop i = [] := List.drop_of_length_le (by omega)
    rw [hd] at q
    refine gives_loop ?_
    simp (disch := omega) [lp, Tryz.f8, loops, g28, g29, decF]
    have q' := fun sl' => q sl' tl
    simp only [List.append_nil] at q'
    exact q' _ (by simp [g5])
  | succ n ih =>
    intro i bs tl sl hi hb g5 g27 g28 g29 q
    have hri := hr i (by omega)
    have hlt : i < c.length := by omega
    have hd : c.drop i = nth 0 c i :: c.drop (i + 1) := by
      rw [List.drop_eq_getElem_cons hlt]
      congr 1
      rw [nth_getD, List.getD_eq_getElem?_getD, List.getElem?_eq_getElem hlt]
      rfl
    rw [hd] at q
    have ix : ∀ h, indexAddrA env 25 h (.lst (ints (c.map Int.ofNat))) (.int .i64 i) = some (.iptr (.int .i64 (nth 0 c i : Nat)) 0) := fun h => by
      have := index_ints (c.map Int.ofNat) i h (by omega) (by simp; omega)
      rw [show (i : Int).toNat = i from rfl, nth_map] at this
      exact this
    generalize nth 0 c i = k at *
    have w1 : IntKind.u8.wrap (k : Int) = (k : Int) := by rw [wrap8, Nat.mod_eq_of_lt (by omega)]
    have htk : List.take bs.length (byts bs) = byts bs := List.take_of_length_le (by simp)
    have hone := byts_one bs k
    have hlen : (bs ++ [k]).length = bs.length + 1 := by simp
    have hcb : ∀ r, bs ++ (k :: r) = (bs ++ [k]) ++ r := fun r => by simp
    rw [hcb] at q
    refine gives_loop ?_
    simp (disch := omega) [lp, Tryz.f8, loops, g5, g27, g28, g29, decT, wrapI, ix, conv_int k3 k5, w1, app39, htk]
    rw [hone]
    refine ih (i + 1) _ _ _ (by omega) (by rw [hlen]; omega) ?_ ?_ ?_ ?_ q
    · simp
    · simp [g27]
    · simp [g28]
    · simp
/-- The bytes of a proof. -/
def encB (s : Nat) (a c : List Nat) : List Nat := [s, a.length] ++ codeB a ++ [c.length] ++ c
theorem codeB_len (a : List Nat) : (codeB a).length = 2 * a.length := by
  induction a with
  | nil => rfl
  | cons k a ih =>
    have : codeB (k :: a) = [k / 256, k % 256] ++ codeB a := by simp [codeB]
    rw [this]; simp [ih]; omega
set_option maxRecDepth 100000 in
set_option maxHeartbeats 4000000 in
theorem encode_ok {s : Nat} {a c : List Nat} (h : Enc s (a.map Int.ofNat) (c.map Int.ofNat)) : Gives (callL env 8 [proofV s (a.map Int.ofNat) (c.map Int.ofNat)] []) fun r => snap .any depth r.2 r.1 = some (.tup [.lst (byts (encB s a c)), .int .i64 0]) := by
  apply gives_call
  have cc := fun hp => c22 (.lst (a.map Int.ofNat)) (.lst (c.map Int.ofNat)) h hp
  obtain ⟨⟨h1, h2⟩, h3, h4, h5, h6⟩ := h
  have h5' : ∀ k, k < a.length → nth 0 a k < 4096 := fun k hk => by have := h5 k (by simpa using hk); rw [nth_map] at this; omega
  have h6' : ∀ k, k < c.length → nth 0 c k < 96 := fun k hk => by have := h6 k (by simpa using hk); rw [nth_map] at this; omega
  simp at h3 h4
  have w1 : IntKind.u8.wrap (s : Int) = (s : Int) := by rw [wrap8, Nat.mod_eq_of_lt (by omega)]
  have w2 : IntKind.u8.wrap (a.length : Int) = (a.length : Int) := by rw [wrap8, Nat.mod_eq_of_lt (by omega)]
  have w3 : IntKind.u8.wrap (c.length : Int) = (c.length : Int) := by rw [wrap8, Nat.mod_eq_of_lt (by omega)]
  simp (disch := omega) [Tryz.f8, proofV, cc, conv_int k3 k5, w1, w2]
  generalize hx : loopL env _ _ _ = X
  apply gives_cut hx
  clear hx
  have e0 : [AV.int .u8 (s : Int), .int .u8 (a.length : Int)] = byts [s, a.length] := rfl
  rw [e0]
  refine enc_loop0 h3 h5' _ _ _ a.length 0 [s, a.length] [] _ (by omega) (by simp; omega) ?_ ?_ ?_ ?_ (fun sl' tl' hk g5 => ?_)
  · simp
  · simp
  · simp
  · simp
  · rw [List.drop_zero] at g5 ⊢
    have k1 : getS sl' (.tup []) 1 = .ptr 0 1 0 0 := hk.get (by simp) (by simp)
    have hl := codeB_len a
    have hbl : ([s, a.length] ++ codeB a).length = 2 + 2 * a.length := by simp [hl]; omega
    have hcc : encB s a c = (([s, a.length] ++ codeB a) ++ [c.length]) ++ c := rfl
    rw [hcc]
    generalize [s, a.length] ++ codeB a = bs at *
    have htk : List.take bs.length (byts bs) = byts bs := List.take_of_length_le (by simp)
    simp (disch := omega) [k1, g5, conv_int k3 k5, w3, app39, htk]
    rw [byts_one]
    generalize hx : loopL env _ _ _ = X
    apply gives_cut hx
    clear hx
    refine enc_loop1 h4 h6' _ _ _ c.length 0 (bs ++ [c.length]) _ _ (by omega) (by simp; omega) ?_ ?_ ?_ ?_ (fun sl2 tl2 g2 => ?_)
    · simp
    · simp
    · simp
    · simp
    · rw [List.drop_zero] at g2 ⊢
      generalize hB : bs ++ [c.length] ++ c = bb at g2 ⊢
      have hB' : bs ++ c.length :: c = bb := by rw [← hB]; simp
      simp [g2, hB']
      show (List.mapM (snap .any 11 _) _).map AV.tup = _
      simp only [List.mapM_cons, List.mapM_nil]
      have e : ∀ H : Heap, H[2]? = some (.row false 1 (byts bb)) → snap .any 11 H (.ref 2 bb.length 0 bb.length) = some (.lst (byts bb)) := fun H hH => snap_rowM (by simp) hH (by simp) (snap_ints fun e he => by
        obtain ⟨x, _, rfl⟩ := List.mem_map.1 he
        exact ⟨_, _, rfl⟩)
      rw [e _ rfl]
      rfl
theorem c8 {s : Nat} {a c : List Nat} (h : Enc s (a.map Int.ofNat) (c.map Int.ofNat)) (hp : Heap) : callN env (callL env) 8 [proofV s (a.map Int.ofNat) (c.map Int.ofNat)] hp = some (.tup [.lst (byts (encB s a c)), .int .i64 0], hp) := by
  obtain ⟨r, hr, hv⟩ := gives_iff.1 (encode_ok h)
  exact callF rfl (by simp [Abs.freeze, depth, proofV]) (by simp [snap, depth, proofV]) hr hv
end Rival
