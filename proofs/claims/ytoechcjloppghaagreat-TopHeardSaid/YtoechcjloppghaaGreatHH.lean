/- TopHeard: wrong bits, lost words, groups, gaps. -/
import Derived.Test.YtoechcjloppghaaGreatHG
open Go Go.Proofs Go.Abs
namespace Heard
/-- Slots that stay as they are. -/
def Keep (ks : List Nat) (sl sl' : List (Nat × AV)) : Prop := ∀ t ∈ ks, getS sl' (.tup []) t = getS sl (.tup []) t
theorem Keep.trans {ks : List Nat} {a b c : List (Nat × AV)} (h : Keep ks a b) (g : Keep ks b c) : Keep ks a c := fun t ht => (g t ht).trans (h t ht)
theorem Keep.refl (ks : List Nat) (a : List (Nat × AV)) : Keep ks a a := fun _ _ => rfl
theorem Keep.get {ks : List Nat} {sl sl' : List (Nat × AV)} (h : Keep ks sl sl') {t : Nat} {v : AV} (hg : getS sl (.tup []) t = v) (ht : t ∈ ks) : getS sl' (.tup []) t = v := (h t ht).trans hg
theorem idx24 {H : Heap} {b n : Nat} {ro : Bool} {es : List AV} (hb : H[b]? = some (.row ro 1 es)) (hl : es.length = n) (i : Nat) (hi : i < n) : indexAddrA env 24 H (.ref b n 0 n) (.int .i64 i) = some (.ptr b n i 0) := by
  unfold indexAddrA
  have h1 : (i : Int) < n := by omega
  simp only [k24, envti, ti5, hb, hl, h1, Int.natCast_nonneg, and_self, if_true, Nat.zero_add, Int.toNat_natCast]
theorem k33 : kd env 33 = some (.slice 4) := by simp [kd]
theorem idx33 {H : Heap} {b n : Nat} {ro : Bool} {es : List AV} (hb : H[b]? = some (.row ro 1 es)) (hl : es.length = n) (i : Nat) (hi : i < n) : indexAddrA env 33 H (.ref b n 0 n) (.int .i64 i) = some (.ptr b n i 0) := by
  unfold indexAddrA
  have h1 : (i : Int) < n := by omega
  simp only [k33, envti, ti4, hb, hl, h1, Int.natCast_nonneg, and_self, if_true, Nat.zero_add, Int.toNat_natCast]
theorem byts_get (l : List Nat) (x : Nat) (hx : x < l.length) : (byts l)[x]? = some (.int .u8 ((nth 0 l x : Nat) : Int)) := by
  simp [byts, nth_getD, List.getD_eq_getElem?_getD, hx]
theorem byts_set (l : List Nat) (x v : Nat) : (byts l).set x (.int .u8 v) = byts (l.set x v) := by
  simp only [byts, List.map_set]
theorem nth_set (l : List Nat) (x v y : Nat) (hx : x < l.length) : nth 0 (l.set x v) y = if y = x then v else nth 0 l y := by
  rw [nth_getD, nth_getD, List.getD_eq_getElem?_getD, List.getD_eq_getElem?_getD, List.getElem?_set]
  by_cases h : x = y
  · subst h; simp [hx]
  · simp [h, Ne.symm h]
theorem shl_u8 (m : Nat) (hm : m < 8) : binA env .shl 5 (.int .u8 1) (.int .i64 m) = some (.int .u8 ((1 <<< m : Nat) : Int)) := by
  match m, hm with
  | 0, _ | 1, _ | 2, _ | 3, _ | 4, _ | 5, _ | 6, _ | 7, _ => rfl
theorem xor_u8 (x y : Nat) (hx : x < 256) (hy : y < 256) : binA env .xor 5 (.int .u8 x) (.int .u8 y) = some (.int .u8 ((x ^^^ y : Nat) : Int)) := by
  have h : x ^^^ y < 256 := Nat.xor_lt_two_pow (n := 8) hx hy
  rw [bin_xor]
  have e1 : (BitVec.ofInt IntKind.u8.bits (x : Int)).toNat = x := by
    show (BitVec.ofInt 8 (x : Int)).toNat = x
    simp [BitVec.toNat_ofInt]; omega
  have e2 : (BitVec.ofInt IntKind.u8.bits (y : Int)).toNat = y := by
    show (BitVec.ofInt 8 (y : Int)).toNat = y
    simp [BitVec.toNat_ofInt]; omega
  rw [BitVec.toNat_xor, e1, e2, wrap8, Nat.mod_eq_of_lt h]
theorem xor256 (x z y u : Nat) (hz : z < 256) (hu : u < 256) : (x * 256 + z) ^^^ (y * 256 + u) = (x ^^^ y) * 256 + (z ^^^ u) := by
  have hzu : z ^^^ u < 256 := Nat.xor_lt_two_pow (n := 8) hz hu
  have h1 : ((x * 256 + z) ^^^ (y * 256 + u)) / 2 ^ 8 = x ^^^ y := by
    rw [← Nat.shiftRight_eq_div_pow, Nat.shiftRight_xor_distrib, Nat.shiftRight_eq_div_pow, Nat.shiftRight_eq_div_pow]
    congr 1 <;> omega
  have h2 : ((x * 256 + z) ^^^ (y * 256 + u)) % 2 ^ 8 = z ^^^ u := by
    rw [Nat.xor_mod_two_pow]
    congr 1 <;> omega
  omega
/-- A word with at most one wrong bit. -/
def Fl1 (x y : Nat) : Prop := y = x ∨ ∃ k, k < 16 ∧ y = x ^^^ (1 <<< k)
/-- A word with two wrong bits. -/
def Fl2 (x y : Nat) : Prop := ∃ k l, k < 16 ∧ l < 16 ∧ k ≠ l ∧ y = (x ^^^ (1 <<< k)) ^^^ (1 <<< l)
theorem flip_lo (x y k : Nat) (hy : y < 256) (hk : k < 8) : x * 256 + (y ^^^ (1 <<< k)) = (x * 256 + y) ^^^ (1 <<< k) := by
  have h1 : 1 <<< k < 256 := by
    match k, hk with
    | 0, _ | 1, _ | 2, _ | 3, _ | 4, _ | 5, _ | 6, _ | 7, _ => decide
  have := xor256 x y 0 (1 <<< k) hy h1
  rw [Nat.zero_mul, Nat.zero_add, Nat.xor_zero] at this
  exact this.symm
theorem flip_hi (x y k : Nat) (hy : y < 256) : (x ^^^ (1 <<< k)) * 256 + y = (x * 256 + y) ^^^ (1 <<< (k + 8)) := by
  have := xor256 x y (1 <<< k) 0 hy (by omega)
  rw [Nat.add_zero, Nat.xor_zero] at this
  rw [← this]
  congr 1
  rw [Nat.shiftLeft_eq, Nat.shiftLeft_eq, Nat.pow_add]
  omega
theorem set_lt {l : List Nat} (h : ∀ x ∈ l, x < 256) {i v : Nat} (hv : v < 256) : ∀ x ∈ l.set i v, x < 256 := fun x hx => by
  rcases List.mem_or_eq_of_mem_set hx with hx | rfl
  · exact h x hx
  · exact hv
theorem pl3_0 : plainD env (dr Tryz.f3 0) = true := by kernel_rfl
def ks0 : List Nat := [0, 1, 2, 3, 4, 11, 14, 15]
set_option maxHeartbeats 4000000 in
set_option maxRecDepth 100000 in
theorem flip_loop (bits : List Int) (hbl : bits.length < 2 ^ 50) (W : Nat) (hW : W ≤ 65536) (msg : List Nat) (Q : Out → Prop) : ∀ (k i : Nat) (fl : List Nat) (sl : List (Nat × AV)), i + k = W → fl.length = 2 * W → (∀ x ∈ fl, x < 256) → (∀ w, w < W → Fl1 (w2 msg (2 * w)) (w2 fl (2 * w))) → (∀ w, i ≤ w → w < W → w2 fl (2 * w) = w2 msg (2 * w)) →
    getS sl (.tup []) 1 = .lst (ints bits) → getS sl (.tup []) 14 = .int .i64 W → getS sl (.tup []) 15 = .ref 0 (2 * W) 0 (2 * W) → getS sl (.tup []) 16 = .int .i64 i →
    (∀ sl' fl', Keep ks0 sl sl' → fl'.length = 2 * W → (∀ x ∈ fl', x < 256) → (∀ w, w < W → Fl1 (w2 msg (2 * w)) (w2 fl' (2 * w))) → Q (.exit 0 ⟨432, .tup [], sl', []⟩ [Ent.row false 1 (byts fl')])) →
    Gives (loopL env (lp Tryz.f3 0) ⟨432, .tup [], sl, []⟩ [Ent.row false 1 (byts fl)]) Q := by
  have p0 := pl3_0
  simp only [dr, drs, Tryz.f3, List.append_nil, List.nil_append, List.cons_append, nth_zero, nth_succ] at p0
  intro k
  induction k with
  | zero =>
    intro i fl sl hi hl hb hf hs g1 g14 g15 g16 q
    obtain rfl : i = W := by omega
    refine gives_loop ?_
    simp (disch := omega) [lp, Tryz.f3, loops, g1, g14, g16, decF]
    exact q _ fl (by simp [Keep, ks0]) hl hb hf
  | succ k ih =>
    intro i fl sl hi hl hb hf hs g1 g14 g15 g16 q
    refine gives_loop ?_
    by_cases hb0 : bits.length = 0
    · simp (disch := omega) [lp, Tryz.f3, loops, g1, g14, g16, decT, hb0]
      exact q _ fl (by simp [Keep, ks0]) hl hb hf
    have hic : (i : Int) < W := by omega
    have hne : ¬ bits = [] := fun h => by simp [h] at hb0
    have hbp : (0 : Int) < bits.length := by omega
    have em : (i : Int) % (bits.length : Int) = ((i % bits.length : Nat) : Int) := by simp
    have hml : i % bits.length < bits.length := Nat.mod_lt _ (by omega)
    have ix := index_ints bits ((i % bits.length : Nat) : Int) [Ent.row false 1 (byts fl)] (by omega) (by omega)
    simp only [Int.toNat_natCast] at ix
    generalize hbit : nth 0 bits (i % bits.length) = bit at *
    rw [← em] at ix
    by_cases c1 : 0 ≤ bit
    case neg =>
      simp (disch := omega) [lp, Tryz.f3, loops, g1, g14, g15, g16, decT, decF, hic, hne, hbp, tmodN, ix, wrapI]
      exact ih (i + 1) fl _ (by omega) hl hb hf (fun w h1 h2 => hs w (by omega) h2) (by simp [g1]) (by simp [g14]) (by simp [g15]) (by simp) (fun sl' fl' kk => q sl' fl' (Keep.trans (by simp [Keep, ks0]) kk))
    by_cases c2 : bit < 16
    case neg =>
      simp (disch := omega) [lp, Tryz.f3, loops, g1, g14, g15, g16, decT, decF, hic, hne, hbp, tmodN, ix, wrapI]
      exact ih (i + 1) fl _ (by omega) hl hb hf (fun w h1 h2 => hs w (by omega) h2) (by simp [g1]) (by simp [g14]) (by simp [g15]) (by simp) (fun sl' fl' kk => q sl' fl' (Keep.trans (by simp [Keep, ks0]) kk))
    obtain ⟨bn, rfl⟩ := Int.eq_ofNat_of_zero_le c1
    obtain ⟨x, hx⟩ : ∃ x : Nat, x = 2 * i + 1 - bn / 8 := ⟨_, rfl⟩
    have hxI : 2 * (i : Int) + 1 - (bn : Int) / 8 = (x : Int) := by omega
    have hx1 : x < fl.length := by omega
    have f1 := shl_u8 (bn % 8) (by omega)
    have hz : 1 <<< (bn % 8) < 256 := by
      rw [Nat.shiftLeft_eq, Nat.one_mul]
      exact Nat.lt_of_le_of_lt (Nat.pow_le_pow_right (by omega) (by omega : bn % 8 ≤ 7)) (by decide)
    have hy := hb _ (mem_nth 0 fl x hx1)
    have f2 := xor_u8 (nth 0 fl x) (1 <<< (bn % 8)) hy hz
    have hu : nth 0 fl x ^^^ (1 <<< (bn % 8)) < 256 := Nat.xor_lt_two_pow (n := 8) hy hz
    have hB : ([Ent.row false 1 (byts fl)] : Heap)[0]? = some (.row false 1 (byts fl)) := rfl
    have r1 := idx24 hB (by simpa using hl) x (by omega)
    have r2 := ldP hB (by simpa using hl) (byts_get fl x hx1) rfl
    have r3 := stP (v := .int .u8 ((nth 0 fl x ^^^ (1 <<< (bn % 8)) : Nat) : Int)) hB (by simpa using hl) (byts_get fl x hx1) rfl rfl rfl
    rw [byts_set] at r3
    have hset : ([Ent.row false 1 (byts fl)] : Heap).set 0 (.row false 1 (byts (fl.set x (nth 0 fl x ^^^ (1 <<< (bn % 8)))))) = [Ent.row false 1 (byts (fl.set x (nth 0 fl x ^^^ (1 <<< (bn % 8)))))] := rfl
    rw [hset] at r3
    have hw2 : ∀ w, w < W → w2 (fl.set x (nth 0 fl x ^^^ (1 <<< (bn % 8)))) (2 * w) = if w = i then w2 fl (2 * i) ^^^ (1 <<< bn) else w2 fl (2 * w) := by
      intro w hw
      simp only [w2, nth_set _ _ _ _ hx1]
      by_cases hwi : w = i
      · subst hwi
        have b1 := hb _ (mem_nth 0 fl (2 * w + 1) (by omega))
        rw [if_pos rfl]
        by_cases h8 : bn < 8
        · have hxe : x = 2 * w + 1 := by omega
          have hbm : bn % 8 = bn := by omega
          rw [hxe, if_neg (by omega), if_pos rfl, hbm]
          exact flip_lo _ _ _ b1 h8
        · have hxe : x = 2 * w := by omega
          have hbm : bn = bn % 8 + 8 := by omega
          rw [hxe, if_pos rfl, if_neg (by omega), flip_hi _ _ _ b1, ← hbm]
      · rw [if_neg (by omega), if_neg (by omega), if_neg hwi]
    have e6 : (bn : Int) % 8 = ((bn % 8 : Nat) : Int) := by simp
    rw [← e6] at f1
    generalize nth 0 fl x ^^^ (1 <<< (bn % 8)) = u at *
    generalize (1 <<< (bn % 8)) = z at *
    simp (disch := omega) [-loadP, -storeP, -bin_shl, -bin_xor, lp, Tryz.f3, loops, g1, g14, g15, g16, decT, decF, hic, hne, hbp, tmodN, tdivN, ix, wrapI, regionD_plain p0, hxI, f1, f2, r1, r2, r3]
    refine ih (i + 1) (fl.set x u) _ (by omega) (by simpa using hl) (set_lt hb hu) (fun w hw => ?_) (fun w h1 h2 => ?_) (by simp [g1]) (by simp [g14]) (by simp [g15]) (by simp) (fun sl' fl' kk => q sl' fl' (Keep.trans (by simp [Keep, ks0]) kk))
    · rw [hw2 w hw]
      by_cases hwi : w = i
      · subst hwi
        rw [if_pos rfl, hs w (Nat.le_refl _) hw]
        exact .inr ⟨bn, by omega, rfl⟩
      · rw [if_neg hwi]; exact hf w hw
    · rw [hw2 w h2, if_neg (by omega)]
      exact hs w (by omega) h2
end Heard

/- TopHeard: one wrong bit is corrected, two are found. -/
open Go Go.Proofs Go.Abs
namespace Heard
/-- The parity of bits. -/
def parb : Nat → Nat → Nat
  | 0, _ => 0
  | k + 1, w => (w % 2 + parb k (w / 2)) % 2
theorem parb_le : ∀ k w, parb k w ≤ 1
  | 0, _ => by simp [parb]
  | k + 1, w => by simp only [parb]; omega
theorem and_half (a b : Nat) : (a &&& b) / 2 = a / 2 &&& b / 2 := by
  have := Nat.shiftRight_and_distrib (a := a) (b := b) (i := 1)
  simpa [Nat.shiftRight_eq_div_pow] using this
theorem and_two (a b : Nat) : (a &&& b) % 2 = (a % 2) * (b % 2) := by
  have h := Nat.and_mod_two_pow (a := a) (b := b) (n := 1)
  rw [Nat.pow_one] at h
  rw [h]
  rcases Nat.mod_two_eq_zero_or_one a with ha | ha <;> rcases Nat.mod_two_eq_zero_or_one b with hb | hb <;> rw [ha, hb] <;> rfl
theorem xor_half (a b : Nat) : (a ^^^ b) / 2 = a / 2 ^^^ b / 2 := by
  have := Nat.shiftRight_xor_distrib (a := a) (b := b) (i := 1)
  simpa [Nat.shiftRight_eq_div_pow] using this
theorem xor_two (a b : Nat) : (a ^^^ b) % 2 = (a % 2 + b % 2) % 2 := by
  have h := Nat.xor_mod_two_pow (a := a) (b := b) (n := 1)
  rw [Nat.pow_one] at h
  rw [h]
  rcases Nat.mod_two_eq_zero_or_one a with ha | ha <;> rcases Nat.mod_two_eq_zero_or_one b with hb | hb <;> rw [ha, hb] <;> rfl
theorem parb_xor : ∀ k x y, parb k (x ^^^ y) = (parb k x + parb k y) % 2
  | 0, _, _ => rfl
  | k + 1, x, y => by
    simp only [parb, xor_half, xor_two, parb_xor k]
    omega
theorem parb_low : ∀ k w, 0 < w → w < 2 ^ k → parb k (w &&& (w - 1)) = (parb k w + 1) % 2
  | 0, w, h0, h1 => by simp at h1; omega
  | k + 1, w, h0, h1 => by
    have hle := parb_le k (w / 2)
    simp only [parb, and_half, and_two]
    rcases Nat.mod_two_eq_zero_or_one w with hw | hw
    · have e1 : (w - 1) / 2 = w / 2 - 1 := by omega
      have e2 : (w % 2) * ((w - 1) % 2) = 0 := by rw [hw, Nat.zero_mul]
      rw [e1, e2, parb_low k (w / 2) (by omega) (by rw [Nat.pow_succ] at h1; omega)]
      omega
    · have e1 : (w - 1) / 2 = w / 2 := by omega
      have e2 : (w - 1) % 2 = 0 := by omega
      rw [e1, e2, Nat.mul_zero, Nat.and_self]
      omega
theorem onesN_par : ∀ (f w : Nat), w ≤ f → w < 2 ^ 16 → onesN f w % 2 = parb 16 w
  | 0, w, h, _ => by
    obtain rfl : w = 0 := by omega
    rfl
  | f + 1, w, h, hlt => by
    simp only [onesN]
    by_cases hz : w = 0
    · subst hz; rfl
    · have hle : w &&& (w - 1) ≤ w - 1 := Nat.and_le_right
      have ih := onesN_par f (w &&& (w - 1)) (by omega) (by omega)
      have h2 := parb_low 16 w (by omega) hlt
      have h3 := parb_le 16 w
      rw [if_neg hz]
      omega
theorem synN_xor : ∀ (k p x y s t : Nat), synN k p (x ^^^ y) (s ^^^ t) = synN k p x s ^^^ synN k p y t
  | 0, _, _, _, _, _ => rfl
  | k + 1, p, x, y, s, t => by
    simp only [synN]
    have h : (x ^^^ y) >>> p &&& 1 = (x >>> p &&& 1) ^^^ (y >>> p &&& 1) := by rw [Nat.shiftRight_xor_distrib, Nat.and_xor_distrib_right]
    rw [h]
    have hx : x >>> p &&& 1 = 0 ∨ x >>> p &&& 1 = 1 := by have := Nat.and_le_right (n := x >>> p) (m := 1); omega
    have hy : y >>> p &&& 1 = 0 ∨ y >>> p &&& 1 = 1 := by have := Nat.and_le_right (n := y >>> p) (m := 1); omega
    have r : ∀ a b c : Nat, a ^^^ b ^^^ c = (a ^^^ c) ^^^ b := fun a b c => by rw [Nat.xor_assoc, Nat.xor_comm b c, ← Nat.xor_assoc]
    rcases hx with hx | hx <;> rcases hy with hy | hy <;> rw [hx, hy]
    · simpa using synN_xor k (p + 1) x y s t
    · have := synN_xor k (p + 1) x y s (t ^^^ p)
      rw [← Nat.xor_assoc] at this
      simpa using this
    · have := synN_xor k (p + 1) x y (s ^^^ p) t
      rw [← r] at this
      simpa using this
    · have := synN_xor k (p + 1) x y (s ^^^ p) (t ^^^ p)
      rw [show (s ^^^ p) ^^^ (t ^^^ p) = s ^^^ t by rw [← Nat.xor_assoc, r s p t, Nat.xor_assoc (s ^^^ t), Nat.xor_self, Nat.xor_zero]] at this
      simpa using this
/-- The values of all code words are in order. -/
def allW (n : Nat) : Bool := Nat.rec (motive := fun _ => Bool) true (fun v ih => Bool.and ih (Bool.and (Nat.beq (synN 15 1 (wordN v) 0) 0) (Bool.and (Nat.beq (parb 16 (wordN v)) 0) (Bool.and (Nat.beq (gathN PL 0 (wordN v) 0) v) (Nat.blt (wordN v) 65536))))) n
theorem allW_ok : allW 2048 = true := by kernel_rfl
theorem allW_get : ∀ n, allW n = true → ∀ v, v < n → synN 15 1 (wordN v) 0 = 0 ∧ parb 16 (wordN v) = 0 ∧ gathN PL 0 (wordN v) 0 = v ∧ wordN v < 65536
  | 0, _, v, h => by omega
  | n + 1, h, v, hv => by
    have h' : (allW n && ((synN 15 1 (wordN n) 0).beq 0 && ((parb 16 (wordN n)).beq 0 && ((gathN PL 0 (wordN n) 0).beq n && (wordN n).blt 65536)))) = true := h
    simp only [Bool.and_eq_true] at h'
    by_cases hvn : v = n
    · subst hvn
      obtain ⟨_, h1, h2, h3, h4⟩ := h'
      exact ⟨Nat.eq_of_beq_eq_true h1, Nat.eq_of_beq_eq_true h2, Nat.eq_of_beq_eq_true h3, by simpa [Nat.blt_eq] using h4⟩
    · exact allW_get n h'.1 v (by omega)
theorem word_law (v : Nat) (hv : v < 2048) : synN 15 1 (wordN v) 0 = 0 ∧ parb 16 (wordN v) = 0 ∧ gathN PL 0 (wordN v) 0 = v ∧ wordN v < 65536 := allW_get 2048 allW_ok v hv
theorem bit_law (k : Nat) (hk : k < 16) : synN 15 1 (1 <<< k) 0 = k ∧ parb 16 (1 <<< k) = 1 ∧ 1 <<< k < 65536 := by
  have h : ∀ k : Fin 16, synN 15 1 (1 <<< k.val) 0 = k.val ∧ parb 16 (1 <<< k.val) = 1 ∧ 1 <<< k.val < 65536 := by decide
  exact h ⟨k, hk⟩
theorem syn_xor (x y : Nat) : synN 15 1 (x ^^^ y) 0 = synN 15 1 x 0 ^^^ synN 15 1 y 0 := by
  have := synN_xor 15 1 x y 0 0
  rwa [Nat.xor_self] at this
theorem decV_word (v : Nat) (hv : v < 2048) : decV (wordN v) = v := by
  obtain ⟨h1, h2, h3, h4⟩ := word_law v hv
  have hp := onesN_par 65536 (wordN v) (by omega) h4
  have : decN (wordN v) = ((v : Int), -1, 0) := by
    unfold decN
    rw [if_neg (by omega), if_pos h1, h3]
  simp [decV, this]
theorem decV_one (v k : Nat) (hv : v < 2048) (hk : k < 16) : decV (wordN v ^^^ (1 <<< k)) = v := by
  obtain ⟨h1, h2, h3, h4⟩ := word_law v hv
  obtain ⟨b1, b2, b3⟩ := bit_law k hk
  have hlt : wordN v ^^^ (1 <<< k) < 65536 := Nat.xor_lt_two_pow (n := 16) h4 b3
  have hp := onesN_par 65536 (wordN v ^^^ (1 <<< k)) (by omega) hlt
  rw [parb_xor, h2, b2] at hp
  have hs : synN 15 1 (wordN v ^^^ (1 <<< k)) 0 = k := by rw [syn_xor, h1, b1, Nat.zero_xor]
  have hb : (wordN v ^^^ (1 <<< k)) ^^^ (1 <<< k) = wordN v := by rw [Nat.xor_assoc, Nat.xor_self, Nat.xor_zero]
  have : decN (wordN v ^^^ (1 <<< k)) = ((v : Int), (k : Int), 0) := by
    unfold decN
    rw [if_pos (by omega), hs, hb, h3]
  simp [decV, this]
theorem decV_two (v k l : Nat) (hv : v < 2048) (hk : k < 16) (hl : l < 16) (hkl : k ≠ l) : decV ((wordN v ^^^ (1 <<< k)) ^^^ (1 <<< l)) = -1 := by
  obtain ⟨h1, h2, h3, h4⟩ := word_law v hv
  obtain ⟨b1, b2, b3⟩ := bit_law k hk
  obtain ⟨c1, c2, c3⟩ := bit_law l hl
  have hlt : (wordN v ^^^ (1 <<< k)) ^^^ (1 <<< l) < 65536 := Nat.xor_lt_two_pow (n := 16) (Nat.xor_lt_two_pow (n := 16) h4 b3) c3
  have hp := onesN_par 65536 _ (Nat.le_of_lt hlt) hlt
  rw [parb_xor, parb_xor, h2, b2, c2] at hp
  have hs : synN 15 1 ((wordN v ^^^ (1 <<< k)) ^^^ (1 <<< l)) 0 = k ^^^ l := by rw [syn_xor, syn_xor, h1, b1, c1, Nat.zero_xor]
  have hne : k ^^^ l ≠ 0 := fun h => hkl (by
    have := congrArg (· ^^^ l) h
    simp only [Nat.xor_assoc, Nat.xor_self, Nat.xor_zero, Nat.zero_xor] at this
    exact this)
  have : decN ((wordN v ^^^ (1 <<< k)) ^^^ (1 <<< l)) = (0, 0, 9) := by
    unfold decN
    rw [if_neg (by omega), hs, if_neg hne]
  simp [decV, this]
theorem decV_fl1 {v y : Nat} (hv : v < 2048) (h : Fl1 (wordN v) y) : decV y = v := by
  rcases h with rfl | ⟨k, hk, rfl⟩
  · exact decV_word v hv
  · exact decV_one v k hv hk
theorem decV_fl2 {v y : Nat} (hv : v < 2048) (h : Fl2 (wordN v) y) : decV y = -1 := by
  obtain ⟨k, l, hk, hl, hkl, rfl⟩ := h
  exact decV_two v k l hv hk hl hkl
end Heard

open Go Go.Proofs Go.Abs
namespace Heard
/-- Truth values as a row. -/
def bols (W : Nat) (O : Nat → Bool) : List AV := (List.range W).map fun i => .bool (O i)
theorem bols_length (W : Nat) (O : Nat → Bool) : (bols W O).length = W := by simp [bols]
theorem bols_get (W : Nat) (O : Nat → Bool) (i : Nat) (hi : i < W) : (bols W O)[i]? = some (.bool (O i)) := by simp [bols, hi]
theorem bols_set (W : Nat) (O : Nat → Bool) (j : Nat) (v : Bool) : (bols W O).set j (.bool v) = bols W (fun y => if y = j then v else O y) := by
  apply List.ext_getElem?
  intro k
  rw [List.getElem?_set]
  by_cases h : j = k
  · subst h
    by_cases hj : j < W
    · simp [bols, hj]
    · simp [bols, hj]
  · by_cases hk : k < W
    · simp [h, bols, hk, Ne.symm h]
    · simp [h, bols, hk]
theorem copy2 (l : List Nat) (q x y : Nat) (h : q + 1 < l.length) : l.take q ++ [x, y] ++ l.drop (q + 2) = (l.set q x).set (q + 1) y := by
  apply List.ext_getElem?
  intro k
  rw [List.getElem?_set, List.getElem?_set]
  by_cases h1 : k < q
  · rw [List.append_assoc, List.getElem?_append_left (by simp; omega), List.getElem?_take, if_pos h1, if_neg (by omega), if_neg (by omega)]
  · by_cases h2 : k = q
    · subst h2
      rw [List.append_assoc, List.getElem?_append_right (by simp; omega)]
      have : k - (l.take k).length = 0 := by simp; omega
      rw [this, if_neg (by omega), if_pos rfl, if_pos (by omega)]
      rfl
    · by_cases h3 : k = q + 1
      · subst h3
        rw [List.append_assoc, List.getElem?_append_right (by simp; omega)]
        have : q + 1 - (l.take q).length = 1 := by simp; omega
        rw [this, if_pos rfl, if_pos (by simp; omega)]
        rfl
      · rw [List.getElem?_append_right (by simp; omega), List.getElem?_drop, if_neg (by omega), if_neg (by omega)]
        congr 1
        simp
        omega
theorem slice_byts (l : List Nat) (q : Nat) (h : Heap) (hq : q + 2 ≤ l.length) : sliceA env 24 h (.lst (byts l)) (some (.int .i64 q)) (some (.int .i64 ((q + 2 : Nat) : Int))) none = some (.lst (byts [nth 0 l q, nth 0 l (q + 1)])) := by
  have h1 : ((byts l).all fun e => e.cells.length == 1) = true := byts_all l
  simp only [sliceA, kd, envti, ti24, ti5, Option.map_some, h1, if_true, inBound, byts_length]
  rw [if_pos ⟨by omega, by omega⟩]
  simp only [Option.bind_some, Int.toNat_natCast]
  rw [if_pos ⟨by omega, by omega⟩]
  simp only [Option.bind_some]
  congr 2
  apply List.ext_getElem?
  intro k
  rw [List.getElem?_drop, List.getElem?_take]
  match k with
  | 0 => rw [if_pos (by omega), Nat.add_zero, byts_get l q (by omega)]; rfl
  | 1 => rw [if_pos (by omega), byts_get l (q + 1) (by omega)]; rfl
  | k + 2 => rw [if_neg (by omega)]; rfl
theorem slice_ref {H : Heap} {b n : Nat} {es : List AV} (hb : H[b]? = some (.row false 1 es)) (hl : es.length = n) (q : Nat) (hq : q + 2 ≤ n) : sliceA env 24 H (.ref b n 0 n) (some (.int .i64 q)) (some (.int .i64 ((q + 2 : Nat) : Int))) none = some (.ref b n q 2) := by
  simp only [sliceA, kd, envti, ti24, ti5, Option.map_some, hb, hl, and_self, if_true, inBound]
  rw [if_pos ⟨by omega, by omega⟩]
  simp only [Option.bind_some, Int.toNat_natCast]
  rw [if_pos ⟨by omega, by omega⟩]
  simp
theorem copy_byts {H : Heap} {b n : Nat} {fl : List Nat} (hb : H[b]? = some (.row false 1 (byts fl))) (hl : fl.length = n) (q x y : Nat) (hq : q + 2 ≤ n) : copyA env 24 H (.ref b n q 2) (.lst (byts [x, y])) = some (.int .i64 2, H.set b (.row false 1 (byts ((fl.set q x).set (q + 1) y)))) := by
  have h1 : newsA H 1 (.lst (byts [x, y])) = some (byts [x, y]) := rfl
  unfold copyA
  simp only [k24, envti, ti5, h1, Option.bind_some, hb, byts_length, hl]
  rw [if_neg (by decide), if_pos ⟨trivial, trivial, by omega, rfl⟩]
  have h2 : (byts fl).take q ++ (byts [x, y]).take 2 ++ (byts fl).drop (q + ((byts [x, y]).take 2).length) = byts (fl.take q ++ [x, y] ++ fl.drop (q + 2)) := by simp [byts]
  rw [h2, copy2 fl q x y (by omega)]
  rfl
def FlO (msg : List Nat) (O : Nat → Bool) (fl : List Nat) (w : Nat) : Prop := if O w = true then Fl2 (w2 msg (2 * w)) (w2 fl (2 * w)) else Fl1 (w2 msg (2 * w)) (w2 fl (2 * w))
theorem pl3_1 : plainD env (dr Tryz.f3 1) = true := by kernel_rfl
theorem pl3_2 : plainD env (dr Tryz.f3 2) = true := by kernel_rfl
theorem pl3_3 : plainD env (dr Tryz.f3 3) = true := by kernel_rfl
def ks1 : List Nat := [0, 3, 4, 14, 15, 21]
set_option maxHeartbeats 4000000 in
set_option maxRecDepth 100000 in
theorem lost_loop (lost : List Int) (hll : lost.length < 2 ^ 50) (W : Nat) (hW : W ≤ 65536) (msg : List Nat) (hml : msg.length = 2 * W) (hmb : ∀ x ∈ msg, x < 256) (Q : Out → Prop) : ∀ (k i : Nat) (fl : List Nat) (O : Nat → Bool) (sl : List (Nat × AV)), i + k = lost.length → fl.length = 2 * W → (∀ x ∈ fl, x < 256) → (∀ w, w < W → FlO msg O fl w) →
    getS sl (.tup []) 2 = .lst (ints lost) → getS sl (.tup []) 11 = .lst (byts msg) → getS sl (.tup []) 14 = .int .i64 W → getS sl (.tup []) 15 = .ref 0 (2 * W) 0 (2 * W) → getS sl (.tup []) 21 = .ref 1 W 0 W → getS sl (.tup []) 22 = .int .i64 i →
    (∀ sl' fl' O', Keep ks1 sl sl' → fl'.length = 2 * W → (∀ x ∈ fl', x < 256) → (∀ w, w < W → FlO msg O' fl' w) → Q (.exit 2 ⟨432, .tup [], sl', []⟩ [Ent.row false 1 (byts fl'), Ent.row false 1 (bols W O')])) →
    Gives (loopL env (lp Tryz.f3 1) ⟨432, .tup [], sl, []⟩ [Ent.row false 1 (byts fl), Ent.row false 1 (bols W O)]) Q := by
  have p1 := pl3_1
  have p2 := pl3_2
  have p3 := pl3_3
  simp only [dr, drs, Tryz.f3, List.append_nil, List.nil_append, List.cons_append, nth_zero, nth_succ] at p1 p2 p3
  intro k
  induction k with
  | zero =>
    intro i fl O sl hi hl hb hf g2 g11 g14 g15 g21 g22 q
    refine gives_loop ?_
    simp (disch := omega) [lp, Tryz.f3, loops, g2, g22, decF]
    exact q _ fl O (by simp [Keep, ks1]) hl hb hf
  | succ k ih =>
    intro i fl O sl hi hl hb hf g2 g11 g14 g15 g21 g22 q
    refine gives_loop ?_
    have hic : (i : Int) < lost.length := by omega
    have ix := fun h => index_ints lost (i : Int) h (by omega) (by omega)
    simp only [Int.toNat_natCast] at ix
    generalize nth 0 lost i = at' at *
    by_cases c1 : 0 ≤ at'
    case neg =>
      simp (disch := omega) [lp, Tryz.f3, loops, g2, g14, g22, decT, decF, ix, wrapI]
      exact ih (i + 1) fl O _ (by omega) hl hb hf (by simp [g2]) (by simp [g11]) (by simp [g14]) (by simp [g15]) (by simp [g21]) (by simp) (fun sl' fl' O' kk => q sl' fl' O' (Keep.trans (by simp [Keep, ks1]) kk))
    by_cases c2 : at' < W
    case neg =>
      simp (disch := omega) [lp, Tryz.f3, loops, g2, g14, g22, decT, decF, ix, wrapI]
      exact ih (i + 1) fl O _ (by omega) hl hb hf (by simp [g2]) (by simp [g11]) (by simp [g14]) (by simp [g15]) (by simp [g21]) (by simp) (fun sl' fl' O' kk => q sl' fl' O' (Keep.trans (by simp [Keep, ks1]) kk))
    obtain ⟨a, rfl⟩ := Int.eq_ofNat_of_zero_le c1
    have ha : a < W := by omega
    have hB1 : ([Ent.row false 1 (byts fl), Ent.row false 1 (bols W O)] : Heap)[1]? = some (.row false 1 (bols W O)) := rfl
    have u1 := idx33 hB1 (bols_length W O) a ha
    have u2 := ldP hB1 (bols_length W O) (bols_get W O a ha) rfl
    cases hO : O a
    case true =>
      rw [hO] at u2
      simp (disch := omega) [-loadP, lp, Tryz.f3, loops, g2, g14, g21, g22, decT, decF, ix, wrapI, u1, u2]
      exact ih (i + 1) fl O _ (by omega) hl hb hf (by simp [g2]) (by simp [g11]) (by simp [g14]) (by simp [g15]) (by simp [g21]) (by simp) (fun sl' fl' O' kk => q sl' fl' O' (Keep.trans (by simp [Keep, ks1]) kk))
    case false =>
      rw [hO] at u2
      have u3 := stP (v := .bool true) hB1 (bols_length W O) (bols_get W O a ha) rfl rfl rfl
      rw [bols_set] at u3
      have hs1 : ([Ent.row false 1 (byts fl), Ent.row false 1 (bols W O)] : Heap).set 1 (.row false 1 (bols W (fun y => if y = a then true else O y))) = [Ent.row false 1 (byts fl), Ent.row false 1 (bols W (fun y => if y = a then true else O y))] := rfl
      rw [hs1] at u3
      have hFl : ∀ w, w < W → w ≠ a → FlO msg (fun y => if y = a then true else O y) fl w := fun w hw hwa => by
        have := hf w hw
        simpa [FlO, hwa] using this
      have hOa : (fun y => if y = a then true else O y) a = true := by simp
      generalize (fun y => if y = a then true else O y) = O1 at *
      have hB2 : ([Ent.row false 1 (byts fl), Ent.row false 1 (bols W O1)] : Heap)[0]? = some (.row false 1 (byts fl)) := rfl
      have s1 := slice_ref hB2 (by simpa using hl) (2 * a) (by omega)
      have s2 := slice_byts msg (2 * a) [Ent.row false 1 (byts fl), Ent.row false 1 (bols W O1)] (by omega)
      have s3 := copy_byts hB2 hl (2 * a) (nth 0 msg (2 * a)) (nth 0 msg (2 * a + 1)) (by omega)
      have hs2 : ∀ x, ([Ent.row false 1 (byts fl), Ent.row false 1 (bols W O1)] : Heap).set 0 x = [x, Ent.row false 1 (bols W O1)] := fun _ => rfl
      rw [hs2] at s3
      have m0 := hmb _ (mem_nth 0 msg (2 * a) (by omega))
      have m1 := hmb _ (mem_nth 0 msg (2 * a + 1) (by omega))
      generalize hm0 : nth 0 msg (2 * a) = x0 at *
      generalize hm1 : nth 0 msg (2 * a + 1) = x1 at *
      have hl1 : ((fl.set (2 * a) x0).set (2 * a + 1) x1).length = 2 * W := by simpa using hl
      have n0 : nth 0 ((fl.set (2 * a) x0).set (2 * a + 1) x1) (2 * a) = x0 := by rw [nth_set _ _ _ _ (by simp; omega), if_neg (by omega), nth_set _ _ _ _ (by omega), if_pos rfl]
      have n1 : nth 0 ((fl.set (2 * a) x0).set (2 * a + 1) x1) (2 * a + 1) = x1 := by rw [nth_set _ _ _ _ (by simp; omega), if_pos rfl]
      have nw : ∀ y, y ≠ 2 * a → y ≠ 2 * a + 1 → nth 0 ((fl.set (2 * a) x0).set (2 * a + 1) x1) y = nth 0 fl y := fun y h1 h2 => by rw [nth_set _ _ _ _ (by simp; omega), if_neg h2, nth_set _ _ _ _ (by omega), if_neg h1]
      have hb1 : ∀ x ∈ (fl.set (2 * a) x0).set (2 * a + 1) x1, x < 256 := set_lt (set_lt hb m0) m1
      generalize (fl.set (2 * a) x0).set (2 * a + 1) x1 = fl1 at *
      have hB3 : ([Ent.row false 1 (byts fl1), Ent.row false 1 (bols W O1)] : Heap)[0]? = some (.row false 1 (byts fl1)) := rfl
      have v1 := idx24 hB3 (by simpa using hl1) (2 * a) (by omega)
      have v2 := ldP hB3 (by simpa using hl1) (byts_get fl1 (2 * a) (by omega)) rfl
      rw [n0] at v2
      have f1 := shl_u8 (i % 8) (by omega)
      have z1 : 1 <<< (i % 8) < 256 := by
        rw [Nat.shiftLeft_eq, Nat.one_mul]
        exact Nat.lt_of_le_of_lt (Nat.pow_le_pow_right (by omega) (by omega : i % 8 ≤ 7)) (by decide)
      have f2 := xor_u8 x0 (1 <<< (i % 8)) m0 z1
      have y1 : x0 ^^^ (1 <<< (i % 8)) < 256 := Nat.xor_lt_two_pow (n := 8) m0 z1
      have v3 := stP (v := .int .u8 ((x0 ^^^ (1 <<< (i % 8)) : Nat) : Int)) hB3 (by simpa using hl1) (byts_get fl1 (2 * a) (by omega)) rfl rfl rfl
      rw [byts_set] at v3
      have hs3 : ∀ x, ([Ent.row false 1 (byts fl1), Ent.row false 1 (bols W O1)] : Heap).set 0 x = [x, Ent.row false 1 (bols W O1)] := fun _ => rfl
      rw [hs3] at v3
      have hl2 : (fl1.set (2 * a) (x0 ^^^ (1 <<< (i % 8)))).length = 2 * W := by simpa using hl1
      have p0' : nth 0 (fl1.set (2 * a) (x0 ^^^ (1 <<< (i % 8)))) (2 * a + 1) = x1 := by rw [nth_set _ _ _ _ (by omega), if_neg (by omega)]; exact n1
      have hB4 : ([Ent.row false 1 (byts (fl1.set (2 * a) (x0 ^^^ (1 <<< (i % 8))))), Ent.row false 1 (bols W O1)] : Heap)[0]? = some (.row false 1 (byts (fl1.set (2 * a) (x0 ^^^ (1 <<< (i % 8)))))) := rfl
      have w1 := idx24 hB4 (by simpa using hl2) (2 * a + 1) (by omega)
      have w2' := ldP hB4 (by simpa using hl2) (byts_get _ (2 * a + 1) (by omega)) rfl
      rw [p0'] at w2'
      have f3 := shl_u8 (i / 8 % 8) (by omega)
      have z2 : 1 <<< (i / 8 % 8) < 256 := by
        rw [Nat.shiftLeft_eq, Nat.one_mul]
        exact Nat.lt_of_le_of_lt (Nat.pow_le_pow_right (by omega) (by omega : i / 8 % 8 ≤ 7)) (by decide)
      have f4 := xor_u8 x1 (1 <<< (i / 8 % 8)) m1 z2
      have y2 : x1 ^^^ (1 <<< (i / 8 % 8)) < 256 := Nat.xor_lt_two_pow (n := 8) m1 z2
      have w3 := stP (v := .int .u8 ((x1 ^^^ (1 <<< (i / 8 % 8)) : Nat) : Int)) hB4 (by simpa using hl2) (byts_get _ (2 * a + 1) (by omega)) rfl rfl rfl
      rw [byts_set] at w3
      have hs4 : ∀ x, ([Ent.row false 1 (byts (fl1.set (2 * a) (x0 ^^^ (1 <<< (i % 8))))), Ent.row false 1 (bols W O1)] : Heap).set 0 x = [x, Ent.row false 1 (bols W O1)] := fun _ => rfl
      rw [hs4] at w3
      have hbf : ∀ x ∈ (fl1.set (2 * a) (x0 ^^^ (1 <<< (i % 8)))).set (2 * a + 1) (x1 ^^^ (1 <<< (i / 8 % 8))), x < 256 := set_lt (set_lt hb1 y1) y2
      have hlf : ((fl1.set (2 * a) (x0 ^^^ (1 <<< (i % 8)))).set (2 * a + 1) (x1 ^^^ (1 <<< (i / 8 % 8)))).length = 2 * W := by simpa using hl1
      have hff : ∀ w, w < W → FlO msg O1 ((fl1.set (2 * a) (x0 ^^^ (1 <<< (i % 8)))).set (2 * a + 1) (x1 ^^^ (1 <<< (i / 8 % 8)))) w := by
        intro w hw
        by_cases hwa : w = a
        · subst hwa
          simp only [FlO, hOa, if_true, w2]
          refine ⟨i % 8 + 8, i / 8 % 8, by omega, by omega, by omega, ?_⟩
          rw [nth_set _ _ _ _ (by simp; omega), if_neg (by omega), nth_set _ _ _ _ (by omega), if_pos rfl, nth_set _ _ _ _ (by simp; omega), if_pos rfl, hm0, hm1]
          rw [flip_lo _ _ _ m1 (by omega), flip_hi _ _ _ m1]
        · have := hFl w hw hwa
          have e : w2 ((fl1.set (2 * a) (x0 ^^^ (1 <<< (i % 8)))).set (2 * a + 1) (x1 ^^^ (1 <<< (i / 8 % 8)))) (2 * w) = w2 fl (2 * w) := by
            simp only [w2]
            rw [nth_set _ _ _ _ (by simp; omega), if_neg (by omega), nth_set _ _ _ _ (by omega), if_neg (by omega), nth_set _ _ _ _ (by simp; omega), if_neg (by omega), nth_set _ _ _ _ (by omega), if_neg (by omega), nw _ (by omega) (by omega), nw _ (by omega) (by omega)]
          simp only [FlO, e]
          exact this
      have e1 : (i : Int) % 8 = ((i % 8 : Nat) : Int) := by simp
      have e2 : (i : Int) / 8 % 8 = ((i / 8 % 8 : Nat) : Int) := by simp
      rw [← e1] at f1
      rw [← e2] at f3
      have q1 : ((2 * a : Nat) : Int) = 2 * (a : Int) := by simp
      have q2 : ((2 * a + 2 : Nat) : Int) = 2 * (a : Int) + 2 := by simp
      have q3 : ((2 * a + 1 : Nat) : Int) = 2 * (a : Int) + 1 := by simp
      rw [q1, q2] at s1 s2
      rw [q1] at v1
      rw [q3] at w1
      generalize (fl1.set (2 * a) (x0 ^^^ (1 <<< (i % 8)))).set (2 * a + 1) (x1 ^^^ (1 <<< (i / 8 % 8))) = fl3 at *
      generalize fl1.set (2 * a) (x0 ^^^ (1 <<< (i % 8))) = fl2 at *
      generalize x1 ^^^ (1 <<< (i / 8 % 8)) = y4 at *
      generalize x0 ^^^ (1 <<< (i % 8)) = y3 at *
      generalize 1 <<< (i / 8 % 8) = z4 at *
      generalize 1 <<< (i % 8) = z3 at *
      simp (disch := omega) [-loadP, -storeP, -bin_shl, -bin_xor, lp, Tryz.f3, loops, g2, g11, g14, g15, g21, g22, decT, decF, ix, wrapI, u1, u2, u3, regionD_plain p1, regionD_plain p2, regionD_plain p3, s1, s2, s3, tmodN, tdivN, f1, f2, f3, f4, v1, v2, v3, w1, w2', w3]
      exact ih (i + 1) fl3 O1 _ (by omega) hlf hbf hff (by simp [g2]) (by simp [g11]) (by simp [g14]) (by simp [g15]) (by simp [g21]) (by simp) (fun sl' fl' O' kk => q sl' fl' O' (Keep.trans (by simp [Keep, ks1]) kk))
end Heard

open Go Go.Proofs Go.Abs
namespace Heard
theorem nth_drop {α : Type} (d : α) (l : List α) (i n : Nat) : nth d (l.drop i) n = nth d l (i + n) := by
  rw [nth_getD, nth_getD, List.getD_eq_getElem?_getD, List.getD_eq_getElem?_getD, List.getElem?_drop]
theorem slice_puls (l : List Pu) (i n : Nat) (h : Heap) (hn : i + n ≤ l.length) : sliceA env 22 h (.lst (puls l)) (some (.int .i64 i)) (some (.int .i64 ((i + n : Nat) : Int))) none = some (.lst (puls ((l.drop i).take n))) := by
  have h1 : ((puls l).all fun e => e.cells.length == 3) = true := puls_all l
  simp only [sliceA, kd, envti, ti22, ti35, Option.map_some, h1, if_true, inBound, puls_length]
  rw [if_pos ⟨by omega, by omega⟩]
  simp only [Option.bind_some, Int.toNat_natCast]
  rw [if_pos ⟨by omega, by omega⟩]
  simp only [Option.bind_some, puls, ← List.map_take, ← List.map_drop]
  congr 3
  rw [List.drop_take]
  congr 1
  omega
/-- Is one of the words lost? -/
def missO (O : Nat → Bool) : Nat → Nat → Bool
  | 0, _ => false
  | k + 1, i => O i || missO O k (i + 1)
theorem pl3_4 : plainD env (dr Tryz.f3 4) = true := by kernel_rfl
theorem gives_codeL {E : Env} {F : Frm} {h : Heap} {Q : Out → Prop} {c c' : Code} (hc : c = c') (hg : Gives (loopL E c' F h) Q) : Gives (loopL E c F h) Q := by rw [hc]; exact hg
def ks2 : List Nat := [0, 3, 4, 14, 15, 21, 24, 25, 26, 27]
set_option maxHeartbeats 4000000 in
set_option maxRecDepth 100000 in
theorem to_loop (h : Heap) (l : List Pu) (hl : l.length ≤ 4096) (ht : ∀ p ∈ l, 0 ≤ p.t ∧ p.t ≤ 1000000000) (f : Nat) (Q : Out → Prop) : ∀ (k n : Nat) (sl : List (Nat × AV)), n + k = 9 → 1 ≤ n → n ≤ 8 → f + n ≤ l.length → getS sl (.tup []) 0 = .lst (puls l) → getS sl (.tup []) 27 = .int .i64 f → getS sl (.tup []) 28 = .int .i64 ((f + n : Nat) : Int) →
    (∀ sl', Keep ks2 sl sl' → getS sl' (.tup []) 28 = .int .i64 ((f + grpN (l.drop f) k n : Nat) : Int) → Q (.exit 6 ⟨432, .tup [], sl', []⟩ h)) →
    Gives (loopL env (lp Tryz.f3 3) ⟨432, .tup [], sl, []⟩ h) Q := by
  have p := pl3_4
  simp only [dr, drs, Tryz.f3, List.append_nil, List.nil_append, List.cons_append, nth_zero, nth_succ] at p
  intro k
  induction k with
  | zero =>
    intro n sl hn h1 h8
    omega
  | succ k ih =>
    intro n sl hn h1 h8 hle g0 g27 g28 q
    have e0 : ((f + n : Nat) : Int) = (f : Int) + n := by simp
    rw [e0] at g28
    have hld : (l.drop f).length = l.length - f := List.length_drop
    refine gives_loop ?_
    by_cases c1 : f + n < l.length
    case neg =>
      have c1' : ¬ (f : Int) + n < l.length := by omega
      have hg : grpN (l.drop f) (k + 1) n = n := by simp only [grpN]; rw [if_neg (by rw [hld]; omega)]
      rw [hg] at q
      clear hg hld e0 ih
      simp (disch := omega) [lp, Tryz.f3, loops, g0, g27, g28, c1', decF, regionD_plain p]
      exact q _ (by simp [Keep, ks2]) (by simp [g28])
    have c1' : (f : Int) + n < l.length := by omega
    by_cases c2 : n < 8
    case neg =>
      have hg : grpN (l.drop f) (k + 1) n = n := by simp only [grpN]; rw [if_neg (by omega)]
      rw [hg] at q
      clear hg hld e0 ih
      simp (disch := omega) [lp, Tryz.f3, loops, g0, g27, g28, c1', decT, decF, regionD_plain p, wrapI]
      exact q _ (by simp [Keep, ks2]) (by simp [g28])
    have e1 : ((f : Int) + n - 1).toNat = f + n - 1 := by omega
    have e2 : ((f : Int) + n).toNat = f + n := by omega
    have t1 := ht _ (mem_nth default l (f + n) c1)
    have t2 := ht _ (mem_nth default l (f + n - 1) (by omega))
    have d1 : nth default (l.drop f) n = nth default l (f + n) := nth_drop _ _ _ _
    have d2 : nth default (l.drop f) (n - 1) = nth default l (f + n - 1) := by rw [nth_drop, show f + (n - 1) = f + n - 1 by omega]
    have ix1 := fun h => index_puls l ((f : Int) + n) h (by omega) (by omega)
    have ix2 := fun h => index_puls l ((f : Int) + n - 1) h (by omega) (by omega)
    simp only [e1] at ix2
    simp only [e2] at ix1
    have hg : grpN (l.drop f) (k + 1) n = if (nth default l (f + n)).t - (nth default l (f + n - 1)).t ≤ 1023 then grpN (l.drop f) k (n + 1) else n := by
      simp only [grpN, d1, d2]
      have c1'' : n < (l.drop f).length := by rw [hld]; omega
      simp only [c1'', c2, true_and]
    rw [hg] at q
    clear hg hld e0 d1 d2 e1 e2
    generalize nth default l (f + n) = p1 at *
    generalize nth default l (f + n - 1) = p2 at *
    by_cases c3 : p1.t - p2.t ≤ 1023
    · rw [if_pos c3] at q
      simp (disch := omega) [lp, Tryz.f3, loops, g0, g27, g28, c1', c2, c3, decT, decF, regionD_plain p, wrapI, ix1, ix2]
      refine gives_codeL (c' := lp Tryz.f3 3) (by kernel_rfl) ?_
      exact ih (n + 1) _ (by omega) (by omega) (by omega) (by omega) (by simp [g0]) (by simp [g27]) (by simp; omega) (fun sl' kk => q sl' (Keep.trans (by simp [Keep, ks2]) kk))
    · rw [if_neg c3] at q
      simp (disch := omega) [lp, Tryz.f3, loops, g0, g27, g28, c1', c2, c3, decT, decF, regionD_plain p, wrapI, ix1, ix2]
      exact q _ (by simp [Keep, ks2]) (by simp [g28])
def ks3 : List Nat := [0, 3, 4, 14, 15, 21, 24, 25, 26, 27, 28, 29]
set_option maxHeartbeats 4000000 in
set_option maxRecDepth 100000 in
theorem miss_loop (h : Heap) (W : Nat) (hW : W ≤ 65536) (O : Nat → Bool) (hO : h[1]? = some (.row false 1 (bols W O))) (e : Nat) (he : e ≤ W) (Q : Out → Prop) : ∀ (k i : Nat) (b : Bool) (sl : List (Nat × AV)), i + k = e → getS sl (.tup []) 21 = .ref 1 W 0 W → getS sl (.tup []) 29 = .int .i64 e → getS sl (.tup []) 30 = .bool b → getS sl (.tup []) 31 = .int .i64 i →
    (∀ sl', Keep ks3 sl sl' → getS sl' (.tup []) 30 = .bool (b || missO O k i) → Q (.exit 8 ⟨432, .tup [], sl', []⟩ h)) →
    Gives (loopL env (lp Tryz.f3 4) ⟨432, .tup [], sl, []⟩ h) Q := by
  intro k
  induction k with
  | zero =>
    intro i b sl hi g21 g29 g30 g31 q
    refine gives_loop ?_
    simp (disch := omega) [lp, Tryz.f3, loops, g29, g31, decF]
    exact q _ (by simp [Keep, ks3]) (by simp [g30, missO])
  | succ k ih =>
    intro i b sl hi g21 g29 g30 g31 q
    refine gives_loop ?_
    have hie : (i : Int) < e := by omega
    have u1 := idx33 hO (bols_length W O) i (by omega)
    have u2 := ldP hO (bols_length W O) (bols_get W O i (by omega)) rfl
    cases b with
    | true =>
      simp (disch := omega) [-loadP, lp, Tryz.f3, loops, g21, g29, g30, g31, hie, wrapI]
      refine gives_codeL (c' := lp Tryz.f3 4) (by kernel_rfl) ?_
      exact ih (i + 1) true _ (by omega) (by simp [g21]) (by simp [g29]) (by simp) (by simp) (fun sl' kk hb => q sl' (Keep.trans (by simp [Keep, ks3]) kk) (by rw [hb]; simp))
    | false =>
      simp (disch := omega) [-loadP, lp, Tryz.f3, loops, g21, g29, g30, g31, hie, wrapI, u1, u2]
      refine gives_codeL (c' := lp Tryz.f3 4) (by kernel_rfl) ?_
      exact ih (i + 1) (O i) _ (by omega) (by simp [g21]) (by simp [g29]) (by simp) (by simp) (fun sl' kk hb => q sl' (Keep.trans (by simp [Keep, ks3]) kk) (by rw [hb]; simp [missO]))
/-- A stretch is set. -/
def stretch (G : Nat → Bool) (i k : Nat) (b : Bool) : Nat → Bool := fun x => if i ≤ x ∧ x < i + k then b else G x
theorem stretch_succ (G : Nat → Bool) (i k : Nat) (b : Bool) : stretch (fun y => if y = i then b else G y) (i + 1) k b = stretch G i (k + 1) b := by
  funext x
  simp only [stretch]
  by_cases h1 : i + 1 ≤ x ∧ x < i + 1 + k
  · rw [if_pos h1, if_pos (by omega)]
  · rw [if_neg h1]
    by_cases h2 : x = i
    · rw [if_pos h2, if_pos (by omega)]
    · rw [if_neg h2, if_neg (by omega)]
def ks4 : List Nat := [0, 3, 4, 14, 15, 21, 24, 25, 26, 27, 28, 29, 30]
set_option maxHeartbeats 4000000 in
set_option maxRecDepth 100000 in
theorem gone_loop (e0 e1 e2 : Ent) (W : Nat) (hW : W ≤ 65536) (b : Bool) (e : Nat) (he : e ≤ W) (Q : Out → Prop) : ∀ (k i : Nat) (G : Nat → Bool) (sl : List (Nat × AV)), i + k = e → getS sl (.tup []) 25 = .ref 3 W 0 W → getS sl (.tup []) 29 = .int .i64 e → getS sl (.tup []) 30 = .bool b → getS sl (.tup []) 32 = .int .i64 i →
    (∀ sl', Keep ks4 sl sl' → Q (.exit 10 ⟨432, .tup [], sl', []⟩ [e0, e1, e2, Ent.row false 1 (bols W (stretch G i k b))])) →
    Gives (loopL env (lp Tryz.f3 5) ⟨432, .tup [], sl, []⟩ [e0, e1, e2, Ent.row false 1 (bols W G)]) Q := by
  intro k
  induction k with
  | zero =>
    intro i G sl hi g25 g29 g30 g32 q
    refine gives_loop ?_
    simp (disch := omega) [lp, Tryz.f3, loops, g29, g32, decF]
    have : stretch G i 0 b = G := by funext x; simp only [stretch]; rw [if_neg (by omega)]
    rw [this] at q
    exact q _ (by simp [Keep, ks4])
  | succ k ih =>
    intro i G sl hi g25 g29 g30 g32 q
    refine gives_loop ?_
    have hie : (i : Int) < e := by omega
    have hB : ([e0, e1, e2, Ent.row false 1 (bols W G)] : Heap)[3]? = some (.row false 1 (bols W G)) := rfl
    have u1 := idx33 hB (bols_length W G) i (by omega)
    have u3 := stP (v := .bool b) hB (bols_length W G) (bols_get W G i (by omega)) rfl rfl rfl
    rw [bols_set] at u3
    have hs : ∀ x, ([e0, e1, e2, Ent.row false 1 (bols W G)] : Heap).set 3 x = [e0, e1, e2, x] := fun _ => rfl
    rw [hs] at u3
    rw [← stretch_succ] at q
    generalize (fun y => if y = i then b else G y) = G1 at *
    simp (disch := omega) [-loadP, -storeP, lp, Tryz.f3, loops, g25, g29, g30, g32, hie, wrapI, u1, u3]
    refine gives_codeL (c' := lp Tryz.f3 5) (by kernel_rfl) ?_
    exact ih (i + 1) G1 _ (by omega) (by simp [g25]) (by simp [g29]) (by simp [g30]) (by simp) (fun sl' kk => q sl' (Keep.trans (by simp [Keep, ks4]) kk))
end Heard

open Go Go.Proofs Go.Abs
namespace Heard
/-- The pulses of the groups of which no word is lost. -/
def kept (O : Nat → Bool) : Nat → List Pu → Nat → List Pu
  | 0, _, _ => []
  | _ + 1, [], _ => []
  | k + 1, p :: r, i => (if missO O (4 + 2 * grpN (p :: r) 8 1) i = true then [] else (p :: r).take (grpN (p :: r) 8 1)) ++ kept O k ((p :: r).drop (grpN (p :: r) 8 1)) (i + (4 + 2 * grpN (p :: r) 8 1))
/-- The words of the groups of which a word is lost. -/
def goneF (O : Nat → Bool) : Nat → List Pu → Nat → (Nat → Bool) → (Nat → Bool)
  | 0, _, _, G => G
  | _ + 1, [], _, G => G
  | k + 1, p :: r, i, G => goneF O k ((p :: r).drop (grpN (p :: r) 8 1)) (i + (4 + 2 * grpN (p :: r) 8 1)) (stretch G i (4 + 2 * grpN (p :: r) 8 1) (missO O (4 + 2 * grpN (p :: r) 8 1) i))
theorem encV_length (k : Nat) (p : Pu) (r : List Pu) : (encV (k + 1) (p :: r)).length = (4 + 2 * grpN (p :: r) 8 1) + (encV k ((p :: r).drop (grpN (p :: r) 8 1))).length := by
  obtain ⟨n1, _, _⟩ := grpN_le (p :: r) 8 1 (by simp)
  have h : encV (k + 1) (p :: r) = head4 (grpN (p :: r) 8 1) p.t ++ pv p.t ((p :: r).take (grpN (p :: r) 8 1)) ++ encV k ((p :: r).drop (grpN (p :: r) 8 1)) := rfl
  rw [h, List.length_append, List.length_append, pv_length, List.length_take, Nat.min_eq_left n1]
  simp [head4]
def ks5 : List Nat := [3, 4, 14, 15, 25]
theorem Keep.sub {ks ks' : List Nat} {a b : List (Nat × AV)} (h : Keep ks a b) (hs : ks'.all (fun t => ks.contains t) = true) : Keep ks' a b := fun t ht => h t (by
  have := List.all_eq_true.1 hs t ht
  simpa using this)
set_option maxHeartbeats 4000000 in
set_option maxRecDepth 100000 in
theorem grp_loop (e0 : Ent) (l : List Pu) (hl : l.length ≤ 4096) (ht : ∀ p ∈ l, 0 ≤ p.t ∧ p.t ≤ 1000000000) (W : Nat) (hW : W ≤ 65536) (O : Nat → Bool) (Q : Out → Prop) : ∀ (k : Nat) (l' : List Pu) (f i : Nat) (left : List Pu) (G : Nat → Bool) (sl : List (Nat × AV)), l.drop f = l' → f ≤ l.length → l'.length ≤ k → i + (encV k l').length = W → left.length ≤ f →
    getS sl (.tup []) 0 = .lst (puls l) → getS sl (.tup []) 14 = .int .i64 W → getS sl (.tup []) 21 = .ref 1 W 0 W → getS sl (.tup []) 24 = .ref 2 left.length 0 left.length → getS sl (.tup []) 25 = .ref 3 W 0 W → getS sl (.tup []) 26 = .int .i64 i → getS sl (.tup []) 27 = .int .i64 f →
    (∀ sl', Keep ks5 sl sl' → getS sl' (.tup []) 26 = .int .i64 W → getS sl' (.tup []) 24 = .ref 2 (left ++ kept O k l' i).length 0 (left ++ kept O k l' i).length → Q (.exit 4 ⟨432, .tup [], sl', []⟩ [e0, Ent.row false 1 (bols W O), Ent.row false 3 (puls (left ++ kept O k l' i)), Ent.row false 1 (bols W (goneF O k l' i G))])) →
    Gives (loopL env (lp Tryz.f3 2) ⟨432, .tup [], sl, []⟩ [e0, Ent.row false 1 (bols W O), Ent.row false 3 (puls left), Ent.row false 1 (bols W G)]) Q := by
  have stop : ∀ (k f i : Nat) (left : List Pu) (G : Nat → Bool) (sl : List (Nat × AV)), f = l.length → i = W → 
    getS sl (.tup []) 0 = .lst (puls l) → getS sl (.tup []) 24 = .ref 2 left.length 0 left.length → getS sl (.tup []) 26 = .int .i64 i → getS sl (.tup []) 27 = .int .i64 f →
    (∀ sl', Keep ks5 sl sl' → getS sl' (.tup []) 26 = .int .i64 W → getS sl' (.tup []) 24 = .ref 2 left.length 0 left.length → Q (.exit 4 ⟨432, .tup [], sl', []⟩ [e0, Ent.row false 1 (bols W O), Ent.row false 3 (puls left), Ent.row false 1 (bols W G)])) →
    Gives (loopL env (lp Tryz.f3 2) ⟨432, .tup [], sl, []⟩ [e0, Ent.row false 1 (bols W O), Ent.row false 3 (puls left), Ent.row false 1 (bols W G)]) Q := by
    intro k f i left G sl hf hi g0 g24 g26 g27 q
    refine gives_loop ?_
    subst hi
    simp (disch := omega) [lp, Tryz.f3, loops, g0, g27, decF]
    exact q _ (by simp [Keep, ks5]) (by simp [g26]) (by simp [g24])
  intro k
  induction k with
  | zero =>
    intro l' f i left G sl hd hf hk hi hlf g0 g14 g21 g24 g25 g26 g27 q
    have hlen : l'.length = l.length - f := by rw [← hd, List.length_drop]
    simp only [kept, goneF, List.append_nil] at q
    simp only [encV, List.length_nil] at hi
    exact stop 0 f i left G sl (by omega) (by omega) g0 g24 g26 g27 q
  | succ k ih =>
    intro l' f i left G sl hd hf hk hi hlf g0 g14 g21 g24 g25 g26 g27 q
    have hlen : l'.length = l.length - f := by rw [← hd, List.length_drop]
    cases l' with
    | nil =>
      simp only [kept, goneF, List.append_nil] at q
      simp only [encV, List.length_nil] at hi
      simp only [List.length_nil] at hlen
      exact stop 0 f i left G sl (by omega) (by omega) g0 g24 g26 g27 q
    | cons p r =>
      simp only [List.length_cons] at hlen hk
      rw [encV_length] at hi
      obtain ⟨n1, n2, n3⟩ := grpN_le (p :: r) 8 1 (by simp)
      have n3' := n3 (by omega)
      simp only [List.length_cons] at n1
      have hkp : kept O (k + 1) (p :: r) i = (if missO O (4 + 2 * grpN (p :: r) 8 1) i = true then [] else (p :: r).take (grpN (p :: r) 8 1)) ++ kept O k ((p :: r).drop (grpN (p :: r) 8 1)) (i + (4 + 2 * grpN (p :: r) 8 1)) := rfl
      have hgo : goneF O (k + 1) (p :: r) i G = goneF O k ((p :: r).drop (grpN (p :: r) 8 1)) (i + (4 + 2 * grpN (p :: r) 8 1)) (stretch G i (4 + 2 * grpN (p :: r) 8 1) (missO O (4 + 2 * grpN (p :: r) 8 1) i)) := rfl
      rw [hkp, hgo] at q
      have hsl := fun h => slice_puls l f (grpN (p :: r) 8 1) h (by omega)
      have hto := to_loop [e0, Ent.row false 1 (bols W O), Ent.row false 3 (puls left), Ent.row false 1 (bols W G)] l hl ht f
      rw [hd] at hsl hto
      have hdd : l.drop (f + grpN (p :: r) 8 1) = (p :: r).drop (grpN (p :: r) 8 1) := by rw [← hd, List.drop_drop]
      have hl2 : ((p :: r).drop (grpN (p :: r) 8 1)).length ≤ k := by rw [List.length_drop, List.length_cons]; omega
      have htl : ((p :: r).take (grpN (p :: r) 8 1)).length = grpN (p :: r) 8 1 := by rw [List.length_take, List.length_cons]; omega
      generalize hgn : grpN (p :: r) 8 1 = n at *
      generalize (p :: r).drop n = l2 at *
      generalize (p :: r).take n = gr at *
      clear hgo hkp hd
      have hfl : (f : Int) < l.length := by omega
      refine gives_loop ?_
      simp (disch := omega) [lp, Tryz.f3, loops, g0, g27, hfl, wrapI]
      generalize hx : loopL env _ _ _ = L
      apply gives_cut hx
      clear hx
      refine gives_codeL (c' := lp Tryz.f3 3) (by kernel_rfl) ?_
      refine hto _ 8 1 _ (by omega) (by omega) (by omega) (by omega) (by simp [g0]) (by simp [g27]) (by simp) (fun sl1 kk1 k28 => ?_)
      rw [hgn] at k28
      have e5 : ((f + n : Nat) : Int) = (f : Int) + n := by simp
      rw [e5] at k28
      have a0 := kk1.get (v := .lst (puls l)) (t := 0) (by simp [g0]) (by decide)
      have a3 := kk1 3 (by decide)
      have a4 := kk1 4 (by decide)
      have a14 := kk1.get (v := .int .i64 W) (t := 14) (by simp [g14]) (by decide)
      have a15 := kk1 15 (by decide)
      have a21 := kk1.get (v := .ref 1 W 0 W) (t := 21) (by simp [g21]) (by decide)
      have a24 := kk1.get (v := .ref 2 left.length 0 left.length) (t := 24) (by simp [g24]) (by decide)
      have a25 := kk1.get (v := .ref 3 W 0 W) (t := 25) (by simp [g25]) (by decide)
      have a26 := kk1.get (v := .int .i64 i) (t := 26) (by simp [g26]) (by decide)
      have a27 := kk1.get (v := .int .i64 f) (t := 27) (by simp [g27]) (by decide)
      simp at a3 a4 a15
      have e6 : (f : Int) + n - f = n := by omega
      have e7 : ¬ (W : Int) < (i : Int) + 4 + 2 * n := by omega
      simp (disch := omega) [k28, a0, a14, a26, a27, wrapI, e6, e7]
      generalize hx : loopL env _ _ _ = L
      apply gives_cut hx
      clear hx
      refine gives_codeL (c' := lp Tryz.f3 4) (by kernel_rfl) ?_
      refine miss_loop _ W hW O rfl (i + (4 + 2 * n)) (by omega) _ (4 + 2 * n) i false _ rfl (by simp [a21]) (by simp; omega) (by simp) (by simp) (fun sl2 kk2 k30 => ?_)
      rw [Bool.false_or] at k30
      have b0 := kk2.get (v := .lst (puls l)) (t := 0) (by simp [a0]) (by decide)
      have b3 := kk2 3 (by decide)
      have b4 := kk2 4 (by decide)
      have b14 := kk2.get (v := .int .i64 W) (t := 14) (by simp [a14]) (by decide)
      have b15 := kk2 15 (by decide)
      have b21 := kk2.get (v := .ref 1 W 0 W) (t := 21) (by simp [a21]) (by decide)
      have b24 := kk2.get (v := .ref 2 left.length 0 left.length) (t := 24) (by simp [a24]) (by decide)
      have b25 := kk2.get (v := .ref 3 W 0 W) (t := 25) (by simp [a25]) (by decide)
      have b26 := kk2.get (v := .int .i64 i) (t := 26) (by simp [a26]) (by decide)
      have b27 := kk2.get (v := .int .i64 f) (t := 27) (by simp [a27]) (by decide)
      have b28 := kk2.get (v := .int .i64 ((f : Int) + n)) (t := 28) (by simp [k28]) (by decide)
      have b29 := kk2.get (v := .int .i64 ((i : Int) + 4 + 2 * n)) (t := 29) (by simp) (by decide)
      simp at b3 b4 b15
      generalize missO O (4 + 2 * n) i = ms at *
      simp (disch := omega) [b26]
      generalize hx : loopL env _ _ _ = L
      apply gives_cut hx
      clear hx
      refine gives_codeL (c' := lp Tryz.f3 5) (by kernel_rfl) ?_
      refine gone_loop _ _ _ W hW ms (i + (4 + 2 * n)) (by omega) _ (4 + 2 * n) i G _ rfl (by simp [b25]) (by simp [b29]; omega) (by simp [k30]) (by simp) (fun sl3 kk3 => ?_)
      have c0 := kk3.get (v := .lst (puls l)) (t := 0) (by simp [b0]) (by decide)
      have c3 := kk3 3 (by decide)
      have c4 := kk3 4 (by decide)
      have c14 := kk3.get (v := .int .i64 W) (t := 14) (by simp [b14]) (by decide)
      have c15 := kk3 15 (by decide)
      have c21 := kk3.get (v := .ref 1 W 0 W) (t := 21) (by simp [b21]) (by decide)
      have c24 := kk3.get (v := .ref 2 left.length 0 left.length) (t := 24) (by simp [b24]) (by decide)
      have c25 := kk3.get (v := .ref 3 W 0 W) (t := 25) (by simp [b25]) (by decide)
      have c27 := kk3.get (v := .int .i64 f) (t := 27) (by simp [b27]) (by decide)
      have c28 := kk3.get (v := .int .i64 ((f : Int) + n)) (t := 28) (by simp [b28]) (by decide)
      have c29 := kk3.get (v := .int .i64 ((i : Int) + 4 + 2 * n)) (t := 29) (by simp [b29]) (by decide)
      have c30 := kk3.get (v := .bool ms) (t := 30) (by simp [k30]) (by decide)
      simp at c3 c4 c15
      have hkk : ∀ sl', getS sl' (.tup []) 3 = getS sl3 (.tup []) 3 → getS sl' (.tup []) 4 = getS sl3 (.tup []) 4 → getS sl' (.tup []) 14 = .int .i64 W → getS sl' (.tup []) 15 = getS sl3 (.tup []) 15 → getS sl' (.tup []) 25 = .ref 3 W 0 W → Keep ks5 sl sl' := by
        intro sl' h3 h4 h14 h15 h25 t ht
        simp only [ks5, List.mem_cons, List.not_mem_nil, or_false] at ht
        rcases ht with rfl | rfl | rfl | rfl | rfl
        · rw [h3, c3, b3, a3]
        · rw [h4, c4, b4, a4]
        · rw [h14, g14]
        · rw [h15, c15, b15, a15]
        · rw [h25, g25]
      rw [e5] at hsl
      cases ms with
      | true =>
        simp (disch := omega) [c28, c29, c30]
        refine gives_codeL (c' := lp Tryz.f3 2) (by kernel_rfl) ?_
        rw [if_pos rfl, List.nil_append] at q
        exact ih l2 (f + n) (i + (4 + 2 * n)) left _ _ hdd (by omega) hl2 (by omega) (by omega) (by simp [c0]) (by simp [c14]) (by simp [c21]) (by simp [c24]) (by simp [c25]) (by simp; omega) (by simp) (fun sl' kk => q sl' (Keep.trans (hkk _ (by simp) (by simp) (by simp [c14]) (by simp) (by simp [c25])) kk))
      | false =>
        simp (disch := omega) [c0, c24, c27, c28, c29, c30, hsl, htl]
        refine gives_codeL (c' := lp Tryz.f3 2) (by kernel_rfl) ?_
        rw [if_neg (by simp), ← List.append_assoc] at q
        exact ih l2 (f + n) (i + (4 + 2 * n)) (left ++ gr) _ _ hdd (by omega) hl2 (by omega) (by simp; omega) (by simp [c0]) (by simp [c14]) (by simp [c21]) (by simp [htl]) (by simp [c25]) (by simp; omega) (by simp) (fun sl' kk => q sl' (Keep.trans (hkk _ (by simp) (by simp) (by simp [c14]) (by simp) (by simp [c25])) kk))
end Heard

open Go Go.Proofs Go.Abs
namespace Heard
/-- Gaps that are exactly the places where G holds. -/
def Cov (G : Nat → Bool) (W : Nat) : Nat → List Iv → Prop
  | i, [] => ∀ x, i ≤ x → x < W → G x = false
  | i, g :: gs => ∃ lo hi : Nat, g = ⟨lo, hi⟩ ∧ i ≤ lo ∧ lo ≤ hi ∧ hi < W ∧ (∀ x, i ≤ x → x < lo → G x = false) ∧ (∀ x, lo ≤ x → x ≤ hi → G x = true) ∧ Cov G W (hi + 1) gs
theorem ivs_all (l : List Iv) : (ivs l).all (fun e => e.cells.length == 2) = true := by
  rw [List.all_eq_true]
  intro e he
  obtain ⟨p, _, rfl⟩ := List.mem_map.1 he
  rfl
theorem env37 : env.ti 37 = some ⟨(.struct [⟨0, 3, 1, false⟩, ⟨1, 3, 1, false⟩]), 2, 16, (.agg [(.int Go.IntKind.i64 (0)), (.int Go.IntKind.i64 (0))]), true⟩ := by rw [envti]; exact ti37
theorem index_ivs (l : List Iv) (i : Int) (h : Heap) (h0 : 0 ≤ i) (h1 : i < l.length) : indexAddrA env 29 h (.lst (ivs l)) (.int .i64 i) = some (.iptr (nth default l i.toNat).av 0) := by
  unfold indexAddrA
  have h2 : i.toNat < l.length := by omega
  simp only [k29, env37, ivs_length, h0, h1, ivs_all, and_self, if_true]
  simp [ivs, h2, nth_getD, List.getD_eq_getElem?_getD]
theorem load_iv0 (p : Iv) : loadE false 1 p.av 0 = some (.int .i64 p.lo) := rfl
theorem load_iv1 (p : Iv) : loadE false 1 p.av 1 = some (.int .i64 p.hi) := rfl
attribute [simp] load_iv0 load_iv1
theorem pl3_5 : plainD env (dr Tryz.f3 5) = true := by kernel_rfl
def ks6 : List Nat := [3, 4, 14, 19, 25, 34]
set_option maxHeartbeats 4000000 in
set_option maxRecDepth 100000 in
theorem lo_loop (h : Heap) (W : Nat) (hW : W ≤ 65536) (G : Nat → Bool) (hG : h[3]? = some (.row false 1 (bols W G))) (gs : List Iv) (hgs : gs.length ≤ 65536) (j lo hi : Nat) (hj : j < gs.length) (hn : nth default gs j = ⟨lo, hi⟩) (hlo : lo ≤ W) (Q : Out → Prop) : ∀ (k i : Nat) (sl : List (Nat × AV)), i + k = lo → (∀ x, i ≤ x → x < lo → G x = false) → getS sl (.tup []) 19 = .lst (ivs gs) → getS sl (.tup []) 25 = .ref 3 W 0 W → getS sl (.tup []) 33 = .int .i64 i → getS sl (.tup []) 34 = .int .i64 j →
    (∀ sl', Keep ks6 sl sl' → getS sl' (.tup []) 33 = .int .i64 lo → Q (.exit 14 ⟨432, .tup [], sl', []⟩ h)) →
    Gives (loopL env (lp Tryz.f3 7) ⟨432, .tup [], sl, []⟩ h) Q := by
  have ix := index_ivs gs j h (by omega) (by omega)
  simp only [Int.toNat_natCast, hn] at ix
  intro k
  induction k with
  | zero =>
    intro i sl hi hx g19 g25 g33 g34 q
    refine gives_loop ?_
    obtain rfl : i = lo := by omega
    simp (disch := omega) [lp, Tryz.f3, loops, g19, g33, g34, ix, decF]
    exact q _ (by simp [Keep, ks6]) (by simp [g33])
  | succ k ih =>
    intro i sl hi hx g19 g25 g33 g34 q
    refine gives_loop ?_
    have hil : (i : Int) < lo := by omega
    have u1 := idx33 hG (bols_length W G) i (by omega)
    have u2 := ldP hG (bols_length W G) (bols_get W G i (by omega)) rfl
    rw [hx i (Nat.le_refl _) (by omega)] at u2
    simp (disch := omega) [-loadP, lp, Tryz.f3, loops, g19, g25, g33, g34, ix, decT, u1, u2, wrapI]
    refine gives_codeL (c' := lp Tryz.f3 7) (by kernel_rfl) ?_
    exact ih (i + 1) _ (by omega) (fun x h1 h2 => hx x (by omega) h2) (by simp [g19]) (by simp [g25]) (by simp) (by simp [g34]) (fun sl' kk => q sl' (Keep.trans (by simp [Keep, ks6]) kk))
set_option maxHeartbeats 4000000 in
set_option maxRecDepth 100000 in
theorem hi_loop (h : Heap) (W : Nat) (hW : W ≤ 65536) (G : Nat → Bool) (hG : h[3]? = some (.row false 1 (bols W G))) (gs : List Iv) (hgs : gs.length ≤ 65536) (j lo hi : Nat) (hj : j < gs.length) (hn : nth default gs j = ⟨lo, hi⟩) (hhi : hi < W) (Q : Out → Prop) : ∀ (k i : Nat) (sl : List (Nat × AV)), i + k = hi + 1 → (∀ x, i ≤ x → x ≤ hi → G x = true) → getS sl (.tup []) 19 = .lst (ivs gs) → getS sl (.tup []) 25 = .ref 3 W 0 W → getS sl (.tup []) 33 = .int .i64 i → getS sl (.tup []) 34 = .int .i64 j →
    (∀ sl', Keep ks6 sl sl' → getS sl' (.tup []) 33 = .int .i64 ((hi + 1 : Nat) : Int) → Q (.exit 16 ⟨432, .tup [], sl', []⟩ h)) →
    Gives (loopL env (lp Tryz.f3 8) ⟨432, .tup [], sl, []⟩ h) Q := by
  have ix := index_ivs gs j h (by omega) (by omega)
  simp only [Int.toNat_natCast, hn] at ix
  intro k
  induction k with
  | zero =>
    intro i sl hi' hx g19 g25 g33 g34 q
    refine gives_loop ?_
    obtain rfl : i = hi + 1 := by omega
    have hil : ¬ ((hi + 1 : Nat) : Int) ≤ hi := by omega
    simp (disch := omega) [lp, Tryz.f3, loops, g19, g33, g34, ix, decF, hil]
    exact q _ (by simp [Keep, ks6]) (by simp [g33])
  | succ k ih =>
    intro i sl hi' hx g19 g25 g33 g34 q
    refine gives_loop ?_
    have hil : (i : Int) ≤ hi := by omega
    have u1 := idx33 hG (bols_length W G) i (by omega)
    have u2 := ldP hG (bols_length W G) (bols_get W G i (by omega)) rfl
    rw [hx i (Nat.le_refl _) (by omega)] at u2
    simp (disch := omega) [-loadP, lp, Tryz.f3, loops, g19, g25, g33, g34, ix, decT, u1, u2, wrapI]
    refine gives_codeL (c' := lp Tryz.f3 8) (by kernel_rfl) ?_
    exact ih (i + 1) _ (by omega) (fun x h1 h2 => hx x (by omega) h2) (by simp [g19]) (by simp [g25]) (by simp) (by simp [g34]) (fun sl' kk => q sl' (Keep.trans (by simp [Keep, ks6]) kk))
def ks7 : List Nat := [3, 4]
set_option maxHeartbeats 4000000 in
set_option maxRecDepth 100000 in
theorem end_loop (h : Heap) (W : Nat) (hW : W ≤ 65536) (G : Nat → Bool) (hG : h[3]? = some (.row false 1 (bols W G))) (Q : Out → Prop) : ∀ (k i : Nat) (sl : List (Nat × AV)), i + k = W → (∀ x, i ≤ x → x < W → G x = false) → getS sl (.tup []) 14 = .int .i64 W → getS sl (.tup []) 25 = .ref 3 W 0 W → getS sl (.tup []) 33 = .int .i64 i →
    (∀ sl', Keep ks7 sl sl' → Q (.exit 18 ⟨432, .tup [], sl', []⟩ h)) →
    Gives (loopL env (lp Tryz.f3 9) ⟨432, .tup [], sl, []⟩ h) Q := by
  intro k
  induction k with
  | zero =>
    intro i sl hi hx g14 g25 g33 q
    refine gives_loop ?_
    obtain rfl : i = W := by omega
    simp (disch := omega) [lp, Tryz.f3, loops, g14, g33, decF]
    exact q _ (by simp [Keep, ks7])
  | succ k ih =>
    intro i sl hi hx g14 g25 g33 q
    refine gives_loop ?_
    have hil : (i : Int) < W := by omega
    have u1 := idx33 hG (bols_length W G) i (by omega)
    have u2 := ldP hG (bols_length W G) (bols_get W G i (by omega)) rfl
    rw [hx i (Nat.le_refl _) (by omega)] at u2
    simp (disch := omega) [-loadP, lp, Tryz.f3, loops, g14, g25, g33, decT, u1, u2, wrapI]
    refine gives_codeL (c' := lp Tryz.f3 9) (by kernel_rfl) ?_
    exact ih (i + 1) _ (by omega) (fun x h1 h2 => hx x (by omega) h2) (by simp [g14]) (by simp [g25]) (by simp) (fun sl' kk => q sl' (Keep.trans (by simp [Keep, ks7]) kk))
def ks8 : List Nat := [3, 4, 14, 25]
set_option maxHeartbeats 4000000 in
set_option maxRecDepth 100000 in
theorem gap_loop (h : Heap) (W : Nat) (hW : W ≤ 65536) (G : Nat → Bool) (hG : h[3]? = some (.row false 1 (bols W G))) (gs : List Iv) (hgs : gs.length ≤ 65536) (Q : Out → Prop) : ∀ (r : List Iv) (j i : Nat) (sl : List (Nat × AV)), j + r.length = gs.length → gs.drop j = r → Cov G W i r → i ≤ W → getS sl (.tup []) 14 = .int .i64 W → getS sl (.tup []) 19 = .lst (ivs gs) → getS sl (.tup []) 25 = .ref 3 W 0 W → getS sl (.tup []) 33 = .int .i64 i → getS sl (.tup []) 34 = .int .i64 j →
    (∀ sl' i', Keep ks8 sl sl' → i' ≤ W → (∀ x, i' ≤ x → x < W → G x = false) → getS sl' (.tup []) 33 = .int .i64 (i' : Nat) → Q (.exit 12 ⟨432, .tup [], sl', []⟩ h)) →
    Gives (loopL env (lp Tryz.f3 6) ⟨432, .tup [], sl, []⟩ h) Q := by
  have p5 := pl3_5
  simp only [dr, drs, Tryz.f3, List.append_nil, List.nil_append, List.cons_append, nth_zero, nth_succ] at p5
  intro r
  induction r with
  | nil =>
    intro j i sl hj hd hc hi g14 g19 g25 g33 g34 q
    simp only [List.length_nil] at hj
    refine gives_loop ?_
    simp (disch := omega) [lp, Tryz.f3, loops, g19, g34, decF]
    exact q _ i (by simp [Keep, ks8]) hi hc (by simp [g33])
  | cons g r ih =>
    intro j i sl hj hd hc hi g14 g19 g25 g33 g34 q
    simp only [List.length_cons] at hj
    obtain ⟨lo, hi', rfl, c1, c2, c3, c4, c5, c6⟩ := hc
    have hn : nth default gs j = ⟨lo, hi'⟩ := by
      rw [nth_getD, List.getD_eq_getElem?_getD]
      have := congrArg (·[0]?) hd
      simp at this
      simp [this]
    have hr' : gs.drop (j + 1) = r := by rw [← List.drop_drop, hd]; rfl
    have ix := fun h => index_ivs gs j h (by omega) (by omega)
    simp only [Int.toNat_natCast, hn] at ix
    have hL7 := fun Q => lo_loop h W hW G hG gs hgs j lo hi' (by omega) hn (by omega) Q (lo - i) i
    have hL8 := fun Q => hi_loop h W hW G hG gs hgs j lo hi' (by omega) hn c3 Q (hi' + 1 - lo) lo
    clear hd hn
    refine gives_loop ?_
    have hjl : (j : Int) < gs.length := by omega
    have d1 : decide ((lo : Int) < i) = false := decF (by omega)
    have d2 : decide ((hi' : Int) < lo) = false := decF (by omega)
    have d3 : decide ((W : Int) ≤ hi') = false := decF (by omega)
    simp (disch := omega) [lp, Tryz.f3, loops, g14, g19, g33, g34, ix, decT, decF, regionD_plain p5]
    generalize hx : loopL env _ _ _ = L
    apply gives_cut hx
    clear hx
    refine gives_codeL (c' := lp Tryz.f3 7) (by kernel_rfl) ?_
    refine hL7 _ _ (by omega) c4 (by simp [g19]) (by simp [g25]) (by simp [g33]) (by simp [g34]) (fun sl1 kk1 k33 => ?_)
    have b3 := kk1 3 (by decide)
    have b4 := kk1 4 (by decide)
    have b14 := kk1.get (v := .int .i64 W) (t := 14) (by simp [g14]) (by decide)
    have b19 := kk1.get (v := .lst (ivs gs)) (t := 19) (by simp [g19]) (by decide)
    have b25 := kk1.get (v := .ref 3 W 0 W) (t := 25) (by simp [g25]) (by decide)
    have b34 := kk1.get (v := .int .i64 j) (t := 34) (by simp [g34]) (by decide)
    simp at b3 b4
    simp (disch := omega)
    generalize hx : loopL env _ _ _ = L
    apply gives_cut hx
    clear hx
    refine gives_codeL (c' := lp Tryz.f3 8) (by kernel_rfl) ?_
    refine hL8 _ _ (by omega) c5 b19 b25 k33 b34 (fun sl2 kk2 k33 => ?_)
    have d3 := kk2 3 (by decide)
    have d4 := kk2 4 (by decide)
    have d14 := kk2.get b14 (by decide)
    have d19 := kk2.get b19 (by decide)
    have d25 := kk2.get b25 (by decide)
    have d34 := kk2.get b34 (by decide)
    simp (disch := omega) [d34, wrapI]
    refine gives_codeL (c' := lp Tryz.f3 6) (by kernel_rfl) ?_
    refine ih (j + 1) (hi' + 1) _ (by omega) hr' c6 (by omega) (by simp [d14]) (by simp [d19]) (by simp [d25]) (by simp [k33]) (by simp) (fun sl' i' kk => q sl' i' (Keep.trans ?_ kk))
    intro t ht
    simp only [ks8, List.mem_cons, List.not_mem_nil, or_false] at ht
    rcases ht with rfl | rfl | rfl | rfl
    · simp [d3, b3]
    · simp [d4, b4]
    · simp [d14, g14]
    · simp [d25, g25]
end Heard
