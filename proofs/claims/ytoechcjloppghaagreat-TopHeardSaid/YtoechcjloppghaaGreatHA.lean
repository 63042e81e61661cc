/- TopHeard: words of 16 bits; rules by which simp runs the code. -/
import Derived.Test.YtoechcjloppghaaGreatAbs25
import Derived.Test.YtoechcjloppghaaGreatChecked
import Derived.Test.YtoechcjloppghaaGreatAbs26
/- TopHeard: the types and functions it reaches. -/
open Go Go.Proofs Go.Abs
namespace Heard
def cmH (f : Nat) : CM := bif Nat.beq f 45 || Nat.beq f 52 || Nat.beq f 55 then .frz else bif Nat.beq f 22 then .full else bif Nat.ble f 24 || ([28, 29, 30, 36, 37, 38, 39, 48, 51, 60, 61, 62, 63, 67, 79, 66, 65, 33, 27, 35, 56, 46, 53, 88, 102, 76, 91, 92, 98, 43, 70, 71, 47, 57] : List Nat).any (Nat.beq f) then .pure else .full
noncomputable def env : Env := envOf Tryz.prog cmH (fun _ => false)
theorem ti3 : tiOf Tryz.prog 3 = some ⟨(.int Go.IntKind.i64), 1, 8, (.int Go.IntKind.i64 (0)), true⟩ := by kernel_rfl
theorem ti4 : tiOf Tryz.prog 4 = some ⟨.bool, 1, 1, (.bool false), true⟩ := by kernel_rfl
theorem ti5 : tiOf Tryz.prog 5 = some ⟨(.int Go.IntKind.u8), 1, 1, (.int Go.IntKind.u8 (0)), true⟩ := by kernel_rfl
theorem ti22 : tiOf Tryz.prog 22 = some ⟨(.slice 35), 1, 24, .nil, true⟩ := by kernel_rfl
theorem ti23 : tiOf Tryz.prog 23 = some ⟨(.slice 3), 1, 24, .nil, true⟩ := by kernel_rfl
theorem ti24 : tiOf Tryz.prog 24 = some ⟨(.slice 5), 1, 24, .nil, true⟩ := by kernel_rfl
theorem ti25 : tiOf Tryz.prog 25 = some ⟨(.int Go.IntKind.i64), 1, 8, (.int Go.IntKind.i64 (0)), true⟩ := by kernel_rfl
theorem ti29 : tiOf Tryz.prog 29 = some ⟨(.slice 37), 1, 24, .nil, true⟩ := by kernel_rfl
theorem ti33 : tiOf Tryz.prog 33 = some ⟨(.slice 4), 1, 24, .nil, true⟩ := by kernel_rfl
theorem ti35 : tiOf Tryz.prog 35 = some ⟨(.struct [⟨0, 3, 1, false⟩, ⟨1, 3, 1, false⟩, ⟨2, 3, 1, false⟩]), 3, 24, (.agg [(.int Go.IntKind.i64 (0)), (.int Go.IntKind.i64 (0)), (.int Go.IntKind.i64 (0))]), true⟩ := by kernel_rfl
theorem ti37 : tiOf Tryz.prog 37 = some ⟨(.struct [⟨0, 3, 1, false⟩, ⟨1, 3, 1, false⟩]), 2, 16, (.agg [(.int Go.IntKind.i64 (0)), (.int Go.IntKind.i64 (0))]), true⟩ := by kernel_rfl
theorem ti40 : tiOf Tryz.prog 40 = some ⟨(.slice 23), 1, 24, .nil, true⟩ := by kernel_rfl
theorem ti83 : tiOf Tryz.prog 83 = some ⟨(.array 5 3), 5, 40, (.agg [(.int Go.IntKind.i64 (0)), (.int Go.IntKind.i64 (0)), (.int Go.IntKind.i64 (0)), (.int Go.IntKind.i64 (0)), (.int Go.IntKind.i64 (0))]), true⟩ := by kernel_rfl
theorem ti95 : tiOf Tryz.prog 95 = some ⟨(.array 11 3), 11, 88, (.agg [(.int Go.IntKind.i64 (0)), (.int Go.IntKind.i64 (0)), (.int Go.IntKind.i64 (0)), (.int Go.IntKind.i64 (0)), (.int Go.IntKind.i64 (0)), (.int Go.IntKind.i64 (0)), (.int Go.IntKind.i64 (0)), (.int Go.IntKind.i64 (0)), (.int Go.IntKind.i64 (0)), (.int Go.IntKind.i64 (0)), (.int Go.IntKind.i64 (0))]), true⟩ := by kernel_rfl
theorem fn3 : fnOf Tryz.prog 3 = some Tryz.f3 := by kernel_rfl
theorem fn4 : fnOf Tryz.prog 4 = some Tryz.f4 := by kernel_rfl
theorem fn5 : fnOf Tryz.prog 5 = some Tryz.f5 := by kernel_rfl
theorem fn6 : fnOf Tryz.prog 6 = some Tryz.f6 := by kernel_rfl
theorem fn7 : fnOf Tryz.prog 7 = some Tryz.f7 := by kernel_rfl
theorem fn8 : fnOf Tryz.prog 8 = some Tryz.f8 := by kernel_rfl
theorem fn9 : fnOf Tryz.prog 9 = some Tryz.f9 := by kernel_rfl
theorem fn11 : fnOf Tryz.prog 11 = some Tryz.f11 := by kernel_rfl
theorem fn12 : fnOf Tryz.prog 12 = some Tryz.f12 := by kernel_rfl
theorem fn13 : fnOf Tryz.prog 13 = some Tryz.f13 := by kernel_rfl
theorem fn14 : fnOf Tryz.prog 14 = some Tryz.f14 := by kernel_rfl
theorem fn15 : fnOf Tryz.prog 15 = some Tryz.f15 := by kernel_rfl
theorem fn16 : fnOf Tryz.prog 16 = some Tryz.f16 := by kernel_rfl
theorem fn17 : fnOf Tryz.prog 17 = some Tryz.f17 := by kernel_rfl
theorem fn18 : fnOf Tryz.prog 18 = some Tryz.f18 := by kernel_rfl
theorem fn19 : fnOf Tryz.prog 19 = some Tryz.f19 := by kernel_rfl
theorem fn20 : fnOf Tryz.prog 20 = some Tryz.f20 := by kernel_rfl
theorem fn21 : fnOf Tryz.prog 21 = some Tryz.f21 := by kernel_rfl
theorem fn22 : fnOf Tryz.prog 22 = some Tryz.f22 := by kernel_rfl
theorem fn23 : fnOf Tryz.prog 23 = some Tryz.f23 := by kernel_rfl
theorem fn24 : fnOf Tryz.prog 24 = some Tryz.f24 := by kernel_rfl
theorem fn28 : fnOf Tryz.prog 28 = some Tryz.f28 := by kernel_rfl
theorem fn29 : fnOf Tryz.prog 29 = some Tryz.f29 := by kernel_rfl
theorem fn30 : fnOf Tryz.prog 30 = some Tryz.f30 := by kernel_rfl
theorem fn36 : fnOf Tryz.prog 36 = some Tryz.f36 := by kernel_rfl
theorem fn37 : fnOf Tryz.prog 37 = some Tryz.f37 := by kernel_rfl
theorem fn38 : fnOf Tryz.prog 38 = some Tryz.f38 := by kernel_rfl
end Heard

/- TopHeard: functions without loops. -/
open Go Go.Proofs Go.Abs
namespace Heard
theorem envti (t : TypeId) : env.ti t = tiOf Tryz.prog t := by kernel_rfl
theorem envfn (t : TypeId) : env.fn t = fnOf Tryz.prog t := by kernel_rfl
attribute [simp] envti envfn
theorem cost_ok (i : Int) (h0 : 0 ≤ i) (h5 : i < 5) (h : Heap) : callL env 24 [.int .i64 i] h = some (.int .i64 (([0, 3, 4, 4, 4] : List Int).getD i.toNat 0), h) := by
  apply callL_body
  simp [fn24, Tryz.f24, entry, ti83, ti3, fillA, sub, splice, AV.cells, AV.solid, indexA, kd, partA, TK.isAgg, h0, h5]
  obtain ⟨k, rfl⟩ := Int.eq_ofNat_of_zero_le h0
  match k, h5 with
  | 0, _ => rfl
  | 1, _ => rfl
  | 2, _ => rfl
  | 3, _ => rfl
  | 4, _ => rfl
  | k + 5, h5 => omega
theorem mark_ok (v : Int) (h : Heap) : callL env 20 [.int .i64 v] h = some (.bool (decide (1536 < v) && decide (v ≤ 1544)), h) := by
  apply callL_body
  by_cases h1 : 1536 < v <;> simp [fn20, Tryz.f20, entry, h1]
theorem delta_ok (v : Int) (h : Heap) : callL env 30 [.int .i64 v] h = some (.bool (decide (0 ≤ v) && decide (v ≤ 1023)), h) := by
  apply callL_body
  by_cases h1 : 0 ≤ v <;> simp [fn30, Tryz.f30, entry, h1]
end Heard

open Go Go.Proofs Go.Abs
namespace Heard
theorem long_ok (a b : List AV) : callL env 21 [.lst a, .lst b] [] = some (.bool (decide (96 < a.length) || decide (96 < b.length)), []) := by
  apply callL_body
  by_cases h1 : 96 < (a.length : Int)
  · have h1' : 96 < a.length := by omega
    simp [fn21, Tryz.f21, entry, builtinA, kd, ti23, lenA, h1, h1']
  · have h1' : ¬ 96 < a.length := by omega
    simp [fn21, Tryz.f21, entry, builtinA, kd, ti23, lenA, h1, h1']
    by_cases h2 : 96 < (b.length : Int)
    · simp [h2]; omega
    · simp [h2]; omega
theorem places_ok : Gives (callL env 36 [] []) fun r => r.1 = .agg (([3, 5, 6, 7, 9, 10, 11, 12, 13, 14, 15] : List Int).map (.int .i64)) := by
  apply gives_call
  simp [fn36, Tryz.f36, entry, ti95, ti3, fillA, sub, splice, AV.cells, AV.solid, storeP, loadP, snoc, setE, AV.one, loadE, TK.isAgg]
end Heard

open Go Go.Proofs Go.Abs
namespace Heard
variable {E : Env} (t : TypeId)
theorem ofN (a : Nat) (ha : a < 2 ^ 62) : (BitVec.ofInt 64 (a : Int)).toNat = a := by
  simp [BitVec.toNat_ofInt]; omega
theorem wrapN (a : Nat) (ha : a < 2 ^ 62) : IntKind.i64.wrap (a : Int) = a := wrap64 (by omega) (by omega)
theorem bin_andN (a b : Nat) (ha : a < 2 ^ 62) (hb : b < 2 ^ 62) : binA E .and t (.int .i64 a) (.int .i64 b) = some (.int .i64 ((a &&& b : Nat) : Int)) := by
  have h3 : a &&& b ≤ a := Nat.and_le_left
  rw [bin_and]
  show some (AV.int .i64 (IntKind.i64.wrap (((BitVec.ofInt 64 (a : Int) &&& BitVec.ofInt 64 (b : Int)).toNat : Nat) : Int))) = _
  rw [BitVec.toNat_and, ofN a ha, ofN b hb, wrapN _ (by omega)]
theorem bin_orN (a b : Nat) (ha : a < 2 ^ 62) (hb : b < 2 ^ 62) : binA E .or t (.int .i64 a) (.int .i64 b) = some (.int .i64 ((a ||| b : Nat) : Int)) := by
  have h3 : a ||| b < 2 ^ 62 := Nat.or_lt_two_pow ha hb
  rw [bin_or]
  show some (AV.int .i64 (IntKind.i64.wrap (((BitVec.ofInt 64 (a : Int) ||| BitVec.ofInt 64 (b : Int)).toNat : Nat) : Int))) = _
  rw [BitVec.toNat_or, ofN a ha, ofN b hb, wrapN _ h3]
theorem bin_xorN (a b : Nat) (ha : a < 2 ^ 62) (hb : b < 2 ^ 62) : binA E .xor t (.int .i64 a) (.int .i64 b) = some (.int .i64 ((a ^^^ b : Nat) : Int)) := by
  have h3 : a ^^^ b < 2 ^ 62 := Nat.xor_lt_two_pow ha hb
  rw [bin_xor]
  show some (AV.int .i64 (IntKind.i64.wrap (((BitVec.ofInt 64 (a : Int) ^^^ BitVec.ofInt 64 (b : Int)).toNat : Nat) : Int))) = _
  rw [BitVec.toNat_xor, ofN a ha, ofN b hb, wrapN _ h3]
theorem bin_shrN (a b : Nat) (hb : b < 64) : binA E .shr t (.int .i64 a) (.int .i64 b) = some (.int .i64 ((a >>> b : Nat) : Int)) := by
  rw [bin_shr, if_neg (by omega)]
  have h1 : min (b : Int).toNat IntKind.i64.bits = b := by simp [IntKind.bits]; omega
  rw [h1, Nat.shiftRight_eq_div_pow]
  congr 2
  have h2 : ((2 : Int) ^ b) = ((2 ^ b : Nat) : Int) := by simp
  rw [h2]
  exact (Int.fdiv_eq_ediv_of_nonneg _ (Int.natCast_nonneg _)).trans (by simp)
end Heard

open Go Go.Proofs Go.Abs
namespace Heard
def synN : Nat → Nat → Nat → Nat → Nat
  | 0, _, _, s => s
  | k + 1, p, w, s => synN k (p + 1) w (if (w >>> p) &&& 1 = 1 then s ^^^ p else s)
theorem syn_loop (h : Heap) (w : Nat) (hw : w < 65536) : ∀ (k p s : Nat) (sl : List (Nat × AV)), p + k = 16 → s < 16 → getS sl (.tup []) 0 = .int .i64 w → getS sl (.tup []) 4 = .int .i64 p → getS sl (.tup []) 3 = .int .i64 s →
    Gives (loopL env (lp Tryz.f37 0) ⟨18, .tup [], sl, []⟩ h) fun out => ∃ sl', out = .exit 0 ⟨18, .tup [], sl', []⟩ h ∧ getS sl' (.tup []) 3 = .int .i64 (synN k p w s) := by
  intro k
  induction k with
  | zero =>
    intro p s sl hp hs h0 h4 h3
    obtain rfl : p = 16 := by omega
    refine gives_loop ?_
    simp [lp, Tryz.f37, loops, h0, h4, h3, synN]
  | succ k ih =>
    intro p s sl hp hs h0 h4 h3
    refine gives_loop ?_
    have e1 : (p : Int) < 16 := by omega
    have e2 : binA env .shr 3 (.int .i64 w) (.int .i64 p) = some (.int .i64 ((w >>> p : Nat) : Int)) := bin_shrN 3 w p (by omega)
    have hsh : w >>> p ≤ w := Nat.shiftRight_le w p
    have e3 : binA env .and 3 (.int .i64 ((w >>> p : Nat) : Int)) (.int .i64 1) = some (.int .i64 ((w >>> p &&& 1 : Nat) : Int)) := bin_andN 3 (w >>> p) 1 (by omega) (by omega)
    have e4 : binA env .xor 3 (.int .i64 s) (.int .i64 p) = some (.int .i64 ((s ^^^ p : Nat) : Int)) := bin_xorN 3 s p (by omega) (by omega)
    have e5 : IntKind.i64.wrap ((p : Int) + 1) = ((p + 1 : Nat) : Int) := by rw [wrap64 (by omega) (by omega)]; omega
    have hx : s ^^^ p < 16 := Nat.xor_lt_two_pow (n := 4) hs (by omega)
    simp only [synN]
    generalize w >>> p = x at *
    generalize x &&& 1 = y at *
    generalize s ^^^ p = z at *
    by_cases hb : y = 1
    · subst hb
      simp [-bin_shr, -bin_and, -bin_xor, lp, Tryz.f37, loops, h0, h4, h3, e1, e2, e3, e4, e5]
      refine gives_imp (ih (p + 1) z _ (by omega) hx (by simp [h0]) (by simp) (by simp)) ?_
      rintro r ⟨sl', rfl, h'⟩
      exact ⟨sl', rfl, h'⟩
    · have hb' : ¬ (y : Int) = 1 := by omega
      simp [-bin_shr, -bin_and, -bin_xor, lp, Tryz.f37, loops, h0, h4, h3, e1, e2, e3, e5, hb', hb]
      refine gives_imp (ih (p + 1) s _ (by omega) hs (by simp [h0]) (by simp) (by simp [h3])) ?_
      rintro r ⟨sl', rfl, h'⟩
      exact ⟨sl', rfl, h'⟩
end Heard

open Go Go.Proofs Go.Abs
namespace Heard
def onesN : Nat → Nat → Nat
  | 0, _ => 0
  | k + 1, w => if w = 0 then 0 else onesN k (w &&& (w - 1)) + 1
theorem andlow (w : Nat) (hw : w < 2 ^ 62) : IntKind.i64.wrap ((w % 2 ^ IntKind.i64.bits &&& (w - 1) % 2 ^ IntKind.i64.bits : Nat) : Int) = ((w &&& (w - 1) : Nat) : Int) := by
  have h1 : w % 2 ^ IntKind.i64.bits = w := Nat.mod_eq_of_lt (by simp [IntKind.bits]; omega)
  have h2 : (w - 1) % 2 ^ IntKind.i64.bits = w - 1 := Nat.mod_eq_of_lt (by simp [IntKind.bits]; omega)
  have h3 : w &&& (w - 1) ≤ w := Nat.and_le_left
  rw [h1, h2, wrap64 (by omega) (by omega)]
theorem ones_loop (h : Heap) : ∀ (k w : Nat), w ≤ k → w < 2 ^ 62 → ∀ (n : Int) (sl : List (Nat × AV)), 0 ≤ n → n + k < 2 ^ 62 → getS sl (.tup []) 0 = .int .i64 w → getS sl (.tup []) 3 = .int .i64 n →
    Gives (loopL env (lp Tryz.f38 0) ⟨13, .tup [], sl, []⟩ h) fun out => ∃ sl', out = .exit 0 ⟨13, .tup [], sl', []⟩ h ∧ getS sl' (.tup []) 3 = .int .i64 (n + onesN k w) := by
  intro k
  induction k with
  | zero =>
    intro w hw hlt n sl hn hnk h0 h3
    obtain rfl : w = 0 := by omega
    refine gives_loop ?_
    simp [lp, Tryz.f38, loops, h0, h3, onesN]
  | succ k ih =>
    intro w hw hlt n sl hn hnk h0 h3
    refine gives_loop ?_
    by_cases hz : w = 0
    · subst hz
      simp [lp, Tryz.f38, loops, h0, h3, onesN]
    · have hw0 : (w : Int) ≠ 0 := by omega
      have hle : w &&& (w - 1) ≤ w - 1 := Nat.and_le_right
      have e1 : IntKind.i64.wrap (n + 1) = n + 1 := wrap64 (by omega) (by omega)
      have e2 : IntKind.i64.wrap ((w : Int) - 1) = ((w - 1 : Nat) : Int) := by rw [wrap64 (by omega) (by omega)]; omega
      simp [lp, Tryz.f38, loops, h0, h3, onesN, hz, e1, e2, andlow w hlt]
      refine gives_imp (ih (w &&& (w - 1)) (by omega) (by omega) (n + 1) _ (by omega) (by omega) (by simp) (by simp)) ?_
      rintro r ⟨sl', rfl, h'⟩
      exact ⟨sl', rfl, by rw [h']; congr 1; omega⟩
theorem ones_ok (w : Nat) (hw : w < 65536) : callL env 38 [.int .i64 w] [] = some (.int .i64 (onesN 65536 w), []) := by
  apply callL_body
  simp [fn38, Tryz.f38, entry]
  generalize hl : loopL env _ _ _ = L
  have hg : Gives L fun out => ∃ sl', out = .exit 0 ⟨13, .tup [], sl', []⟩ [] ∧ getS sl' (.tup []) 3 = .int .i64 (0 + onesN 65536 w) := by
    rw [← hl]
    exact ones_loop [] 65536 w (by omega) (by omega) 0 _ (by omega) (by omega) (by simp) (by simp)
  obtain ⟨r, rfl, sl', rfl, h3⟩ := gives_iff.1 hg
  simp [h3]
theorem syn_ok (w : Nat) (hw : w < 65536) : callL env 37 [.int .i64 w] [] = some (.int .i64 (synN 15 1 w 0), []) := by
  apply callL_body
  simp [fn37, Tryz.f37, entry]
  generalize hl : loopL env _ _ _ = L
  have hg : Gives L fun out => ∃ sl', out = .exit 0 ⟨18, .tup [], sl', []⟩ [] ∧ getS sl' (.tup []) 3 = .int .i64 (synN 15 1 w 0) := by
    rw [← hl]
    exact syn_loop [] w hw 15 1 0 _ (by omega) (by omega) (by simp) (by simp) (by simp)
  obtain ⟨r, rfl, sl', rfl, h3⟩ := gives_iff.1 hg
  simp [h3]
end Heard

open Go Go.Proofs Go.Abs
namespace Heard
theorem callE {f : FuncId} (hm : cmH f = .pure) {args : List AV} {r : AV × Heap} {v : AV} (hcl : args.all (closed? depth) = true) (hc : callL env f args [] = some r) (hs : snap .any depth r.2 r.1 = some v) (h : Heap) : callN env (callL env) f args h = some (v, h) := by
  have h1 : env.nat f = none := rfl
  have h2 : env.cm f = .pure := hm
  unfold callN
  simp only [h1, h2, hcl, cond_true, hc, Option.bind_some, hs, Option.map_some]
theorem closed_int (k : IntKind) (n : Int) : closed? depth (.int k n) = true := rfl
theorem c36 (h : Heap) : callN env (callL env) 36 [] h = some (.agg (([3, 5, 6, 7, 9, 10, 11, 12, 13, 14, 15] : List Int).map (.int .i64)), h) := by
  obtain ⟨r, hr, hv⟩ := gives_iff.1 places_ok
  refine callE rfl rfl hr ?_ h
  rw [hv]; simp [snap, depth]
theorem c37 (w : Nat) (hw : w < 65536) (h : Heap) : callN env (callL env) 37 [.int .i64 w] h = some (.int .i64 (synN 15 1 w 0), h) := callE rfl rfl (syn_ok w hw) rfl h
theorem c38 (w : Nat) (hw : w < 65536) (h : Heap) : callN env (callL env) 38 [.int .i64 w] h = some (.int .i64 (onesN 65536 w), h) := callE rfl rfl (ones_ok w hw) rfl h
end Heard

open Go Go.Proofs Go.Abs
namespace Heard
def PL : List Nat := [3, 5, 6, 7, 9, 10, 11, 12, 13, 14, 15]
def PLA : AV := .agg (([3, 5, 6, 7, 9, 10, 11, 12, 13, 14, 15] : List Int).map (.int .i64))
theorem bin_shlN {E : Env} (t : TypeId) (a b : Nat) (h : a <<< b < 2 ^ 62) (hb : b < 64) : binA E .shl t (.int .i64 a) (.int .i64 b) = some (.int .i64 ((a <<< b : Nat) : Int)) := by
  rw [bin_shl, if_neg (by omega)]
  have h1 : min (b : Int).toNat IntKind.i64.bits = b := by simp [IntKind.bits]; omega
  rw [h1]
  have h2 : (a : Int) * 2 ^ b = ((a <<< b : Nat) : Int) := by rw [Nat.shiftLeft_eq]; simp
  rw [h2, wrapN _ h]
theorem index_places (i p : Nat) (h : PL[i]? = some p) : indexA env 95 PLA (.int .i64 i) = some (.int .i64 p) := by
  have hlt : i < 11 := (List.getElem?_eq_some_iff.1 h).1
  match i, hlt with
  | 0, _ | 1, _ | 2, _ | 3, _ | 4, _ | 5, _ | 6, _ | 7, _ | 8, _ | 9, _ | 10, _ =>
    simp [PL] at h; subst h
    simp [indexA, kd, ti95, ti3, PLA, partA, TK.isAgg]
def scatN : List Nat → Nat → Nat → Nat → Nat
  | [], _, _, acc => acc
  | p :: r, i, v, acc => scatN r (i + 1) v (acc ||| ((v >>> i &&& 1) <<< p))
theorem word_loop0 (h : Heap) (v : Nat) (hv : v < 2048) : ∀ (r : List Nat) (i acc : Nat) (sl : List (Nat × AV)), i + r.length = 11 → PL.drop i = r → acc < 65536 → getS sl (.tup []) 0 = .int .i64 v → getS sl (.tup []) 3 = .int .i64 acc → getS sl (.tup []) 9 = .int .i64 i → getS sl (.tup []) 8 = PLA →
    Gives (loopL env (lp Tryz.f28 0) ⟨41, .tup [], sl, []⟩ h) fun out => ∃ sl', out = .exit 0 ⟨41, .tup [], sl', []⟩ h ∧ getS sl' (.tup []) 3 = .int .i64 (scatN r i v acc) ∧ scatN r i v acc < 65536 := by
  intro r
  induction r with
  | nil =>
    intro i acc sl hi hr ha h0 h3 h9 h8
    obtain rfl : i = 11 := by simpa using hi
    refine gives_loop ?_
    simp [lp, Tryz.f28, loops, h3, h9, scatN, ha]
  | cons p r ih =>
    intro i acc sl hi hr ha h0 h3 h9 h8
    simp only [List.length_cons] at hi
    have hp : PL[i]? = some p := by
      have := congrArg (·[0]?) hr
      simpa using this
    have hpm : p < 16 := by
      have := List.mem_of_getElem? hp
      revert this; unfold PL; intro this; simp at this; omega
    have e0 := index_places i p hp
    have e1 : (i : Int) < 11 := by omega
    have e2 : binA env .shr 3 (.int .i64 v) (.int .i64 i) = some (.int .i64 ((v >>> i : Nat) : Int)) := bin_shrN 3 v i (by omega)
    have hsh : v >>> i ≤ v := Nat.shiftRight_le v i
    have e3 : binA env .and 3 (.int .i64 ((v >>> i : Nat) : Int)) (.int .i64 1) = some (.int .i64 ((v >>> i &&& 1 : Nat) : Int)) := bin_andN 3 (v >>> i) 1 (by omega) (by omega)
    have hb1 : v >>> i &&& 1 ≤ 1 := Nat.and_le_right
    have hsl : (v >>> i &&& 1) <<< p < 65536 := by
      rw [Nat.shiftLeft_eq]
      have : 2 ^ p ≤ 2 ^ 15 := Nat.pow_le_pow_right (by omega) (by omega)
      have : (v >>> i &&& 1) * 2 ^ p ≤ 1 * 2 ^ p := Nat.mul_le_mul_right _ hb1
      omega
    have e4 : binA env .shl 3 (.int .i64 ((v >>> i &&& 1 : Nat) : Int)) (.int .i64 p) = some (.int .i64 (((v >>> i &&& 1) <<< p : Nat) : Int)) := bin_shlN 3 _ p (by omega) (by omega)
    have e5 : binA env .or 3 (.int .i64 acc) (.int .i64 (((v >>> i &&& 1) <<< p : Nat) : Int)) = some (.int .i64 ((acc ||| (v >>> i &&& 1) <<< p : Nat) : Int)) := bin_orN 3 acc _ (by omega) (by omega)
    have hacc : acc ||| (v >>> i &&& 1) <<< p < 65536 := Nat.or_lt_two_pow (n := 16) ha hsl
    have e6 : IntKind.i64.wrap ((i : Int) + 1) = ((i + 1 : Nat) : Int) := by rw [wrap64 (by omega) (by omega)]; omega
    simp only [scatN]
    generalize acc ||| (v >>> i &&& 1) <<< p = z at *
    generalize (v >>> i &&& 1) <<< p = y at *
    generalize v >>> i &&& 1 = x1 at *
    generalize v >>> i = x at *
    refine gives_loop ?_
    simp [-bin_shr, -bin_and, -bin_or, -bin_shl, lp, Tryz.f28, loops, h0, h3, h9, h8, e0, e1, e2, e3, e4, e5, e6]
    refine gives_imp (ih (i + 1) z _ (by omega) (by rw [← List.drop_drop, hr]; rfl) hacc (by simp [h0]) (by simp) (by simp) (by simp [h8])) ?_
    rintro r ⟨sl', rfl, h'⟩
    exact ⟨sl', rfl, h'⟩
end Heard

open Go Go.Proofs Go.Abs
namespace Heard
def parN : Nat → Nat → Nat → Nat → Nat
  | 0, _, _, acc => acc
  | k + 1, p, s, acc => parN k (p <<< 1) s (if s &&& p ≠ 0 then acc ||| (1 <<< p) else acc)
theorem word_loop1 (h : Heap) (s : Nat) (hs : s < 16) : ∀ (k p acc : Nat) (sl : List (Nat × AV)), p <<< k = 16 → acc < 65536 → getS sl (.tup []) 6 = .int .i64 s → getS sl (.tup []) 3 = .int .i64 acc → getS sl (.tup []) 7 = .int .i64 p →
    Gives (loopL env (lp Tryz.f28 1) ⟨41, .tup [], sl, []⟩ h) fun out => ∃ sl', out = .exit 2 ⟨41, .tup [], sl', []⟩ h ∧ getS sl' (.tup []) 3 = .int .i64 (parN k p s acc) ∧ parN k p s acc < 65536 := by
  intro k
  induction k with
  | zero =>
    intro p acc sl hp ha h6 h3 h7
    obtain rfl : p = 16 := by simpa using hp
    refine gives_loop ?_
    simp [lp, Tryz.f28, loops, h3, h7, parN, ha]
  | succ k ih =>
    intro p acc sl hp ha h6 h3 h7
    have hp' : (p <<< 1) <<< k = 16 := by rw [← Nat.shiftLeft_add, Nat.add_comm]; exact hp
    have hlt : p < 16 := by
      rw [Nat.shiftLeft_eq] at hp
      have : 1 ≤ 2 ^ k := Nat.one_le_two_pow
      rw [Nat.pow_succ] at hp
      have h2 : p * 2 ≤ p * (2 ^ k * 2) := Nat.mul_le_mul_left _ (by omega)
      omega
    have e1 : (p : Int) < 16 := by omega
    have e2 : binA env .and 3 (.int .i64 s) (.int .i64 p) = some (.int .i64 ((s &&& p : Nat) : Int)) := bin_andN 3 s p (by omega) (by omega)
    have hsh : 1 <<< p < 65536 := by
      rw [Nat.shiftLeft_eq, Nat.one_mul]
      exact Nat.pow_lt_pow_right (n := 16) (a := 2) (by omega) hlt
    have e3 : binA env .shl 3 (.int .i64 1) (.int .i64 p) = some (.int .i64 ((1 <<< p : Nat) : Int)) := bin_shlN 3 1 p (by omega) (by omega)
    have e4 : binA env .or 3 (.int .i64 acc) (.int .i64 ((1 <<< p : Nat) : Int)) = some (.int .i64 ((acc ||| 1 <<< p : Nat) : Int)) := bin_orN 3 acc _ (by omega) (by omega)
    have hacc : acc ||| 1 <<< p < 65536 := Nat.or_lt_two_pow (n := 16) ha hsh
    have e5 : ∀ k', binA env .shl 3 (.int .i64 p) (.int k' 1) = some (.int .i64 ((p <<< 1 : Nat) : Int)) := fun k' => by
      rw [bin_shl, ← bin_shl (E := env) 3 .i64 p 1 .i64]
      exact bin_shlN 3 p 1 (by rw [Nat.shiftLeft_eq]; omega) (by omega)
    simp only [parN]
    generalize acc ||| 1 <<< p = z at *
    generalize 1 <<< p = y at *
    generalize s &&& p = x at *
    generalize p <<< 1 = q at *
    refine gives_loop ?_
    by_cases hx : x = 0
    · subst hx
      simp [-bin_shr, -bin_and, -bin_or, -bin_shl, lp, Tryz.f28, loops, h6, h3, h7, e1, e2, e5]
      refine gives_imp (ih q acc _ hp' ha (by simp [h6]) (by simp [h3]) (by simp)) ?_
      rintro r ⟨sl', rfl, h'⟩
      exact ⟨sl', rfl, h'⟩
    · have hx' : ¬ (x : Int) = 0 := by omega
      simp [-bin_shr, -bin_and, -bin_or, -bin_shl, lp, Tryz.f28, loops, h6, h3, h7, e1, e2, e3, e4, e5, hx]
      refine gives_imp (ih q z _ hp' hacc (by simp [h6]) (by simp) (by simp)) ?_
      rintro r ⟨sl', rfl, h'⟩
      exact ⟨sl', rfl, h'⟩
end Heard

open Go Go.Proofs Go.Abs
namespace Heard
theorem synN_lt : ∀ (k p w s : Nat), p + k ≤ 16 → s < 16 → synN k p w s < 16
  | 0, p, w, s, _, hs => hs
  | k + 1, p, w, s, hp, hs => by
    simp only [synN]
    split
    · exact synN_lt k (p + 1) w _ (by omega) (Nat.xor_lt_two_pow (n := 4) hs (by omega))
    · exact synN_lt k (p + 1) w s (by omega) hs
theorem onesN_le : ∀ (k w : Nat), onesN k w ≤ k
  | 0, _ => by simp [onesN]
  | k + 1, w => by
    simp only [onesN]
    split
    · omega
    · have := onesN_le k (w &&& (w - 1)); omega
def wordN (v : Nat) : Nat :=
  parN 4 1 (synN 15 1 (scatN PL 0 v 0) 0) (scatN PL 0 v 0) ||| (onesN 65536 (parN 4 1 (synN 15 1 (scatN PL 0 v 0) 0) (scatN PL 0 v 0)) &&& 1)
set_option maxRecDepth 100000 in
theorem word_ok (v : Nat) (hv : v < 2048) : callL env 28 [.int .i64 v] [] = some (.int .i64 (wordN v), []) ∧ wordN v < 65536 := by
  have c0 := c36 []
  change callN env (callL env) 36 [] [] = some (PLA, []) at c0
  have key : Gives (body env (callL env) (loopL env) 28 [.int .i64 v] []) fun r => r = (.int .i64 (wordN v), []) ∧ wordN v < 65536 := by
    simp [fn28, Tryz.f28, entry, c0]
    generalize hl : loopL env _ _ _ = L
    have hg : Gives L fun out => ∃ sl', out = .exit 0 ⟨41, .tup [], sl', []⟩ [] ∧ getS sl' (.tup []) 3 = .int .i64 (scatN PL 0 v 0) ∧ scatN PL 0 v 0 < 65536 := by
      rw [← hl]
      exact word_loop0 [] v hv PL 0 0 _ rfl rfl (by omega) (by simp) (by simp) (by simp) (by simp)
    obtain ⟨r, rfl, sl', rfl, h3, hlt⟩ := gives_iff.1 hg
    clear hl hg
    unfold wordN
    generalize hx : scatN PL 0 v 0 = x at *
    have hs := synN_lt 15 1 x 0 (by omega) (by omega)
    have c1 := c37 x hlt []
    simp [h3, c1]
    generalize hl : loopL env _ _ _ = L2
    have hg2 : Gives L2 fun out => ∃ sl', out = .exit 2 ⟨41, .tup [], sl', []⟩ [] ∧ getS sl' (.tup []) 3 = .int .i64 (parN 4 1 (synN 15 1 x 0) x) ∧ parN 4 1 (synN 15 1 x 0) x < 65536 := by
      rw [← hl]
      exact word_loop1 [] (synN 15 1 x 0) hs 4 1 x _ rfl hlt (by simp) (by simp [h3]) (by simp)
    obtain ⟨r, rfl, sl2, rfl, h32, hlt2⟩ := gives_iff.1 hg2
    generalize synN 15 1 x 0 = s at *
    generalize parN 4 1 s x = y at *
    have c2 := c38 y hlt2 []
    have ho := onesN_le 65536 y
    generalize onesN 65536 y = z at *
    have hz : z &&& 1 ≤ 1 := Nat.and_le_right
    have e1 : binA env .and 3 (.int .i64 z) (.int .i64 1) = some (.int .i64 ((z &&& 1 : Nat) : Int)) := bin_andN 3 z 1 (by omega) (by omega)
    have e2 : binA env .or 3 (.int .i64 y) (.int .i64 ((z &&& 1 : Nat) : Int)) = some (.int .i64 ((y ||| (z &&& 1) : Nat) : Int)) := bin_orN 3 y _ (by omega) (by omega)
    have h4 : y ||| (z &&& 1) < 65536 := Nat.or_lt_two_pow (n := 16) hlt2 (by omega)
    simp only [Nat.and_one_is_mod] at e1 e2 h4 ⊢
    generalize z % 2 = q at *
    clear hl hg2
    simp [-bin_and, -bin_or, h32, c2, e1, e2, h4]
  obtain ⟨r, hr, rfl, h4⟩ := gives_iff.1 key
  exact ⟨callL_body hr, h4⟩
end Heard

open Go Go.Proofs Go.Abs
namespace Heard
def gathN : List Nat → Nat → Nat → Nat → Nat
  | [], _, _, v => v
  | p :: r, i, w, v => gathN r (i + 1) w (v ||| ((w >>> p &&& 1) <<< i))
theorem dec_loop (h : Heap) (w : Nat) (hw : w < 65536) : ∀ (r : List Nat) (i v : Nat) (sl : List (Nat × AV)), i + r.length = 11 → PL.drop i = r → v < 2048 → getS sl (.tup []) 0 = .int .i64 w → getS sl (.tup []) 2 = .int .i64 v → getS sl (.tup []) 30 = .int .i64 i → getS sl (.tup []) 29 = PLA →
    ∀ b, getS sl (.tup []) 3 = b →
    Gives (loopL env (lp Tryz.f29 0) ⟨45, .tup [], sl, []⟩ h) fun out => ∃ sl', out = .exit 1 ⟨45, .tup [], sl', []⟩ h ∧ getS sl' (.tup []) 2 = .int .i64 (gathN r i w v) ∧ getS sl' (.tup []) 3 = b ∧ gathN r i w v < 2048 := by
  intro r
  induction r with
  | nil =>
    intro i v sl hi hr ha h0 h3 h9 h8 b hb
    obtain rfl : i = 11 := by simpa using hi
    refine gives_loop ?_
    simp [lp, Tryz.f29, loops, h3, h9, gathN, ha, hb]
  | cons p r ih =>
    intro i v sl hi hr ha h0 h3 h9 h8 b hb
    simp only [List.length_cons] at hi
    have hp : PL[i]? = some p := by
      have := congrArg (·[0]?) hr
      simpa using this
    have hpm : p < 16 := by
      have := List.mem_of_getElem? hp
      revert this; unfold PL; intro this; simp at this; omega
    have e0 := index_places i p hp
    have e1 : (i : Int) < 11 := by omega
    have e2 : binA env .shr 3 (.int .i64 w) (.int .i64 p) = some (.int .i64 ((w >>> p : Nat) : Int)) := bin_shrN 3 w p (by omega)
    have hsh : w >>> p ≤ w := Nat.shiftRight_le w p
    have e3 : binA env .and 3 (.int .i64 ((w >>> p : Nat) : Int)) (.int .i64 1) = some (.int .i64 ((w >>> p &&& 1 : Nat) : Int)) := bin_andN 3 (w >>> p) 1 (by omega) (by omega)
    have hb1 : w >>> p &&& 1 ≤ 1 := Nat.and_le_right
    have hsl : (w >>> p &&& 1) <<< i < 2048 := by
      rw [Nat.shiftLeft_eq]
      have : 2 ^ i ≤ 2 ^ 10 := Nat.pow_le_pow_right (by omega) (by omega)
      have : (w >>> p &&& 1) * 2 ^ i ≤ 1 * 2 ^ i := Nat.mul_le_mul_right _ hb1
      omega
    have e4 : binA env .shl 3 (.int .i64 ((w >>> p &&& 1 : Nat) : Int)) (.int .i64 i) = some (.int .i64 (((w >>> p &&& 1) <<< i : Nat) : Int)) := bin_shlN 3 _ i (by omega) (by omega)
    have e5 : binA env .or 3 (.int .i64 v) (.int .i64 (((w >>> p &&& 1) <<< i : Nat) : Int)) = some (.int .i64 ((v ||| (w >>> p &&& 1) <<< i : Nat) : Int)) := bin_orN 3 v _ (by omega) (by omega)
    have hacc : v ||| (w >>> p &&& 1) <<< i < 2048 := Nat.or_lt_two_pow (n := 11) ha hsl
    have e6 : IntKind.i64.wrap ((i : Int) + 1) = ((i + 1 : Nat) : Int) := by rw [wrap64 (by omega) (by omega)]; omega
    simp only [gathN]
    generalize v ||| (w >>> p &&& 1) <<< i = z at *
    generalize (w >>> p &&& 1) <<< i = y at *
    generalize w >>> p &&& 1 = x1 at *
    generalize w >>> p = x at *
    refine gives_loop ?_
    simp [-bin_shr, -bin_and, -bin_or, -bin_shl, lp, Tryz.f29, loops, h0, h3, h9, h8, e0, e1, e2, e3, e4, e5, e6]
    refine gives_imp (ih (i + 1) z _ (by omega) (by rw [← List.drop_drop, hr]; rfl) hacc (by simp [h0]) (by simp) (by simp) (by simp [h8]) b (by simp [hb])) ?_
    rintro r ⟨sl', rfl, h'⟩
    exact ⟨sl', rfl, h'⟩
end Heard

open Go Go.Proofs Go.Abs
namespace Heard
def decN (w : Nat) : Int × Int × Int :=
  if onesN 65536 w % 2 = 1 then ((gathN PL 0 (w ^^^ (1 <<< synN 15 1 w 0)) 0 : Nat), (synN 15 1 w 0 : Nat), 0)
  else if synN 15 1 w 0 = 0 then ((gathN PL 0 w 0 : Nat), -1, 0) else (0, 0, 9)
theorem dec_ok (w : Nat) (hw : w < 65536) : callL env 29 [.int .i64 w] [] = some (.tup [.int .i64 (decN w).1, .int .i64 (decN w).2.1, .int .i64 (decN w).2.2], []) := by
  have hs := synN_lt 15 1 w 0 (by omega) (by omega)
  have c1 := c37 w hw []
  have c2 := c38 w hw []
  have c0 := c36 []
  change callN env (callL env) 36 [] [] = some (PLA, []) at c0
  have ho := onesN_le 65536 w
  unfold decN
  generalize synN 15 1 w 0 = s at *
  generalize onesN 65536 w = z at *
  have n1 : ¬ (w : Int) < 0 := by omega
  have n2 : ¬ (65535 : Int) < w := by omega
  apply callL_body
  by_cases hz : z % 2 = 1
  · have hz' : (z : Int).tmod 2 = 1 := by rw [Int.tmod_eq_emod_of_nonneg (by omega)]; omega
    have hsh : 1 <<< s < 65536 := by
      rw [Nat.shiftLeft_eq, Nat.one_mul]
      exact Nat.pow_lt_pow_right (n := 16) (a := 2) (by omega) hs
    have e3 : binA env .shl 3 (.int .i64 1) (.int .i64 s) = some (.int .i64 ((1 <<< s : Nat) : Int)) := bin_shlN 3 1 s (by omega) (by omega)
    have e4 : binA env .xor 3 (.int .i64 w) (.int .i64 ((1 <<< s : Nat) : Int)) = some (.int .i64 ((w ^^^ 1 <<< s : Nat) : Int)) := bin_xorN 3 w _ (by omega) (by omega)
    have hx : w ^^^ 1 <<< s < 65536 := Nat.xor_lt_two_pow (n := 16) hw hsh
    generalize w ^^^ 1 <<< s = w' at *
    generalize 1 <<< s = y at *
    simp [-bin_and, -bin_or, -bin_xor, -bin_shl, fn29, Tryz.f29, entry, c0, c1, c2, n1, n2, hz, hz', e3, e4]
    generalize hl : loopL env _ _ _ = L
    have hg : Gives L fun out => ∃ sl', out = .exit 1 ⟨45, .tup [], sl', []⟩ [] ∧ getS sl' (.tup []) 2 = .int .i64 (gathN PL 0 w' 0) ∧ getS sl' (.tup []) 3 = .int .i64 s ∧ gathN PL 0 w' 0 < 2048 := by
      rw [← hl]
      exact dec_loop [] w' hx PL 0 0 _ rfl rfl (by omega) (by simp) (by simp) (by simp) (by simp) _ (by simp)
    obtain ⟨r, rfl, sl', rfl, h2, h3, _⟩ := gives_iff.1 hg
    simp [h2, h3]
  · have hz' : ¬ (z : Int).tmod 2 = 1 := by rw [Int.tmod_eq_emod_of_nonneg (by omega)]; omega
    by_cases hs0 : s = 0
    · subst hs0
      simp [-bin_and, -bin_or, -bin_xor, -bin_shl, fn29, Tryz.f29, entry, c0, c1, c2, n1, n2, hz, hz']
      generalize hl : loopL env _ _ _ = L
      have hg : Gives L fun out => ∃ sl', out = .exit 1 ⟨45, .tup [], sl', []⟩ [] ∧ getS sl' (.tup []) 2 = .int .i64 (gathN PL 0 w 0) ∧ getS sl' (.tup []) 3 = .int .i64 (-1) ∧ gathN PL 0 w 0 < 2048 := by
        rw [← hl]
        exact dec_loop [] w hw PL 0 0 _ rfl rfl (by omega) (by simp) (by simp) (by simp) (by simp) _ (by simp)
      obtain ⟨r, rfl, sl', rfl, h2, h3, _⟩ := gives_iff.1 hg
      simp [h2, h3]
    · have hs1 : ¬ (s : Int) = 0 := by omega
      simp [-bin_and, -bin_or, -bin_xor, -bin_shl, fn29, Tryz.f29, entry, c0, c1, c2, n1, n2, hz, hz', hs0]
end Heard

open Go Go.Proofs Go.Abs
namespace Heard
/-- Whole numbers as a slice. -/
def ints (l : List Int) : List AV := l.map (.int .i64)
theorem c28 (v : Nat) (hv : v < 2048) (h : Heap) : callN env (callL env) 28 [.int .i64 v] h = some (.int .i64 (wordN v), h) := callE rfl rfl (word_ok v hv).1 rfl h
theorem c29 (w : Nat) (hw : w < 65536) (h : Heap) : callN env (callL env) 29 [.int .i64 w] h = some (.tup [.int .i64 (decN w).1, .int .i64 (decN w).2.1, .int .i64 (decN w).2.2], h) := callE rfl rfl (dec_ok w hw) rfl h
end Heard

open Go Go.Proofs Go.Abs
namespace Heard
def nats (l : List Nat) : List AV := List.map (fun (n : Nat) => AV.int .i64 (n : Int)) l
def wb (v : Nat) : List AV := [.int .u8 ((wordN v >>> 8 : Nat) : Int), .int .u8 ((wordN v % 256 : Nat) : Int)]
theorem wrap8 (n : Nat) : IntKind.u8.wrap (n : Int) = ((n % 256 : Nat) : Int) := by
  simp [IntKind.wrap, IntKind.bits, IntKind.signed]
theorem nats_length (l : List Nat) : (nats l).length = l.length := by simp [nats]
theorem nats_all (l : List Nat) : (nats l).all (fun e => e.cells.length == 1) = true := by
  simp [nats, AV.cells]
theorem index_nats (t : TypeId) (ht : kd env t = some (.slice 3)) (l : List Nat) (i v : Nat) (h : Heap) (hp : l[i]? = some v) : indexAddrA env t h (.lst (nats l)) (.int .i64 i) = some (.iptr (.int .i64 v) 0) := by
  have hlt : i < l.length := (List.getElem?_eq_some_iff.1 hp).1
  have h1 : (i : Int) < l.length := by omega
  have h2 : env.ti 3 = some ⟨.int .i64, 1, 8, .int .i64 0, true⟩ := by rw [envti]; exact ti3
  unfold indexAddrA
  simp only [ht, h2, nats_length, nats_all, and_true, h1, Int.natCast_nonneg, if_true, Int.toNat_natCast]
  simp [nats, hp]
theorem conv_int {s d : TypeId} {k0 k : IntKind} {sk : TK} (hs : kd env s = some sk) (hd : kd env d = some (.int k)) (n : Int) (h : Heap) : convA env s d h (.int k0 n) = some (.int k (k.wrap n), h) := by
  simp only [convA, hs, hd]
theorem k3 : kd env 3 = some (.int .i64) := by simp [kd, ti3]
theorem k5 : kd env 5 = some (.int .u8) := by simp [kd, ti5]
theorem k23 : kd env 23 = some (.slice 3) := by simp [kd, ti23]
theorem k24 : kd env 24 = some (.slice 5) := by simp [kd, ti24]
theorem conv8 (n : Int) (h : Heap) : convA env 3 5 h (.int .i64 n) = some (.int .u8 (IntKind.u8.wrap n), h) := conv_int k3 k5 n h
theorem env5 : env.ti 5 = some ⟨.int .u8, 1, 1, .int .u8 0, true⟩ := by rw [envti]; exact ti5
theorem env3 : env.ti 3 = some ⟨.int .i64, 1, 8, .int .i64 0, true⟩ := by rw [envti]; exact ti3
set_option maxRecDepth 100000 in
theorem pack_loop (l : List Nat) (hl : l.length ≤ 65536) (hv : ∀ v ∈ l, v < 2048) (e0 : Ent) : ∀ (r : List Nat) (i : Nat) (es : List AV) (tail : Heap) (sl : List (Nat × AV)), i + r.length = l.length → l.drop i = r → es.length = 2 * i →
    getS sl (.tup []) 4 = .ref 1 (2 * i) 0 (2 * i) → getS sl (.tup []) 15 = .lst (nats l) → getS sl (.tup []) 16 = .int .i64 l.length → getS sl (.tup []) 17 = .int .i64 i →
    Gives (loopL env (lp Tryz.f16 0) ⟨39, .tup [], sl, []⟩ (e0 :: Ent.row false 1 es :: tail)) fun out => ∃ sl' tail', out = .exit 0 ⟨39, .tup [], sl', []⟩ (e0 :: Ent.row false 1 (es ++ r.flatMap wb) :: tail') ∧ getS sl' (.tup []) 4 = .ref 1 (2 * l.length) 0 (2 * l.length) := by
  intro r
  induction r with
  | nil =>
    intro i es tail sl hi hr he h4 h15 h16 h17
    obtain rfl : i = l.length := by simpa using hi
    refine gives_loop ?_
    simp [lp, Tryz.f16, loops, h4, h16, h17]
  | cons v r ih =>
    intro i es tail sl hi hr he h4 h15 h16 h17
    simp only [List.length_cons] at hi
    have hp : l[i]? = some v := by
      have := congrArg (·[0]?) hr
      simpa using this
    have hv' := hv v (List.mem_of_getElem? hp)
    have e1 : (i : Int) < l.length := by omega
    have e2 := fun h => index_nats 23 k23 l i v h hp
    have n1 : ¬ (v : Int) < 0 := by omega
    have n2 : ¬ (2047 : Int) < v := by omega
    have c1 := c28 v hv'
    have hw := (word_ok v hv').2
    have e3 : ∀ k', binA env .shr 3 (.int .i64 (wordN v)) (.int k' 8) = some (.int .i64 ((wordN v >>> 8 : Nat) : Int)) := fun k' => by
      rw [bin_shr, ← bin_shr (E := env) 3 .i64 (wordN v) 8 .i64]
      exact bin_shrN 3 (wordN v) 8 (by omega)
    have n3 : ¬ 2 * i + 2 ≤ 2 * i := by omega
    have n4 : 2 * i ≤ 140737488355326 := by omega
    have b1 := wrap8 (wordN v >>> 8)
    have b2 := wrap8 (wordN v)
    have hsh : wordN v >>> 8 < 256 := by rw [Nat.shiftRight_eq_div_pow]; omega
    rw [Nat.mod_eq_of_lt hsh] at b1
    have hwb : wb v = [.int .u8 ((wordN v >>> 8 : Nat) : Int), .int .u8 ((wordN v % 256 : Nat) : Int)] := rfl
    rw [List.flatMap_cons, hwb]
    generalize wordN v >>> 8 = x at *
    generalize wordN v % 256 = y at *
    generalize wordN v = z at *
    have e6 : IntKind.i64.wrap ((i : Int) + 1) = ((i + 1 : Nat) : Int) := by rw [wrap64 (by omega) (by omega)]; omega
    refine gives_loop ?_
    simp [-bin_shr, -bin_and, -bin_or, -bin_shl, lp, Tryz.f16, loops, h4, h15, h16, h17, e1, e2, n1, n2, c1, e3, ti3, ti5, loadP, loadE, TK.isAgg, AV.cells, conv8, b1, b2, k24, fillS, sub, AV.solid, builtinA, appendA, newsA, items, TK.isInt, env5, snoc, he, AV.one, e6, n3, n4]
    have ht : List.take (2 * i) es = es := by rw [← he]; exact List.take_length
    rw [ht]
    refine gives_imp (ih (i + 1) _ _ _ (by omega) (by rw [← List.drop_drop, hr]; rfl) (by simp [he]; omega) (by simp; omega) (by simp [h15]) (by simp [h16]) (by simp)) ?_
    rintro r ⟨sl', tail', rfl, h'⟩
    exact ⟨sl', ⟨tail', by simp⟩, h'⟩
end Heard

open Go Go.Proofs Go.Abs
namespace Heard
theorem snap_ints {fr : SM} {d : Nat} {h : Heap} : ∀ {es : List AV}, (∀ e ∈ es, ∃ k n, e = .int k n) → es.mapM (snap fr (d + 1) h) = some es
  | [], _ => rfl
  | e :: es, he => by
    obtain ⟨k, n, rfl⟩ := he e List.mem_cons_self
    simp only [List.mapM_cons, snap_ints fun e h => he e (List.mem_cons_of_mem _ h)]
    rfl
theorem snap_row {d : Nat} {h : Heap} {b sz n : Nat} {ro : Bool} {es es' : List AV} (hb : h[b]? = some (.row ro sz es)) (hn : es.length = n) (he : es.mapM (snap .any d h) = some es') : snap .any (d + 1) h (.ref b n 0 n) = some (.lst es') := by
  subst hn
  cases es with
  | nil => simp at he; subst he; rfl
  | cons e es =>
    simp only [List.length_cons, snap]
    simp only [hb, List.length_cons, SM.row, and_self, if_true, List.drop_zero]
    rw [List.take_of_length_le (by simp), he]
    rfl
theorem snap_rowM {m : SM} (hm : m ≠ .frz) {d : Nat} {h : Heap} {b sz n : Nat} {ro : Bool} {es es' : List AV} (hb : h[b]? = some (.row ro sz es)) (hn : es.length = n) (he : es.mapM (snap m d h) = some es') : snap m (d + 1) h (.ref b n 0 n) = some (.lst es') := by
  subst hn
  cases es with
  | nil => simp at he; subst he; rfl
  | cons e es =>
    have h1 : m.row ro = true := by cases m <;> first | rfl | exact absurd rfl hm
    simp only [List.length_cons, snap]
    simp only [hb, List.length_cons, h1, and_self, if_true, List.drop_zero]
    rw [List.take_of_length_le (by simp), he]
    rfl
theorem wb_ints (l : List Nat) : ∀ e ∈ l.flatMap wb, ∃ k n, e = AV.int k n := by
  intro e he
  obtain ⟨v, _, hv⟩ := List.mem_flatMap.1 he
  simp [wb] at hv
  rcases hv with rfl | rfl
  · exact ⟨_, _, rfl⟩
  · exact ⟨_, _, rfl⟩
theorem wb_length (l : List Nat) : (l.flatMap wb).length = 2 * l.length := by
  induction l with
  | nil => rfl
  | cons v l ih => simp [wb] at ih ⊢; omega
set_option maxRecDepth 100000 in
theorem pack_ok (l : List Nat) (hl : l.length ≤ 65536) (hv : ∀ v ∈ l, v < 2048) : Gives (callL env 16 [.lst (nats l)] []) fun r => ∀ m, m ≠ .frz → snap m depth r.2 r.1 = some (.tup [.lst (l.flatMap wb), .int .i64 0]) := by
  apply gives_call
  have n1 : ¬ (65536 : Int) < (nats l).length := by rw [nats_length]; omega
  have e1 : IntKind.i64.wrap (2 * ((nats l).length : Int)) = ((2 * l.length : Nat) : Int) := by rw [nats_length, wrap64 (by omega) (by omega)]; omega
  have e2 : (0 : Int) ≤ ((2 * l.length : Nat) : Int) := by omega
  have e3 : ¬ 140737488355328 < ((2 * l.length : Nat) : Int) := by omega
  generalize hc : ((2 * l.length : Nat) : Int) = c at *
  simp [fn16, Tryz.f16, entry, ti24, ti5, builtinA, kd, ti23, lenA, n1, e1, AV.cells, AV.solid, snoc, e2, e3]
  generalize hl : loopL env _ _ _ = L
  have hg : Gives L fun out => ∃ sl' tail', out = .exit 0 ⟨39, .tup [], sl', []⟩ (Ent.row false 1 [] :: Ent.row false 1 ([] ++ l.flatMap wb) :: tail') ∧ getS sl' (.tup []) 4 = .ref 1 (2 * l.length) 0 (2 * l.length) := by
    rw [← hl]
    exact pack_loop l (by omega) hv (Ent.row false 1 []) l 0 [] [] _ (by simp) rfl rfl (by simp) (by simp) (by simp [nats_length]) (by simp)
  obtain ⟨r, rfl, sl', tail', rfl, h4⟩ := gives_iff.1 hg
  simp [h4]
  intro m hm
  have h1 : snap m 11 (Ent.row false 1 [] :: Ent.row false 1 (List.flatMap wb l) :: tail') (.ref 1 (2 * l.length) 0 (2 * l.length)) = some (.lst (l.flatMap wb)) :=
    snap_rowM hm (ro := false) (sz := 1) (es := l.flatMap wb) rfl (wb_length l) (snap_ints (wb_ints l))
  show (List.mapM (snap m 11 _) _).map AV.tup = _
  simp only [List.mapM_cons, h1, List.mapM_nil]
  rfl
end Heard

/- TopHeard: rules by which simp runs the code; pulses and whole numbers as slices. -/
open Go Go.Proofs Go.Abs
namespace Heard
attribute [simp] ti3 ti4 ti5 ti22 ti23 ti24 ti25 ti29 ti33 ti35 ti37 ti40 fn3 fn4 fn5 fn6 fn7 fn8 fn9 fn11 fn12 fn13 fn14 fn15 fn16 fn17 fn18 fn19 fn20 fn21 fn22 fn23 fn24 fn28 fn29
attribute [simp] kd entry loadP storeP setE builtinA lenA fieldAddrA fieldA partA fillA fillS sub splice TK.isAgg TK.isInt snoc unA
theorem get_app (h t : Heap) (k : Nat) : (h ++ t)[h.length + k]? = t[k]? := by
  rw [List.getElem?_append_right (by omega)]; congr 1; omega
theorem get_app0 (h t : Heap) : (h ++ t)[h.length]? = t[0]? := get_app h t 0
theorem set_app (h t : Heap) (k : Nat) (e : Ent) : (h ++ t).set (h.length + k) e = h ++ t.set k e := by
  rw [List.set_append_right _ _ (by omega)]; congr 2; omega
theorem set_app0 (h t : Heap) (e : Ent) : (h ++ t).set h.length e = h ++ t.set 0 e := set_app h t 0 e
attribute [simp] get_app get_app0 set_app set_app0
theorem cells_bool (b : Bool) : AV.cells (.bool b) = [.bool b] := rfl
theorem one_bool (b : Bool) : AV.one (.bool b) = true := rfl
theorem solid_bool (b : Bool) : AV.solid (.bool b) = true := rfl
theorem cells_int (k : IntKind) (n : Int) : AV.cells (.int k n) = [.int k n] := rfl
theorem one_int (k : IntKind) (n : Int) : AV.one (.int k n) = true := rfl
theorem solid_int (k : IntKind) (n : Int) : AV.solid (.int k n) = true := rfl
theorem cells_ptr (b g i o : Nat) : AV.cells (.ptr b g i o) = [.ptr b g i o] := rfl
theorem one_ptr (b g i o : Nat) : AV.one (.ptr b g i o) = true := rfl
theorem solid_ptr (b g i o : Nat) : AV.solid (.ptr b g i o) = true := rfl
theorem cells_ref (b g s n : Nat) : AV.cells (.ref b g s n) = [.ref b g s n] := rfl
theorem one_ref (b g s n : Nat) : AV.one (.ref b g s n) = true := rfl
theorem solid_ref (b g s n : Nat) : AV.solid (.ref b g s n) = true := rfl
theorem cells_nil  : AV.cells (.nil) = [.nil] := rfl
theorem one_nil  : AV.one (.nil) = true := rfl
theorem solid_nil  : AV.solid (.nil) = true := rfl
theorem cells_lst (es : List AV) : AV.cells (.lst es) = [.lst es] := rfl
theorem one_lst (es : List AV) : AV.one (.lst es) = true := rfl
theorem solid_lst (es : List AV) : AV.solid (.lst es) = true := rfl
theorem cells_iptr (e : AV) (o : Nat) : AV.cells (.iptr e o) = [.iptr e o] := rfl
theorem one_iptr (e : AV) (o : Nat) : AV.one (.iptr e o) = true := rfl
theorem solid_iptr (e : AV) (o : Nat) : AV.solid (.iptr e o) = true := rfl
theorem cells_emp  : AV.cells (.emp) = [.emp] := rfl
theorem one_emp  : AV.one (.emp) = true := rfl
theorem solid_emp  : AV.solid (.emp) = true := rfl
theorem cells_agg (cs : List AV) : AV.cells (.agg cs) = cs := rfl
theorem solid_agg (cs : List AV) : AV.solid (.agg cs) = true := rfl
attribute [simp] cells_bool one_bool solid_bool cells_int one_int solid_int cells_ptr one_ptr solid_ptr cells_ref one_ref solid_ref cells_nil one_nil solid_nil cells_lst one_lst solid_lst cells_iptr one_iptr solid_iptr cells_emp one_emp solid_emp cells_agg solid_agg
theorem tmodN {a b : Int} (h : 0 ≤ a) : a.tmod b = a % b := Int.tmod_eq_emod_of_nonneg h
theorem tdivN {a b : Int} (h : 0 ≤ a) : a.tdiv b = a / b := Int.tdiv_eq_ediv_of_nonneg h
/-- A pulse. -/
structure Pu where
  d : Int
  t : Int
  r : Int
  deriving Inhabited, DecidableEq
def Pu.av (p : Pu) : AV := .agg [.int .i64 p.d, .int .i64 p.t, .int .i64 p.r]
def puls (l : List Pu) : List AV := l.map Pu.av
theorem ints_length (l : List Int) : (ints l).length = l.length := by simp [ints]
theorem puls_length (l : List Pu) : (puls l).length = l.length := by simp [puls]
attribute [simp] ints_length puls_length
theorem ints_all (l : List Int) : (ints l).all (fun e => e.cells.length == 1) = true := by simp [ints]
theorem puls_all (l : List Pu) : (puls l).all (fun e => e.cells.length == 3) = true := by simp [puls, Pu.av]
theorem nth_getD {α : Type} (d : α) : ∀ (l : List α) (i : Nat), nth d l i = l.getD i d
  | [], i => by simp [nth]
  | a :: l, 0 => by simp
  | a :: l, i + 1 => by rw [nth_succ, nth_getD d l i]; simp
theorem index_ints (l : List Int) (i : Int) (h : Heap) (h0 : 0 ≤ i) (h1 : i < l.length) : indexAddrA env 23 h (.lst (ints l)) (.int .i64 i) = some (.iptr (.int .i64 (nth 0 l i.toNat)) 0) := by
  unfold indexAddrA
  have h2 : i.toNat < l.length := by omega
  simp only [kd, envti, ti23, ti3, Option.map_some, ints_length, h0, h1, ints_all, and_self, if_true]
  simp [ints, h2, nth_getD, List.getD_eq_getElem?_getD]
theorem index_puls (l : List Pu) (i : Int) (h : Heap) (h0 : 0 ≤ i) (h1 : i < l.length) : indexAddrA env 22 h (.lst (puls l)) (.int .i64 i) = some (.iptr (nth default l i.toNat).av 0) := by
  unfold indexAddrA
  have h2 : i.toNat < l.length := by omega
  simp only [kd, envti, ti22, ti35, Option.map_some, puls_length, h0, h1, puls_all, and_self, if_true]
  simp [puls, h2, nth_getD, List.getD_eq_getElem?_getD]
theorem wrapI {x : Int} (h1 : -9223372036854775808 ≤ x) (h2 : x ≤ 9223372036854775807) : IntKind.i64.wrap x = x := wrap64 h1 h2
theorem decT {p : Prop} [Decidable p] (h : p) : decide p = true := by simpa using h
theorem decF {p : Prop} [Decidable p] (h : ¬ p) : decide p = false := by simpa using h
theorem load_pu (p : Pu) : loadE true 3 p.av 0 = some p.av := rfl
theorem load_pu0 (p : Pu) : loadE false 1 p.av 0 = some (.int .i64 p.d) := rfl
theorem load_pu1 (p : Pu) : loadE false 1 p.av 1 = some (.int .i64 p.t) := rfl
theorem load_pu2 (p : Pu) : loadE false 1 p.av 2 = some (.int .i64 p.r) := rfl
theorem load_int (k : IntKind) (n : Int) : loadE false 1 (.int k n) 0 = some (.int k n) := rfl
theorem cells_pu (p : Pu) : p.av.cells = [.int .i64 p.d, .int .i64 p.t, .int .i64 p.r] := rfl
theorem solid_pu (p : Pu) : p.av.solid = true := rfl
theorem load_agg1 (cs : List AV) (o : Nat) : loadE false 1 (.agg cs) o = cs[o]? := rfl
attribute [simp] cells_pu solid_pu load_agg1 load_pu load_pu0 load_pu1 load_pu2 load_int
/-- Is there room behind an append? -/
def roomIf (n k bytes : Nat) (r : AV × Heap) : Option (AV × Heap) := if k = 0 ∨ (n + k) * bytes ≤ 140737488355328 ∧ n + k ≤ 140737488355328 then some r else none
theorem roomIf_ok (n k bytes : Nat) (r : AV × Heap) (h1 : (n + k) * bytes ≤ 140737488355328) (h2 : n + k ≤ 140737488355328) : roomIf n k bytes r = some r := by
  unfold roomIf
  rw [if_pos (.inr ⟨h1, h2⟩)]
def allOne (l : List AV) : Bool := l.all (fun e => e.cells.all AV.one)
theorem allOne_nil : allOne [] = true := rfl
theorem allOne_cons (a : AV) (l : List AV) : allOne (a :: l) = (a.cells.all AV.one && allOne l) := rfl
def appR (sz bytes : Nat) (h : Heap) (b n : Nat) (new : List AV) : Option (AV × Heap) := match h[b]? with
  | some (.row false z es) => if z = sz ∧ es.length = n ∧ allOne new = true then roomIf n new.length bytes (.ref b (n + new.length) 0 (n + new.length), h.set b (.row false z (es ++ new))) else none
  | _ => none
set_option maxRecDepth 100000 in
theorem append_ref {t e : TypeId} {ei : TI} (ht : kd env t = some (.slice e)) (he : env.ti e = some ei) (hs : ei.size ≠ 0) (h : Heap) (p b n : Nat) (ins : Heap → Ent → Heap) (x : AV) :
    appendA env t t h p ins (.ref b n 0 n) x = (newsA h ei.size x).bind fun new => appR ei.size ei.bytes h b n new := by
  have hi : TK.isInt (.slice e) = false := rfl
  unfold appendA appR allOne
  simp only [ht, he, hi, Bool.false_eq_true, if_false, hs, Nat.zero_add, Nat.le_refl, true_and]
  congr 1
  funext new
  cases hb : h[b]? with
  | none => rfl
  | some ent =>
    cases ent with
    | row ro z es =>
      cases ro
      · simp only
        by_cases c : z = ei.size ∧ es.length = n ∧ (new.all fun e => e.cells.all AV.one) = true
        · rw [if_pos c, if_pos c]
          obtain ⟨rfl, rfl, _⟩ := c
          by_cases hk : new.length = 0
          · obtain rfl : new = [] := List.eq_nil_of_length_eq_zero hk
            simp [roomIf]
          · have : ¬ es.length + new.length ≤ es.length := by omega
            simp only [this, if_false, roomIf, hk, false_or, List.take_length]
        · rw [if_neg c, if_neg c]
      · rfl
    | _ => rfl
theorem k22 : kd env 22 = some (.slice 35) := by simp [kd]
theorem k29 : kd env 29 = some (.slice 37) := by simp [kd]
theorem app23 (h : Heap) (p b n : Nat) (ins : Heap → Ent → Heap) (x : AV) : appendA env 23 23 h p ins (.ref b n 0 n) x  = (newsA h 1 x).bind fun new => appR 1 8 h b n new := append_ref k23 ((envti 3).trans ti3) (by decide) h p b n ins x
theorem app22 (h : Heap) (p b n : Nat) (ins : Heap → Ent → Heap) (x : AV) : appendA env 22 22 h p ins (.ref b n 0 n) x  = (newsA h 3 x).bind fun new => appR 3 24 h b n new := append_ref k22 ((envti 35).trans ti35) (by decide) h p b n ins x
theorem app29 (h : Heap) (p b n : Nat) (ins : Heap → Ent → Heap) (x : AV) : appendA env 29 29 h p ins (.ref b n 0 n) x  = (newsA h 2 x).bind fun new => appR 2 16 h b n new := append_ref k29 ((envti 37).trans ti37) (by decide) h p b n ins x
theorem app24 (h : Heap) (p b n : Nat) (ins : Heap → Ent → Heap) (x : AV) : appendA env 24 24 h p ins (.ref b n 0 n) x  = (newsA h 1 x).bind fun new => appR 1 1 h b n new := append_ref k24 ((envti 5).trans ti5) (by decide) h p b n ins x
theorem news_ref (h : Heap) (sz b g s n : Nat) : newsA h sz (.ref b g s n) = items h sz (.ref b g s n) := rfl
theorem news_ints (h : Heap) (l : List Int) : newsA h 1 (.lst (ints l)) = some (ints l) := by
  have h1 : newsA h 1 (.lst (ints l)) = if (ints l).all (fun e => e.cells.length == 1) = true then some (ints l) else none := rfl
  rw [h1, ints_all, if_pos rfl]
theorem news_puls (h : Heap) (l : List Pu) : newsA h 3 (.lst (puls l)) = some (puls l) := by
  have h1 : newsA h 3 (.lst (puls l)) = if (puls l).all (fun e => e.cells.length == 3) = true then some (puls l) else none := rfl
  rw [h1, puls_all, if_pos rfl]
theorem puls_one (l : List Pu) : allOne (puls l) = true := by simp [allOne, puls]
theorem ints_one (l : List Int) : allOne (ints l) = true := by simp [allOne, ints]
attribute [simp] app22 app23 app24 app29 news_ref news_ints news_puls allOne_nil allOne_cons puls_one ints_one roomIf_ok items appR
theorem ints_append (a b : List Int) : ints (a ++ b) = ints a ++ ints b := by simp [ints]
theorem puls_append (a b : List Pu) : puls (a ++ b) = puls a ++ puls b := by simp [puls]
theorem ints_cons (x : Int) (b : List Int) : ints (x :: b) = .int .i64 x :: ints b := rfl
theorem puls_cons (x : Pu) (b : List Pu) : puls (x :: b) = x.av :: puls b := rfl
theorem ints_nil : ints [] = [] := rfl
theorem puls_nil : puls [] = [] := rfl
theorem ints_snoc (a : List Int) (x : Int) : ints a ++ [.int .i64 x] = ints (a ++ [x]) := by simp [ints]
theorem ints_snoc2 (a : List Int) (x y : Int) : ints a ++ [.int .i64 x, .int .i64 y] = ints (a ++ [x, y]) := by simp [ints]
theorem puls_snoc (a : List Pu) (d t r : Int) : puls a ++ [.agg [.int .i64 d, .int .i64 t, .int .i64 r]] = puls (a ++ [⟨d, t, r⟩]) := by simp [puls, Pu.av]
theorem ints_app (a b : List Int) : ints a ++ ints b = ints (a ++ b) := by simp [ints]
theorem puls_app (a b : List Pu) : puls a ++ puls b = puls (a ++ b) := by simp [puls]
attribute [simp] ints_snoc puls_snoc ints_app puls_app
/-- Bytes. -/
def byts (l : List Nat) : List AV := l.map (fun (n : Nat) => AV.int .u8 n)
theorem byts_length (l : List Nat) : (byts l).length = l.length := by simp [byts]
attribute [simp] byts_length
theorem byts_all (l : List Nat) : (byts l).all (fun e => e.cells.length == 1) = true := by simp [byts]
theorem index_byts (l : List Nat) (i : Int) (h : Heap) (h0 : 0 ≤ i) (h1 : i < l.length) : indexAddrA env 24 h (.lst (byts l)) (.int .i64 i) = some (.iptr (.int .u8 ((nth 0 l i.toNat : Nat) : Int)) 0) := by
  unfold indexAddrA
  have h2 : i.toNat < l.length := by omega
  simp only [kd, envti, ti24, ti5, Option.map_some, byts_length, h0, h1, byts_all, and_self, if_true]
  simp [byts, h2, nth_getD, List.getD_eq_getElem?_getD]
theorem slice_puls_hi (l : List Pu) (n : Nat) (h : Heap) (hn : n ≤ l.length) : sliceA env 22 h (.lst (puls l)) none (some (.int .i64 n)) none = some (.lst (puls (l.take n))) := by
  have h1 : ((puls l).all fun e => e.cells.length == 3) = true := puls_all l
  simp [sliceA, h1, inBound, hn, puls]
theorem slice_puls_lo (l : List Pu) (n : Nat) (h : Heap) (hn : n ≤ l.length) : sliceA env 22 h (.lst (puls l)) (some (.int .i64 n)) none none = some (.lst (puls (l.drop n))) := by
  have h1 : ((puls l).all fun e => e.cells.length == 3) = true := puls_all l
  simp only [sliceA, kd, envti, ti22, ti35, Option.map_some, h1, if_true, inBound, puls_length, Option.bind_some]
  rw [if_pos ⟨by omega, by omega⟩]
  have h2 : List.take l.length (puls l) = puls l := by rw [← puls_length l, List.take_length]
  simp only [Option.bind_some, Int.toNat_natCast, h2]
  simp only [puls, List.map_drop]
theorem slice_ints_lo (l : List Int) (n : Nat) (h : Heap) (hn : n ≤ l.length) : sliceA env 23 h (.lst (ints l)) (some (.int .i64 n)) none none = some (.lst (ints (l.drop n))) := by
  have h1 : ((ints l).all fun e => e.cells.length == 1) = true := ints_all l
  simp only [sliceA, kd, envti, ti23, ti3, Option.map_some, h1, if_true, inBound, ints_length, Option.bind_some]
  rw [if_pos ⟨by omega, by omega⟩]
  have h2 : List.take l.length (ints l) = ints l := by rw [← ints_length l, List.take_length]
  simp only [Option.bind_some, Int.toNat_natCast, h2]
  simp only [ints, List.map_drop]
theorem conv53 (n : Int) (h : Heap) : convA env 5 3 h (.int .u8 n) = some (.int .i64 (IntKind.i64.wrap n), h) := conv_int k5 k3 n h
attribute [simp] conv53
/-- Is a pulse in its ranges? -/
def Pu.ok (p : Pu) : Bool := decide (0 ≤ p.d) && decide (p.d ≤ 31) && decide (0 ≤ p.t) && decide (p.t ≤ 1000000000) && (decide (p.r = 1) || decide (p.r = -1))
set_option maxRecDepth 100000 in
theorem sound_ok (p : Pu) : Gives (callL env 17 [p.av] []) fun r => r.1 = .bool p.ok := by
  apply gives_call
  obtain ⟨d, t, r⟩ := p
  simp [Tryz.f17, Pu.av, Pu.ok, loadE]
  by_cases h1 : 0 ≤ d <;> simp [h1]
  by_cases h2 : d ≤ 31 <;> simp [h2]
  by_cases h3 : 0 ≤ t <;> simp [h3]
  by_cases h4 : t ≤ 1000000000 <;> simp [h4]
  by_cases h5 : r = 1 <;> simp [h5]
theorem closed_pu (p : Pu) : closed? depth p.av = true := rfl
theorem c17 (p : Pu) (h : Heap) : callN env (callL env) 17 [p.av] h = some (.bool p.ok, h) := by
  obtain ⟨r, hr, h1⟩ := gives_iff.1 (sound_ok p)
  exact callE rfl (by simp [closed_pu]) hr (by rw [h1]; rfl) h
attribute [simp] c17
end Heard
