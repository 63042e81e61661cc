/- TopRival: slices.SortFunc by the kit's contract. -/
import Derived.Test.YtgdcimpndddepaaGreatRN
import Derived.Shelf.SlSortCmp.NoneTotal
import Derived.Deep.QuietTactic
import Derived.Test.YtgdcimpndddepaaGreatRW
/- TopRival: slices.SortFunc by the kit's contract: what the evaluator is given of it is so. -/
namespace Go.Proofs
open Go.Shelf Go.RowKit Go.Lib Go.Sort
def sortRen : Go.Shelf.Ren := ⟨fun | 6 => 50 | 15 => 66 | 14 => 65 | 28 => 81 | 29 => 82 | 20 => 73 | 21 => 74 | 22 => 75 | 23 => 76 | 24 => 77 | 25 => 78 | 26 => 79 | 27 => 80 | 46 => 88 | 47 => 89 | 48 => 90 | 49 => 91 | 50 => 92 | 57 => 104 | n => n, fun | 22 => 25 | 24 => 3 | 25 => 96 | 3 => 3 | 39 => 62 | 0 => 0 | 53 => 122 | 55 => 124 | 4 => 4 | 46 => 115 | 45 => 114 | 50 => 119 | 5 => 5 | 9 => 9 | 66 => 128 | 70 => 132 | 76 => 140 | 77 => 141 | n => n, fun n => n⟩
theorem sortLay : SlLaysF.n6 Tryz.prog sortRen where
  mixed := by kernel_rfl
  f6 := ⟨ "slices.SortFunc[[]int,int]", by decide, Tryz.func50.trans (congrArg some (by kernel_rfl))⟩
  f14 := ⟨ "slices.pdqsortCmpFunc[int]", by decide, Tryz.func65.trans (congrArg some (by kernel_rfl))⟩
  f15 := Tryz.func66.trans (congrArg some (by kernel_rfl))
  f20 := ⟨ "slices.insertionSortCmpFunc[int]", by decide, Tryz.func73.trans (congrArg some (by kernel_rfl))⟩
  f21 := ⟨ "slices.heapSortCmpFunc[int]", by decide, Tryz.func74.trans (congrArg some (by kernel_rfl))⟩
  f22 := ⟨ "slices.breakPatternsCmpFunc[int]", by decide, Tryz.func75.trans (congrArg some (by kernel_rfl))⟩
  f23 := ⟨ "slices.choosePivotCmpFunc[int]", by decide, Tryz.func76.trans (congrArg some (by kernel_rfl))⟩
  f24 := ⟨ "slices.reverseRangeCmpFunc[int]", by decide, Tryz.func77.trans (congrArg some (by kernel_rfl))⟩
  f25 := ⟨ "slices.partialInsertionSortCmpFunc[int]", by decide, Tryz.func78.trans (congrArg some (by kernel_rfl))⟩
  f26 := ⟨ "slices.partitionEqualCmpFunc[int]", by decide, Tryz.func79.trans (congrArg some (by kernel_rfl))⟩
  f27 := ⟨ "slices.partitionCmpFunc[int]", by decide, Tryz.func80.trans (congrArg some (by kernel_rfl))⟩
  f28 := Tryz.func81.trans (congrArg some (by kernel_rfl))
  f29 := Tryz.func82.trans (congrArg some (by kernel_rfl))
  f46 := ⟨ "slices.siftDownCmpFunc[int]", by decide, Tryz.func88.trans (congrArg some (by kernel_rfl))⟩
  f47 := Tryz.func89.trans (congrArg some (by kernel_rfl))
  f48 := Tryz.func90.trans (congrArg some (by kernel_rfl))
  f49 := ⟨ "slices.medianAdjacentCmpFunc[int]", by decide, Tryz.func91.trans (congrArg some (by kernel_rfl))⟩
  f50 := ⟨ "slices.medianCmpFunc[int]", by decide, Tryz.func92.trans (congrArg some (by kernel_rfl))⟩
  f57 := ⟨ "slices.order2CmpFunc[int]", by decide, Tryz.func104.trans (congrArg some (by kernel_rfl))⟩
  t0 := Tryz.underlying0
  a0 := Tryz.isAgg0
  z0 := Tryz.sizeOf0
  v0 := Tryz.zeroValue0
  t3 := Tryz.underlying3
  a3 := Tryz.isAgg3
  z3 := Tryz.sizeOf3
  v3 := Tryz.zeroValue3
  t4 := Tryz.underlying4
  a4 := Tryz.isAgg4
  z4 := Tryz.sizeOf4
  v4 := Tryz.zeroValue4
  t5 := Tryz.underlying5
  a5 := Tryz.isAgg5
  z5 := Tryz.sizeOf5
  v5 := Tryz.zeroValue5
  t9 := Tryz.underlying9
  a9 := Tryz.isAgg9
  z9 := Tryz.sizeOf9
  v9 := Tryz.zeroValue9
  t22 := Tryz.underlying25
  a22 := Tryz.isAgg25
  z22 := Tryz.sizeOf25
  v22 := Tryz.zeroValue25
  a24 := Tryz.isAgg3
  z24 := Tryz.sizeOf3
  t25 := Tryz.underlying96
  a25 := Tryz.isAgg96
  z25 := Tryz.sizeOf96
  v25 := Tryz.zeroValue96
  t39 := Tryz.underlying62
  a39 := Tryz.isAgg62
  z39 := Tryz.sizeOf62
  v39 := Tryz.zeroValue62
  t45 := Tryz.underlying114
  a45 := Tryz.isAgg114
  z45 := Tryz.sizeOf114
  v45 := Tryz.zeroValue114
  t46 := Tryz.underlying115
  a46 := Tryz.isAgg115
  z46 := Tryz.sizeOf115
  v46 := Tryz.zeroValue115
  t50 := Tryz.underlying119
  a50 := Tryz.isAgg119
  z50 := Tryz.sizeOf119
  v50 := Tryz.zeroValue119
  t53 := Tryz.underlying122
  a53 := Tryz.isAgg122
  z53 := Tryz.sizeOf122
  v53 := Tryz.zeroValue122
  t55 := Tryz.underlying124
  a55 := Tryz.isAgg124
  z55 := Tryz.sizeOf124
  v55 := Tryz.zeroValue124
  t66 := Tryz.underlying128
  a66 := Tryz.isAgg128
  z66 := Tryz.sizeOf128
  v66 := Tryz.zeroValue128
  t70 := Tryz.underlying132
  a70 := Tryz.isAgg132
  z70 := Tryz.sizeOf132
  v70 := Tryz.zeroValue132
  t76 := Tryz.underlying140
  a76 := Tryz.isAgg140
  z76 := Tryz.sizeOf140
  v76 := Tryz.zeroValue140
  t77 := Tryz.underlying141
  a77 := Tryz.isAgg141
  z77 := Tryz.sizeOf141
  v77 := Tryz.zeroValue141
set_option maxHeartbeats 4000000 in
/-- The closure by which the items are compared, in whatever world. -/
theorem closure51 (cb co blk off c n : Nat) (W : World) (G : Nat → Int) (hs : W.cell? ⟨cb, co, none⟩ = some (.slice (some ⟨blk, off, none⟩) n c))
    (hc : ∀ t, t < n → W.cell? ⟨blk, off + t * 4 + 1, none⟩ = some (.int .i64 (G t))) (hG : ∀ t, t < n → 0 ≤ G t ∧ G t ≤ 31) (i j : Nat) (hi : i < n) (hj : j < n) :
    Calls Tryz.prog 51 #[.int .i64 i, .int .i64 j, .pointer (some ⟨cb, co, none⟩)] W fun e w' => e = .returned (.int .i64 (G i - G j)) ∧ ∃ q, w' = W.drewN q := by
  have ci := hc i hi
  have cj := hc j hj
  have hw : IntKind.i64.wrap (G i - G j) = G i - G j := by
    have := hG i hi
    have := hG j hj
    simp [IntKind.wrap, IntKind.bits, IntKind.signed]; omega
  go_enter Tryz.func51, Tryz.ntmps51
  go_wp2
  go_quiet (fail)
  go_wp2
  go_ret
  exact ⟨rfl, nq, rfl⟩
end Go.Proofs
open Go Go.Proofs Go.Abs Go.Sort Go.RowKit Go.Shelf
namespace Rival
theorem ltB_swo (l : List It) : SWO (ltOf fun x y => bk l x - bk l y) where
  irrefl x := by simp [ltOf]
  trans x y z h1 h2 := by simp [ltOf] at *; omega
  ntrans x y z h1 h2 := by simp [ltOf] at *; omega
theorem ltB_eq (l : List It) : ltB l = ltOf fun x y => bk l x - bk l y := rfl
theorem sortL_spec (l : List It) (d : List Nat) : (sortL l d).Perm d ∧ ∀ i j, i < j → j < d.length → bk l ((sortL l d).getD i 0) ≤ bk l ((sortL l d).getD j 0) := by
  have h := pdq_sorts (ltB l) (ltB_swo l) d.toArray 0 d.length (Lib.bitLen d.length) true true (Nat.zero_le _) (by simp) (Or.inl rfl)
  unfold sortL
  generalize pdq (ltB l) d.toArray 0 d.length (Lib.bitLen d.length) true true = r at h
  obtain ⟨⟨h1, h2, h3⟩, h4⟩ := h
  simp at h1
  have e1 : (r.extract 0 d.length).toList = r.toList := by
    rw [← h1]; simp
  have e2 : (d.toArray.extract 0 d.length).toList = d := by simp
  rw [e1, e2] at h3
  refine ⟨h3, fun i j hij hj => ?_⟩
  have := h4 i j (Nat.zero_le _) hij hj
  have hi' : i < r.size := by omega
  have hj' : j < r.size := by omega
  simp [ltB, getElem!_pos, hi', hj'] at this
  simp [List.getD_eq_getElem?_getD, hi', hj']
  omega
theorem sortL_len (l : List It) (d : List Nat) : (sortL l d).length = d.length := (sortL_spec l d).1.length_eq
theorem sortN_of {args : List AV} {h : Heap} {b c : Nat} {l : List It} {w : Int} {d : List Nat} (hs : SortIn args h b c l w d) : sortN args h = some (.tup [], h.set b (.row false 1 (ints ((sortL l d).map Int.ofNat)))) := by
  have e : ∃ t : Nat × Nat × List It × Int × List Nat, SortIn args h t.1 t.2.1 t.2.2.1 t.2.2.2.1 t.2.2.2.2 := ⟨(b, c, l, w, d), hs⟩
  unfold sortN
  rw [dif_pos e]
  have hc := e.choose_spec
  generalize e.choose = t at hc
  obtain ⟨b', c', l', w', d'⟩ := t
  simp only at hc
  have h1 := hs.args.symm.trans hc.args
  simp only [List.cons.injEq, AV.ref.injEq, AV.func.injEq, AV.ptr.injEq, true_and, and_true] at h1
  obtain ⟨⟨rfl, _⟩, rfl⟩ := h1
  have h2 := hs.row.symm.trans hc.row
  simp only [Option.some.injEq, Ent.row.injEq, true_and, ints, List.map_map] at h2
  have hd : d = d' := by
    have inj : Function.Injective ((AV.int .i64) ∘ Int.ofNat) := fun a b hab => by simp at hab; omega
    exact (List.map_inj_right fun a b hab => inj hab).1 h2
  subst hd
  have h3 := hs.job.symm.trans hc.job
  simp only [Option.some.injEq, Ent.row.injEq, true_and, jobV, List.cons.injEq, AV.agg.injEq, AV.lst.injEq, and_true] at h3
  have hl : l = l' := by
    refine (List.map_inj_right (f := It.av) fun a b hab => ?_).1 h3.1
    obtain ⟨a1, a2, a3, a4⟩ := a
    obtain ⟨b1, b2, b3, b4⟩ := b
    simpa [It.av] using hab
  subst hl
  rfl
theorem sortN_in {args : List AV} {h : Heap} {r : AV × Heap} (hr : sortN args h = some r) : ∃ b c l w d, SortIn args h b c l w d := by
  unfold sortN at hr
  split at hr
  · rename_i e
    obtain ⟨t, ht⟩ := e
    exact ⟨_, _, _, _, _, ht⟩
  · cases hr
theorem sortN_mono {args : List AV} {h : Heap} {r : AV × Heap} (hr : sortN args h = some r) : MonoAt (sortN args) h r := by
  obtain ⟨b, c, l, w, d, hs⟩ := sortN_in hr
  rw [sortN_of hs] at hr
  cases hr
  intro q hq
  have hb : b ≠ q := fun e => by subst e; rw [hs.row] at hq; cases hq
  have hc : c ≠ q := fun e => by subst e; rw [hs.job] at hq; cases hq
  refine ⟨by rw [List.getElem?_set_ne hb]; exact hq, fun e => ?_⟩
  have hs' : SortIn args (h.set q e) b c l w d := ⟨hs.args, by rw [List.getElem?_set_ne (Ne.symm hb)]; exact hs.row, by rw [List.getElem?_set_ne (Ne.symm hc)]; exact hs.job, hs.ok, hs.blocks, hs.small⟩
  rw [sortN_of hs', List.set_comm _ _ (Ne.symm hb)]
end Rival

/- TopRival: slices.SortFunc as the evaluator is given it: sound. -/
open Go Go.Proofs Go.Abs Go.Sort Go.RowKit Go.Shelf
namespace Rival
theorem putRow_setRow (enc : Nat → Value) (W : World) (blk off : Nat) (d : Array Nat) (cells : Array Value) (ty : TypeId) (fr : Nat × Nat) (h : W.heap[blk]? = some (.cells cells ty fr)) : putRow enc W blk off d = W.setRow blk (putCells enc off d cells) := by
  unfold putRow mapBlock World.setRow
  congr 1
  apply Array.ext_getElem?
  intro i
  rw [Array.getElem?_modify, Array.getElem?_modify]
  by_cases hi : blk = i
  · subst hi
    simp [h, onCells]
  · simp [hi]
theorem sort_pos {N : Nat → Prop} {base : Nat} {ρ : RMap} {h : Heap} {W : World} (H : HRel N base ρ h W) {b c : Nat} {l : List It} {w : Int} {d : List Nat} (hrow : h[b]? = some (.row false 1 (ints (d.map Int.ofNat)))) (hjob : h[c]? = some (.row false 2 [jobV l w])) (hok : ∀ x ∈ d, x < l.length) (hbl : ∀ x ∈ l, 0 ≤ x.b ∧ x.b ≤ 31) (hsm : d.length < 4611686018427387904) (hne : d ≠ [])
    {l1 : RowLoc} (h1 : ρ b = some (.row false l1)) (h2 : l1.cur = d.length) (h3 : l1.sz = 1) (hr1 : RowAt W (Mut N ρ) ρ base l1 (ints (d.map Int.ofNat)))
    {l2 : RowLoc} (g1 : ρ c = some (.row false l2)) (g3 : l2.sz = 2) (hr2 : RowAt W (Mut N ρ) ρ base l2 [jobV l w]) (cap : Nat) :
    Calls Tryz.prog 50 #[.slice (some ⟨l1.cb, l1.co, none⟩) d.length cap, .func (.func 51) #[] #[.pointer (some ⟨l2.cb, l2.co, none⟩)]] W fun e w' => ∃ v ρ', e = .returned v ∧ VRel w' (Mut N ρ') ρ' (.tup []) v ∧ HRel N base ρ' (h.set b (.row false 1 (ints ((sortL l d).map Int.ofNat)))) w' ∧ Adv ρ W ρ' w' := by
  have hn : 0 < l.length := by
    cases d with
    | nil => exact absurd rfl hne
    | cons x d => have := hok x List.mem_cons_self; omega
  let enc : Nat → Value := fun x => .int .i64 ((x % l.length : Nat) : Int)
  have hsize : d.toArray.size = d.length := by simp
  have hdj : ∀ j, j < d.length → d.toArray[j]! % l.length = d.toArray[j]! ∧ d[j]? = some d.toArray[j]! := fun j hj => by
    have e : d.toArray[j]! = d[j] := by simp [getElem!_pos, hj]
    rw [e]
    exact ⟨Nat.mod_eq_of_lt (hok _ (List.getElem_mem hj)), List.getElem?_eq_getElem hj⟩
  obtain ⟨cells, ty, hblk, hbsz⟩ := hr1.block
  have hH : Holds enc W l1.cb l1.co d.toArray := fun j hj => by
    rw [hsize] at hj
    obtain ⟨e1, e2⟩ := hdj j hj
    constructor
    · obtain ⟨v, hv, hrel⟩ := hr1.cell j 0 (.int .i64 ((d.toArray[j]! : Nat) : Int)) (.int .i64 ((d.toArray[j]! : Nat) : Int)) (by rw [ints, List.getElem?_map, List.getElem?_map, e2]; rfl) rfl
      cases hrel
      rw [h3, Nat.mul_one, Nat.add_zero] at hv
      rw [hv]
      show _ = some (Value.int .i64 ((d.toArray[j]! % l.length : Nat) : Int))
      rw [e1]
    · simp [World.frozen?, hblk]
  have hlt : l1.cb < W.heap.size := (Array.getElem?_eq_some_iff.1 hblk).1
  have hbc : l2.cb ≠ l1.cb := fun e => by
    have := H.inj b c l1.cb ⟨_, h1, rfl⟩ ⟨_, g1, by simp [Loc.block, e]⟩
    subst this
    rw [hrow] at hjob
    simp at hjob
  have hlt2 : l2.cb < W.heap.size := by
    obtain ⟨_, _, hb2, _⟩ := hr2.block
    exact (Array.getElem?_eq_some_iff.1 hb2).1
  -- the job's items, where they lie
  obtain ⟨vj, hvj, hrelj⟩ := hr2.cell 0 0 (jobV l w) (.lst (its l)) rfl rfl
  rw [g3] at hvj
  have hitems : ∃ cb off cap2, vj = .slice (some ⟨cb, off, none⟩) l.length cap2 ∧ cb ≠ l1.cb ∧ cb < W.heap.size ∧ ∀ t, t < l.length → W.cell? ⟨cb, off + t * 4 + 1, none⟩ = some (.int .i64 (l.getD t default).b) := by
    generalize hE : its l = E at hrelj
    cases hrelj with
    | lst0 => 
      rw [its, List.map_eq_nil_iff] at hE
      subst hE
      simp at hn
    | @lst _ sz es cb off n cap2 val hn2 hcap hM hlt3 hs hc hv =>
      subst hE
      have hn3 : l.length = n := by simpa [its] using hn2
      subst hn3
      refine ⟨cb, off, cap2, rfl, fun e => hM (.inr ⟨b, _, h1, e.symm⟩), hlt3, fun t ht => ?_⟩
      have hi : (its l)[t]? = some (l.getD t default).av := by
        simp [its, List.getD_eq_getElem?_getD, ht]
      have hsz := hs t _ hi
      have hsz4 : sz = 4 := by rw [← hsz]; rfl
      subst hsz4
      have hcell := hc t 1 _ (.int .i64 (l.getD t default).b) hi rfl
      have hval := hv t 1 _ (.int .i64 (l.getD t default).b) hi rfl
      generalize val t 1 = u at hcell hval
      cases hval
      exact hcell
  obtain ⟨cb, off, cap2, rfl, hcb, hcbl, hG⟩ := hitems
  have hGr : ∀ t, t < l.length → 0 ≤ (l.getD t default).b ∧ (l.getD t default).b ≤ 31 := fun t ht => by
    have e : l.getD t default = l[t] := by simp [List.getD_eq_getElem?_getD, ht]
    rw [e]
    exact hbl _ (List.getElem_mem ht)
  have eg : ∀ args w, (callFunc 51 args).run Tryz.prog w = .ok (.enter 51 args) w := enters_of Tryz.func51 (by kernel_rfl) rfl
  have hcmp : CmpLays1 Tryz.prog 51 #[.pointer (some ⟨l2.cb, l2.co, none⟩)] enc (fun x y => bk l x - bk l y) l1.cb l1.co d.toArray.size W := by
    intro m os dk hs x y
    have old : ∀ a : Addr, a.block ≠ l1.cb → a.block < W.heap.size → (sortWorld enc W l1.cb l1.co m dk os).cell? a = W.cell? a := fun a ha hl => by
      unfold sortWorld
      rw [cell?_grow _ _ _ (by simpa using hl), cell?_putRow_other _ _ _ _ _ _ (.inl ha)]
      rfl
    have hx : x % l.length < l.length := Nat.mod_lt _ hn
    have hy : y % l.length < l.length := Nat.mod_lt _ hn
    refine (closure51 l2.cb l2.co cb off cap2 l.length (sortWorld enc W l1.cb l1.co m dk os) (fun t => (l.getD t default).b) ?_ (fun t ht => ?_) hGr (x % l.length) (y % l.length) hx hy).mono ?_
    · rw [old _ hbc hlt2]
      simpa using hvj
    · rw [old _ hcb hcbl]
      exact hG t ht
    · rintro e w' ⟨rfl, q, rfl⟩
      exact ⟨rfl, q, #[], by rw [grow_empty]⟩
  have hS := Any.slices_SortFunc_eq sortLay enc (fun _ => rfl) (fun x y => bk l x - bk l y) (ltB_swo l) 51 #[.pointer (some ⟨l2.cb, l2.co, none⟩)] l1.cb l1.co cap d.toArray W eg hcmp hH hlt (by rw [hsize]; exact hsm)
  rw [hsize] at hS
  change Calls Tryz.prog 50 _ _ _ at hS
  refine hS.mono ?_
  rintro e w' ⟨rfl, m, os, rfl⟩
  have hsp := sortL_spec l d
  have hlen := sortL_len l d
  have hdef : sortL l d = (pdq (ltOf fun x y => bk l x - bk l y) d.toArray 0 d.length (Lib.bitLen d.length) true true).toList := rfl
  rw [hdef] at hsp hlen ⊢
  generalize pdq (ltOf fun x y => bk l x - bk l y) d.toArray 0 d.length (Lib.bitLen d.length) true true = r at hsp hlen ⊢
  simp at hlen
  have hmem : ∀ i, i < d.length → ∃ x, r.toList[i]? = some x ∧ r[i]! = x ∧ x < l.length := fun i hi => by
    have h1 : i < r.size := by omega
    refine ⟨r[i], by simp [h1], by simp [getElem!_pos, h1], hok _ (hsp.1.mem_iff.1 ?_)⟩
    simp
  have hfit := hr1.fits
  simp [ints] at hfit
  have hes : (ints (r.toList.map Int.ofNat)).length = d.length := by simp [ints, hlen]
  have hwr := H.writeRow (cells' := putCells enc l1.co r cells) (es' := ints (r.toList.map Int.ofNat)) hrow h1 hblk (by simp [putCells]) (by rw [hes]; simp [ints]) (by rw [hes]; exact hfit) (fun i e he => ?_) (fun i j e c he hc => ?_)
  · obtain ⟨H1, A1⟩ := hwr
    have hheap : (sortWorld enc W l1.cb l1.co m r os).heap = (W.setRow l1.cb (putCells enc l1.co r cells)).heap ++ os := by
      rw [← putRow_setRow enc W l1.cb l1.co r cells ty _ hblk]
      rfl
    obtain ⟨H2, A2⟩ := H1.grow (w' := sortWorld enc W l1.cb l1.co m r os) (by rw [hheap]; simp) (fun k hk => by rw [hheap, Array.getElem?_append_left hk]) rfl rfl rfl
    exact ⟨_, _, rfl, .tup rfl (fun i c hi => by simp at hi), H2, A1.trans A2⟩
  · obtain ⟨x, rfl⟩ : ∃ x, e = .int .i64 x := by
      simp only [ints, List.getElem?_map, Option.map_eq_some_iff] at he
      obtain ⟨x, hx, rfl⟩ := he
      exact ⟨x, rfl⟩
    rw [h3]; rfl
  · have hi : i < d.length := by
      have := (List.getElem?_eq_some_iff.1 he).1
      rwa [hes] at this
    obtain ⟨x, x1, x2, x3⟩ := hmem i hi
    have he' : e = .int .i64 (x : Int) := by
      simp only [ints, List.getElem?_map, x1, Option.map_some, Option.some.injEq] at he
      exact he.symm
    subst he'
    cases j with
    | succ j => simp [AV.cells] at hc
    | zero =>
      simp [AV.cells] at hc
      subst hc
      have hk : l1.co + i * l1.sz + 0 < cells.size := by
        rw [h3] at hbsz ⊢
        omega
      have hcell : (putCells enc l1.co r cells).getD (l1.co + i * l1.sz + 0) undef = .int .i64 (x : Int) := by
        have e1 : l1.co + i * l1.sz + 0 = l1.co + i := by rw [h3]; omega
        rw [e1] at hk ⊢
        have hir : i < r.size := by omega
        simp [putCells, Array.getD_eq_getD_getElem?, hk, hir]
        have x4 : r[i] = x := by rw [← x2, getElem!_pos r i hir]
        show Value.int .i64 ((r[i] % l.length : Nat) : Int) = Value.int .i64 (x : Int)
        rw [x4, Nat.mod_eq_of_lt x3]
      rw [hcell]
      exact .int _ _
end Rival

/- TopRival: the evaluator with what it is given: sound. -/
open Go Go.Proofs Go.Abs Go.Sort Go.RowKit Go.Shelf
namespace Rival
theorem ref_slice {W : World} {M : Nat → Prop} {ρ : RMap} {b n : Nat} {l1 : RowLoc} (h1 : ρ b = some (.row false l1)) (h2 : l1.cur = n) (hn : 0 < n) {x : Value} (r : VRel W M ρ (.ref b n 0 n) x) : ∃ cap, x = .slice (some ⟨l1.cb, l1.co, none⟩) n cap := by
  generalize hg : AV.ref b n 0 n = av at r
  cases r <;> simp only [AV.ref.injEq, reduceCtorEq] at hg
  case ref h3 h4 h5 =>
    obtain ⟨rfl, e2, rfl, rfl⟩ := hg
    rw [h1] at h5
    cases h5
    exact ⟨l1.cap, by simp⟩
  case refEnd h3 h4 h5 =>
    obtain ⟨_, _, _, e⟩ := hg
    omega
  case refVirt h3 =>
    obtain ⟨_, _, _, e⟩ := hg
    omega
  case refOld h3 h4 h5 h6 =>
    obtain ⟨rfl, e2, rfl, rfl⟩ := hg
    rw [h1] at h6
    cases h6
    omega
theorem ref_none {W : World} {M : Nat → Prop} {ρ : RMap} {b : Nat} {x : Value} (r : VRel W M ρ (.ref b 0 0 0) x) : ∃ p cap, x = .slice p 0 cap := by
  generalize hg : AV.ref b 0 0 0 = av at r
  cases r <;> simp only [AV.ref.injEq, reduceCtorEq] at hg
  case ref h3 h4 h5 =>
    obtain ⟨_, _, _, rfl⟩ := hg
    exact ⟨_, _, rfl⟩
  case refEnd => exact ⟨_, _, rfl⟩
  case refVirt => exact ⟨_, _, rfl⟩
  case refOld h3 h4 h5 h6 =>
    obtain ⟨_, _, _, rfl⟩ := hg
    exact ⟨_, _, rfl⟩
theorem sort_nil (l : List It) : sortL l [] = [] := List.eq_nil_of_length_eq_zero (by rw [sortL_len]; rfl)
theorem sort_none {N : Nat → Prop} {base : Nat} {ρ : RMap} {h : Heap} {W : World} (H : HRel N base ρ h W) {b : Nat} {l : List It} (hrow : h[b]? = some (.row false 1 (ints (([] : List Nat).map Int.ofNat)))) (p : Option Addr) (cap : Nat) (fv : Value) :
    Calls Tryz.prog 50 #[.slice p 0 cap, fv] W fun e w' => ∃ v ρ', e = .returned v ∧ VRel w' (Mut N ρ') ρ' (.tup []) v ∧ HRel N base ρ' (h.set b (.row false 1 (ints ((sortL l []).map Int.ofNat)))) w' ∧ Adv ρ W ρ' w' := by
  have hS := AnyF.slices_SortFunc_none (P := Tryz.prog) (ρ := sortRen) { sortLay with } p cap fv W
  change Calls Tryz.prog 50 _ _ _ at hS
  refine hS.mono ?_
  rintro e w' ⟨rfl, rfl⟩
  have he : h.set b (.row false 1 (ints ((sortL l []).map Int.ofNat))) = h := by
    rw [sort_nil]
    apply List.ext_getElem (by simp)
    intro i h1 h2
    rw [List.getElem_set]
    split
    · rename_i e
      subst e
      rw [List.getElem?_eq_getElem h2] at hrow
      simpa using hrow.symm
    · rfl
  rw [he]
  exact ⟨_, ρ, rfl, .tup rfl (fun i c hi => by simp at hi), H, Adv.refl ρ _⟩
theorem sort_sound {args : List AV} {h : Heap} {r : AV × Heap} (hr : sortN args h = some r) : CallOK Tryz.prog 50 args h r := by
  obtain ⟨b, c, l, w, d, hs⟩ := sortN_in hr
  rw [sortN_of hs] at hr
  cases hr
  refine ⟨⟨Tryz.f50, _, Tryz.func50, by kernel_rfl, rfl⟩, fun N base ρ W cargs H ha => ?_⟩
  obtain ⟨hargs, hrow, hjob, hok, hbl, hsm⟩ := hs
  subst hargs
  obtain ⟨ha1, ha2⟩ := ha
  obtain ⟨x0, x1, rfl⟩ : ∃ x0 x1, cargs = #[x0, x1] := by
    obtain ⟨cl⟩ := cargs
    match cl, ha1 with
    | [x0, x1], _ => exact ⟨x0, x1, rfl⟩
  have r0 : VRel W (Mut N ρ) ρ (.ref b d.length 0 d.length) x0 := ha2 0 _ rfl
  have r1 : VRel W (Mut N ρ) ρ (.func 51 [.ptr c 1 0 0]) x1 := ha2 1 _ rfl
  clear ha1 ha2
  have hil : (ints (d.map Int.ofNat)).length = d.length := by simp [ints]
  -- the closure
  obtain ⟨l2, g1, g3, hr2, rfl⟩ : ∃ l2, ρ c = some (.row false l2) ∧ l2.sz = 2 ∧ RowAt W (Mut N ρ) ρ base l2 [jobV l w] ∧ x1 = .func (.func 51) #[] #[.pointer (some ⟨l2.cb, l2.co, none⟩)] := by
    rcases H.row hjob with ⟨l2, g1, g2, g3, g4⟩ | ⟨_, h2, _⟩
    · refine ⟨l2, g1, g3, g4, ?_⟩
      cases r1 with
      | func hn hv =>
        rename_i vs
        have h0 := hv 0 _ rfl
        obtain ⟨x, rfl⟩ : ∃ x, vs = #[x] := by
          obtain ⟨vl⟩ := vs
          match vl, hn with
          | [x], _ => exact ⟨x, rfl⟩
        have hp : x = .pointer (some ⟨l2.cb, l2.co, none⟩) := by
          have h0' : VRel W (Mut N ρ) ρ (.ptr c 1 0 0) x := h0
          generalize hg : (1 : Nat) = g at h0'
          cases h0' with
          | ptr h5 =>
            rw [g1] at h5
            cases h5
            simp
          | ptrOld a h5 h6 =>
            rw [g1] at h5
            cases h5
            simp at g2
            omega
        rw [hp]
    · cases h2
  rcases H.row hrow with ⟨l1, h1, h2, h3, hr1⟩ | ⟨h1, h2, _, _⟩
  · rw [hil] at h2
    by_cases hne : d = []
    · subst hne
      obtain ⟨p, cap, rfl⟩ := ref_none r0
      exact sort_none H hrow p cap _
    · have hx0 := ref_slice h1 h2 (List.length_pos_iff.2 hne) r0
      obtain ⟨cap, rfl⟩ := hx0
      exact sort_pos H hrow hjob hok hbl hsm hne h1 h2 h3 hr1 g1 g3 hr2 cap
  · have hd : d = [] := by simpa [ints] using h2
    subst hd
    obtain ⟨p, cap, rfl⟩ := ref_none r0
    exact sort_none H hrow p cap _
theorem prog0 : ProgOK Tryz.prog env0 := envOf_ok Tryz.checked.mixed (fun _ h => by cases h)
theorem awake0 (h : Heap) : callN env0 (callL env0) 13 [] h = some (.bool true, h) := by
  obtain ⟨h', hr⟩ := awake_ok
  have h1 : env0.nat 13 = none := rfl
  have h2 : env0.cm 13 = .pure := rfl
  have h3 : ([] : List AV).all (closed? depth) = true := rfl
  have h4 : snap .any depth h' (.bool true) = some (.bool true) := rfl
  unfold callN
  simp only [h1, h2, h3, cond_true, hr, Option.bind_some, h4, Option.map_some]
theorem natR_cases {f : FuncId} {g : List AV → Heap → Option (AV × Heap)} (h : natR f = some g) : (f = 50 ∧ g = sortN) ∨ (f = 13 ∧ g = awakeN) := by
  unfold natR at h
  cases h1 : Nat.beq f 50
  · rw [h1, cond_false] at h
    cases h2 : Nat.beq f 13
    · rw [h2, cond_false] at h; cases h
    · rw [h2, cond_true] at h; cases h
      exact .inr ⟨Nat.eq_of_beq_eq_true h2, rfl⟩
  · rw [h1, cond_true] at h; cases h
    exact .inl ⟨Nat.eq_of_beq_eq_true h1, rfl⟩
theorem awakeN_some {args : List AV} {h : Heap} {r : AV × Heap} (hr : awakeN args h = some r) : args = [] ∧ r = (.bool true, h) := by
  cases args with
  | nil => cases hr; exact ⟨rfl, rfl⟩
  | cons a b => cases hr
set_option maxRecDepth 100000 in
theorem prog_ok : ProgOK Tryz.prog env := by
  have h0 := prog0
  have hE : ProgOK Tryz.prog (envOf Tryz.prog cmR fun _ => false) := envOf_ok Tryz.checked.mixed (fun _ h => by cases h)
  refine ⟨⟨hE.env.ti, hE.env.mixed⟩, hE.fn, hE.nop, fun f g hg args h r hr => ?_, fun f g hg args h r hr => ?_⟩
  · rcases natR_cases hg with ⟨rfl, rfl⟩ | ⟨rfl, rfl⟩
    · exact sort_sound hr
    · obtain ⟨rfl, rfl⟩ := awakeN_some hr
      exact callN_sound h0 (callL_sound h0) (awake0 h)
  · rcases natR_cases hg with ⟨rfl, rfl⟩ | ⟨rfl, rfl⟩
    · exact sortN_mono hr
    · obtain ⟨rfl, rfl⟩ := awakeN_some hr
      exact fun q hq => ⟨hq, fun e => rfl⟩
end Rival
