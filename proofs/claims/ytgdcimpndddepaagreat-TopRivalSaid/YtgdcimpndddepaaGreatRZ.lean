/- TopRival answers true for every job and every plan, and the input reads as it did. No conditions. -/
import Derived.Test.YtgdcimpndddepaaGreatRQ
import Derived.Test.YtgdcimpndddepaaGreatRows
import Derived.WalkKit
import Derived.ProofKit
import Derived.OpenShut
import Derived.ChangeOld
import Derived.Below
import Derived.SizedLaws
/- TopRival answers true for every job and every plan, and the input reads as it did. -/
namespace Go.Proofs.YtgdcimpndddepaaGreat.topRival
open Go.ChangeShapes Go.WideShapes Go.ChangeAt Go.RowKit Go.Abs
theorem own : ownKnob Tryz.prog.godebug = none := by kernel_rfl
theorem laidOut : laidOutB Tryz.prog = true := by kernel_rfl
theorem callee (W : World) (l : List Rival.It) (w s : Int) (ks : List Int) (hl : l.length < 2 ^ 50) (hk : ks.length < 2 ^ 50) (v0 v1 : Value)
    (r0 : VRel W Rival.M0 RMap.empty (Rival.jobV l w) v0) (r1 : VRel W Rival.M0 RMap.empty (Rival.planV s ks) v1) :
    Calls Tryz.prog 3 #[v0, v1] W fun e w' => e = .returned (.bool true) ∧ Below W.heap.size W w' := by
  obtain ⟨r, hr, hv⟩ := gives_iff.1 (Rival.topRival_ok l w s ks hl hk)
  have hs := (callL_sound Rival.prog_ok _ _ _ _ hr).2 (fun _ => False) W.heap.size RMap.empty W #[v0, v1] (HRel.empty fun _ h => h.elim) ⟨rfl, fun i x hi => by
    match i with
    | 0 => simp at hi; subst hi; exact r0
    | 1 => simp at hi; subst hi; exact r1
    | i + 2 => simp at hi⟩
  refine hs.mono fun e w' h => ?_
  obtain ⟨v, ρ', rfl, hvr, _, adv⟩ := h
  rw [hv] at hvr
  cases hvr
  exact ⟨rfl, adv.os, adv.tape, adv.output, adv.size, fun k hk => adv.keep k hk (fun ⟨_, _, h, _⟩ => by cases h)⟩
theorem arr2 {cs : Array Value} (h : cs.size = 2) : ∃ x0 x1, cs = #[x0, x1] := by
  obtain ⟨cl⟩ := cs
  match cl, h with
  | [x0, x1], _ => exact ⟨x0, x1, rfl⟩
theorem list2 {α : Type} {xs : List α} (h : xs.length = 2) : ∃ x0 x1, xs = [x0, x1] := by
  match xs, h with
  | [x0, x1], _ => exact ⟨x0, x1, rfl⟩
theorem job_arg {H : Type} {enc : TypeId × Value → H} {W : World} {x0 x1 : Value} {d0 : DataW H} {p0 : List MemPlace} (h0 : DataW.Trod enc Tryz.prog W 0 (fun _ => true) true 24 (.agg #[x0, x1]) d0 p0) :
    ∃ (l : List Rival.It) (w : Int), VRel W Rival.M0 RMap.empty (Rival.jobV l w) (.agg #[x0, x1]) ∧ (l = [] ∨ ∃ n, l.length ≤ n ∧ n * Tryz.prog.bytesOf 60 ∈ d0.weights Tryz.prog 24) := by
  have c3 : Tryz.prog.cellsOf 3 = 1 := by kernel_rfl
  have c22 : Tryz.prog.cellsOf 22 = 1 := by kernel_rfl
  obtain ⟨fuel, hf⟩ := h0
  obtain ⟨xs, n', _, hd, _, hxl, hg⟩ := DataW.trod_struct Tryz.underlying24 hf
  have hxl2 : xs.length = 2 := hxl
  obtain ⟨y0, y1, rfl⟩ := list2 hxl2
  have q0 : DataW.trod enc Tryz.prog W 0 (fun _ => true) true n' 22 (([x0, x1].drop 0).take (Tryz.prog.cellsOf 22)) = some y0 := hg 0 _ rfl
  have q1 : DataW.trod enc Tryz.prog W 0 (fun _ => true) true n' 3 (([x0, x1].drop 1).take (Tryz.prog.cellsOf 3)) = some y1 := hg 1 _ rfl
  rw [c22] at q0
  rw [c3] at q1
  obtain ⟨z, e1, _, _⟩ := DataW.trod_int Tryz.underlying3 q1
  simp at e1
  subst e1
  obtain ⟨l, g1, g2⟩ := Rival.open_itsV q0
  refine ⟨l, z, .agg rfl fun i c hi => ?_, ?_⟩
  · match i with
    | 0 => simp at hi; subst hi; exact g1
    | 1 => simp at hi; subst hi; exact .int _ _
    | i + 2 => simp at hi
  · rcases g2 with ⟨_, rfl⟩ | ⟨es, sp, h3, h4⟩
    · exact .inl rfl
    · right
      have hd0 : d0 = .agg [y0.1, y1.1] := (Prod.mk.inj hd).1
      refine ⟨es.length + sp.length, by omega, ?_⟩
      rw [hd0]
      have hw : (DataW.agg [y0.1, y1.1]).weights Tryz.prog 24 = DataW.weightsEach Tryz.prog [22, 3] [y0.1, y1.1] := by
        simp only [DataW.weights, Tryz.underlying24]
        rfl
      rw [hw]
      refine DataW.weights_mem_each (j := 0) rfl rfl _ ?_
      rw [h3]
      simp [DataW.weights, Tryz.underlying22]
theorem plan_arg {H : Type} {enc : TypeId × Value → H} {W : World} {x0 x1 : Value} {d1 : DataW H} {p1 : List MemPlace} (h1 : DataW.Trod enc Tryz.prog W 0 (fun _ => true) true 27 (.agg #[x0, x1]) d1 p1) :
    ∃ (s : Int) (ks : List Int), VRel W Rival.M0 RMap.empty (Rival.planV s ks) (.agg #[x0, x1]) ∧ (ks = [] ∨ ∃ n, ks.length ≤ n ∧ n * Tryz.prog.bytesOf 3 ∈ d1.weights Tryz.prog 27) := by
  have c3 : Tryz.prog.cellsOf 3 = 1 := by kernel_rfl
  have c25 : Tryz.prog.cellsOf 25 = 1 := by kernel_rfl
  obtain ⟨fuel, hf⟩ := h1
  obtain ⟨xs, n', _, hd, _, hxl, hg⟩ := DataW.trod_struct Tryz.underlying27 hf
  have hxl2 : xs.length = 2 := hxl
  obtain ⟨y0, y1, rfl⟩ := list2 hxl2
  have q0 : DataW.trod enc Tryz.prog W 0 (fun _ => true) true n' 3 (([x0, x1].drop 0).take (Tryz.prog.cellsOf 3)) = some y0 := hg 0 _ rfl
  have q1 : DataW.trod enc Tryz.prog W 0 (fun _ => true) true n' 25 (([x0, x1].drop 1).take (Tryz.prog.cellsOf 25)) = some y1 := hg 1 _ rfl
  rw [c3] at q0
  rw [c25] at q1
  obtain ⟨z, e1, _, _⟩ := DataW.trod_int Tryz.underlying3 q0
  simp at e1
  subst e1
  obtain ⟨ks, g1, g2⟩ := Rival.open_intsV Tryz.underlying25 Tryz.underlying3 (by kernel_rfl) q1
  refine ⟨z, ks, .agg rfl fun i c hi => ?_, ?_⟩
  · match i with
    | 0 => simp at hi; subst hi; exact .int _ _
    | 1 => simp at hi; subst hi; exact g1
    | i + 2 => simp at hi
  · rcases g2 with ⟨_, rfl⟩ | ⟨es, sp, h3, h4⟩
    · exact .inl rfl
    · right
      have hd0 : d1 = .agg [y0.1, y1.1] := (Prod.mk.inj hd).1
      refine ⟨es.length + sp.length, by omega, ?_⟩
      rw [hd0]
      have hw : (DataW.agg [y0.1, y1.1]).weights Tryz.prog 27 = DataW.weightsEach Tryz.prog [3, 25] [y0.1, y1.1] := by
        simp only [DataW.weights, Tryz.underlying27]
        rfl
      rw [hw]
      refine DataW.weights_mem_each (j := 1) rfl rfl _ ?_
      rw [h3]
      simp [DataW.weights, Tryz.underlying25]
set_option maxRecDepth 100000 in
theorem lifted (os : Os) (started : os.Started) (H : Type) (enc : TypeId × Value → H) :
    ReturnsInHanded {} Tryz.checked os 3 .any (Rows.topRivalSpec.pre6 enc Tryz.prog Tryz.f3 Rows.topRivalRow.domain false) (Rows.topRivalSpec.post enc Tryz.prog Tryz.f3 false true false false) := by
  refine returnsInHanded_of_change_sized (C := Tryz.checked) own started (by kernel_rfl) Tryz.func3
    (ChangeSpec.witness6 (enc := enc) (C := Tryz.checked) false ⟨#[], #[.agg #[.slice none 0 0, .int .i64 0], .agg #[.int .i64 0, .slice none 0 0]], []⟩ 8 (by kernel_rfl) (by kernel_rfl) (by kernel_rfl) (by kernel_rfl)) ?_
  intro W base args ds gs before hval0 hW hcnd hsz0 _
  have hsz : (DataW.weightsEach Tryz.prog (Tryz.f3.params.toList ++ Rows.topRivalSpec.plain.varTypes Tryz.prog) (ds ++ gs)).all (· ≤ reachBytes) = true := hsz0
  have hval : ∀ (j : Nat) t v, Tryz.f3.params[j]? = some t → args[j]? = some v → Value.okWide Tryz.prog W .any base t v := hval0
  have hW' := hW
  obtain ⟨p, q, hA0, hV, rfl, hfz, hnd⟩ := hW
  have hA : DataW.TrodAll enc Tryz.prog W 0 (fun _ => true) true Tryz.f3.params.toList args.toList ds p := hA0
  rw [Tryz.params3] at hA hval hsz
  obtain ⟨v0, vs0, d0, ds0, p0, q0, hargs, rfl, rfl, h0, r0⟩ := trodAll_cons hA
  obtain ⟨v1, vs1, d1, ds1, p1, q1, rfl, rfl, rfl, h1, r1⟩ := trodAll_cons r0
  obtain ⟨rfl, rfl, rfl⟩ := trodAll_nil r1
  obtain rfl : args = #[v0, v1] := by cases args; simp_all
  obtain ⟨rfl, rfl⟩ := trodVars_none hV
  have c24 : Tryz.prog.cellsOf 24 = 2 := by kernel_rfl
  have c27 : Tryz.prog.cellsOf 27 = 2 := by kernel_rfl
  have hb60 : Tryz.prog.bytesOf 60 = 32 := by kernel_rfl
  have hb3 : Tryz.prog.bytesOf 3 = 8 := by kernel_rfl
  have h7 := reachBytes_lt
  obtain ⟨cs0, rfl, hs0⟩ := okWide_struct Tryz.underlying24 (hval 0 24 v0 rfl rfl)
  obtain ⟨x0, x1, rfl⟩ := arr2 (hs0.trans c24)
  obtain ⟨cs1, rfl, hs1⟩ := okWide_struct Tryz.underlying27 (hval 1 27 v1 rfl rfl)
  obtain ⟨z0, z1, rfl⟩ := arr2 (hs1.trans c27)
  obtain ⟨l, w, rl, hl0⟩ := job_arg h0
  obtain ⟨s, ks, rk, hk0⟩ := plan_arg h1
  have hl : l.length < 2 ^ 50 := by
    rcases hl0 with rfl | ⟨n, h3, h4⟩
    · decide
    · have h5 := of_decide_eq_true (List.all_eq_true.1 hsz _ (DataW.weights_mem_each (j := 0) (t := 24) rfl rfl _ h4))
      rw [hb60] at h5
      omega
  have hk : ks.length < 2 ^ 50 := by
    rcases hk0 with rfl | ⟨n, h3, h4⟩
    · decide
    · have h5 := of_decide_eq_true (List.all_eq_true.1 hsz _ (DataW.weights_mem_each (j := 1) (t := 27) rfl rfl _ h4))
      rw [hb3] at h5
      omega
  have lt0 : ∀ x ∈ p0, x.block < W.heap.size := by obtain ⟨m, hm⟩ := h0; exact DataW.trod_lt m _ _ _ hm
  have lt1 : ∀ x ∈ p1, x.block < W.heap.size := by obtain ⟨m, hm⟩ := h1; exact DataW.trod_lt m _ _ _ hm
  clear hA0 hval0 hsz0 hsz
  refine (callee W l w s ks hl hk _ _ rl rk).mono fun e W' ⟨he, bel⟩ => ?_
  subst he
  exact ⟨_, rfl, _, _, _, [], _, [], hW', trodAll_mk1 (shut_bool Tryz.underlying4 _),
    (trodAll_cons_mk (Below.trod laidOut (by kernel_rfl) (of_decide_eq_true (by kernel_rfl)) h0 bel lt0) (trodAll_cons_mk (Below.trod laidOut (by kernel_rfl) (of_decide_eq_true (by kernel_rfl)) h1 bel lt1) trodAll_mk0)), rfl, bel.frame _, fun h => by cases h⟩
theorem over : Rows.topRivalRow.holds Tryz.pinned (OpenSpec.ofChange Rows.topRivalSpec) :=
  OpenClaim.holds_of_wide 3 Tryz.f3 rfl rfl rfl rfl rfl rfl rfl ⟨rfl, rfl, rfl, rfl, rfl⟩ rfl rfl rfl rfl rfl (by kernel_rfl) Tryz.func3 (by kernel_rfl)
    (of_decide_eq_true (by kernel_rfl)) (by unfold Func.isWrapper; first | (rw [if_pos (by decide +kernel)]; kernel_rfl) | (rw [if_neg (by decide +kernel)]; exact ⟨rfl, rfl⟩))
    (fun os started H enc _ => lifted os started H enc)
theorem proved : Rows.TopRivalSaid := over
end Go.Proofs.YtgdcimpndddepaaGreat.topRival
namespace Go.Proofs.YtgdcimpndddepaaGreat
theorem topRival_holds : Rows.TopRivalSaid := topRival.proved
end Go.Proofs.YtgdcimpndddepaaGreat
#print axioms Go.Proofs.YtgdcimpndddepaaGreat.topRival_holds
