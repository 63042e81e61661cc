/- TopHeard answers true for every input, and the input reads as it did. No conditions. -/
import Derived.Test.YtoechcjloppghaaGreatHR
import Derived.Test.YtoechcjloppghaaGreatRows
import Derived.WalkKit
import Derived.ProofKit
import Derived.OpenShut
import Derived.ChangeOld
import Derived.Below
import Derived.SizedLaws
/- TopHeard answers true for every input, and the input reads as it did. -/
namespace Go.Proofs.YtoechcjloppghaaGreat.topHeard
open Go.ChangeShapes Go.WideShapes Go.ChangeAt Go.RowKit Go.Abs
theorem own : ownKnob Tryz.prog.godebug = none := by kernel_rfl
theorem laidOut : laidOutB Tryz.prog = true := by kernel_rfl
theorem prog_ok : ProgOK Tryz.prog Heard.env := envOf_ok Tryz.checked.mixed (fun _ h => by cases h)
theorem c10 (h : Heap) : callN Heard.env (callL Heard.env) 10 [] h = some (.bool true, h) := by
  obtain ⟨h', hr⟩ := Heard.awake_ok
  exact Heard.callE rfl rfl hr rfl h
theorem callee (W : World) (l : List Heard.Pu) (bits lost a b : List Int) (hl : l.length < 2 ^ 50) (hbl : bits.length < 2 ^ 50) (hll : lost.length < 2 ^ 50) (hla : a.length < 2 ^ 50) (hlb : b.length < 2 ^ 50) (v0 v1 v2 v3 v4 : Value)
    (r0 : VRel W Heard.M0 RMap.empty (.lst (Heard.puls l)) v0) (r1 : VRel W Heard.M0 RMap.empty (.lst (Heard.ints bits)) v1) (r2 : VRel W Heard.M0 RMap.empty (.lst (Heard.ints lost)) v2) (r3 : VRel W Heard.M0 RMap.empty (.lst (Heard.ints a)) v3) (r4 : VRel W Heard.M0 RMap.empty (.lst (Heard.ints b)) v4) :
    Calls Tryz.prog 3 #[v0, v1, v2, v3, v4] W fun e w' => e = .returned (.bool true) ∧ Below W.heap.size W w' := by
  obtain ⟨r, hr, hv⟩ := gives_iff.1 (Heard.topHeard_ok c10 l bits lost a b hl hbl hll hla hlb)
  have hs := (callL_sound prog_ok _ _ _ _ hr).2 (fun _ => False) W.heap.size RMap.empty W #[v0, v1, v2, v3, v4] (HRel.empty fun _ h => h.elim) ⟨rfl, fun i x hi => by
    match i with
    | 0 => simp at hi; subst hi; exact r0
    | 1 => simp at hi; subst hi; exact r1
    | 2 => simp at hi; subst hi; exact r2
    | 3 => simp at hi; subst hi; exact r3
    | 4 => simp at hi; subst hi; exact r4
    | i + 5 => simp at hi⟩
  refine hs.mono fun e w' h => ?_
  obtain ⟨v, ρ', rfl, hvr, _, adv⟩ := h
  rw [hv] at hvr
  cases hvr
  exact ⟨rfl, adv.os, adv.tape, adv.output, adv.size, fun k hk => adv.keep k hk (fun ⟨_, _, h, _⟩ => by cases h)⟩
set_option maxRecDepth 100000 in
theorem lifted (os : Os) (started : os.Started) (H : Type) (enc : TypeId × Value → H) :
    ReturnsInHanded {} Tryz.checked os 3 .any (Rows.topHeardSpec.pre6 enc Tryz.prog Tryz.f3 Rows.topHeardRow.domain false) (Rows.topHeardSpec.post enc Tryz.prog Tryz.f3 false true false false) := by
  refine returnsInHanded_of_change_sized (C := Tryz.checked) own started (by kernel_rfl) Tryz.func3
    (ChangeSpec.witness6 (enc := enc) (C := Tryz.checked) false ⟨#[], #[.slice none 0 0, .slice none 0 0, .slice none 0 0, .slice none 0 0, .slice none 0 0], []⟩ 8 (by kernel_rfl) (by kernel_rfl) (by kernel_rfl) (by kernel_rfl)) ?_
  intro W base args ds gs before hval0 hW hcnd hsz0 _
  have hsz : (DataW.weightsEach Tryz.prog (Tryz.f3.params.toList ++ Rows.topHeardSpec.plain.varTypes Tryz.prog) (ds ++ gs)).all (· ≤ reachBytes) = true := hsz0
  have hval : ∀ (j : Nat) t v, Tryz.f3.params[j]? = some t → args[j]? = some v → Value.okWide Tryz.prog W .any base t v := hval0
  have hW' := hW
  obtain ⟨p, q, hA0, hV, rfl, hfz, hnd⟩ := hW
  have hA : DataW.TrodAll enc Tryz.prog W 0 (fun _ => true) true Tryz.f3.params.toList args.toList ds p := hA0
  rw [Tryz.params3] at hA hval hsz
  obtain ⟨v0, vs0, d0, ds0, p0, q0, hargs, rfl, rfl, h0, r0⟩ := trodAll_cons hA
  obtain ⟨v1, vs1, d1, ds1, p1, q1, rfl, rfl, rfl, h1, r1⟩ := trodAll_cons r0
  obtain ⟨v2, vs2, d2, ds2, p2, q2, rfl, rfl, rfl, h2, r2⟩ := trodAll_cons r1
  obtain ⟨v3, vs3, d3, ds3, p3, q3, rfl, rfl, rfl, h3, r3⟩ := trodAll_cons r2
  obtain ⟨v4, vs4, d4, ds4, p4, q4, rfl, rfl, rfl, h4, r4⟩ := trodAll_cons r3
  obtain ⟨rfl, rfl, rfl⟩ := trodAll_nil r4
  obtain rfl : args = #[v0, v1, v2, v3, v4] := by cases args; simp_all
  obtain ⟨rfl, rfl⟩ := trodVars_none hV
  have ints_arg : ∀ (j : Nat) (v : Value) (d : DataW H) (p : List MemPlace), (#[v0, v1, v2, v3, v4] : Array Value)[j]? = some v → (#[22, 23, 23, 23, 23] : Array TypeId)[j]? = some 23 → ((#[22, 23, 23, 23, 23] : Array TypeId).toList ++ Rows.topHeardSpec.plain.varTypes Tryz.prog)[j]? = some 23 → ([d0, d1, d2, d3, d4] ++ [])[j]? = some d → DataW.Trod enc Tryz.prog W 0 (fun _ => true) true 23 v d p →
      ∃ l : List Int, VRel W Heard.M0 RMap.empty (.lst (Heard.ints l)) v ∧ l.length < 2 ^ 50 := by
    intro j v d p hv ht ht2 hd ⟨fuel, hf⟩
    obtain ⟨a, len, cap, rfl⟩ := okWide_slice Tryz.underlying23 (hval j 23 v ht hv)
    obtain ⟨l, h1, h2⟩ := Heard.open_intsV (v := .slice a len cap) Tryz.underlying23 Tryz.underlying3 (by kernel_rfl) hf
    refine ⟨l, h1, ?_⟩
    rcases h2 with ⟨_, rfl⟩ | ⟨es, sp, h3, h4⟩
    · decide
    · simp only at h3
      subst h3
      have h5 := sized_slice hsz (j := j) (t := 23) ht2 hd Tryz.underlying23
      have h6 : Tryz.prog.bytesOf 3 = 8 := by kernel_rfl
      have h7 := reachBytes_lt
      rw [h6] at h5
      omega
  have puls_arg : ∃ l : List Heard.Pu, VRel W Heard.M0 RMap.empty (.lst (Heard.puls l)) v0 ∧ l.length < 2 ^ 50 := by
    obtain ⟨fuel, hf⟩ := h0
    obtain ⟨a, len, cap, rfl⟩ := okWide_slice Tryz.underlying22 (hval 0 22 v0 rfl rfl)
    obtain ⟨l, h1, h2⟩ := Heard.open_pulsV (ft := 3) (v := .slice a len cap) Tryz.underlying22 Tryz.underlying35 (by kernel_rfl) (by kernel_rfl) (by kernel_rfl) (by kernel_rfl) (by kernel_rfl) (by kernel_rfl) (by kernel_rfl) Tryz.underlying3 (by kernel_rfl) hf
    refine ⟨l, h1, ?_⟩
    rcases h2 with ⟨_, rfl⟩ | ⟨es, sp, h3, h4⟩
    · decide
    · simp only at h3
      subst h3
      have h5 := sized_slice hsz (j := 0) (t := 22) rfl rfl Tryz.underlying22
      have h6 : Tryz.prog.bytesOf 35 = 24 := by kernel_rfl
      have h7 := reachBytes_lt
      rw [h6] at h5
      omega
  obtain ⟨l, rl, hl⟩ := puls_arg
  obtain ⟨bits, rb, hbl⟩ := ints_arg 1 v1 d1 p1 rfl rfl rfl rfl h1
  obtain ⟨lost, ro, hll⟩ := ints_arg 2 v2 d2 p2 rfl rfl rfl rfl h2
  obtain ⟨a, ra, hla⟩ := ints_arg 3 v3 d3 p3 rfl rfl rfl rfl h3
  obtain ⟨b, rb', hlb⟩ := ints_arg 4 v4 d4 p4 rfl rfl rfl rfl h4
  have lt0 : ∀ x ∈ p0, x.block < W.heap.size := by obtain ⟨m, hm⟩ := h0; exact DataW.trod_lt m _ _ _ hm
  have lt1 : ∀ x ∈ p1, x.block < W.heap.size := by obtain ⟨m, hm⟩ := h1; exact DataW.trod_lt m _ _ _ hm
  have lt2 : ∀ x ∈ p2, x.block < W.heap.size := by obtain ⟨m, hm⟩ := h2; exact DataW.trod_lt m _ _ _ hm
  have lt3 : ∀ x ∈ p3, x.block < W.heap.size := by obtain ⟨m, hm⟩ := h3; exact DataW.trod_lt m _ _ _ hm
  have lt4 : ∀ x ∈ p4, x.block < W.heap.size := by obtain ⟨m, hm⟩ := h4; exact DataW.trod_lt m _ _ _ hm
  clear hA0 hval0 hsz0 hsz
  refine (callee W l bits lost a b hl hbl hll hla hlb v0 v1 v2 v3 v4 rl rb ro ra rb').mono fun e W' ⟨he, bel⟩ => ?_
  subst he
  exact ⟨_, rfl, _, _, _, [], _, [], hW', trodAll_mk1 (shut_bool Tryz.underlying4 _),
    (trodAll_cons_mk (Below.trod laidOut (by kernel_rfl) (of_decide_eq_true (by kernel_rfl)) h0 bel lt0) (trodAll_cons_mk (Below.trod laidOut (by kernel_rfl) (of_decide_eq_true (by kernel_rfl)) h1 bel lt1) (trodAll_cons_mk (Below.trod laidOut (by kernel_rfl) (of_decide_eq_true (by kernel_rfl)) h2 bel lt2)
      (trodAll_cons_mk (Below.trod laidOut (by kernel_rfl) (of_decide_eq_true (by kernel_rfl)) h3 bel lt3) (trodAll_cons_mk (Below.trod laidOut (by kernel_rfl) (of_decide_eq_true (by kernel_rfl)) h4 bel lt4) trodAll_mk0))))), rfl, bel.frame _, fun h => by cases h⟩
theorem over : Rows.topHeardRow.holds Tryz.pinned (OpenSpec.ofChange Rows.topHeardSpec) :=
  OpenClaim.holds_of_wide 3 Tryz.f3 rfl rfl rfl rfl rfl rfl rfl ⟨rfl, rfl, rfl, rfl, rfl⟩ rfl rfl rfl rfl rfl (by kernel_rfl) Tryz.func3 (by kernel_rfl)
    (of_decide_eq_true (by kernel_rfl)) (by unfold Func.isWrapper; first | (rw [if_pos (by decide +kernel)]; kernel_rfl) | (rw [if_neg (by decide +kernel)]; exact ⟨rfl, rfl⟩))
    (fun os started H enc _ => lifted os started H enc)
theorem proved : Rows.TopHeardSaid := over
end Go.Proofs.YtoechcjloppghaaGreat.topHeard
namespace Go.Proofs.YtoechcjloppghaaGreat
theorem topHeard_holds : Rows.TopHeardSaid := topHeard.proved
end Go.Proofs.YtoechcjloppghaaGreat
#print axioms Go.Proofs.YtoechcjloppghaaGreat.topHeard_holds
