/- Regions, code, functions over memory. -/
import Derived.Test.YtgdcimpndddepaaGreatAbs19
namespace Go.Abs
noncomputable section
variable {P : Program} {E : Env} {N : Nat → Prop} {base : Nat} {call : CallO} {loop : LoopO} {ops : Array Oper}

def DefRel (E : Env) : List Nat → List Deferred → Prop
  | [], [] => True
  | f :: fs, d :: ds => E.nop f = true ∧ (∃ caps, d.target = .fn (.func f) caps) ∧ DefRel E fs ds
  | _, _ => False
structure St (E : Env) (N : Nat → Prop) (base : Nat) (ρ : RMap) (F : Frm) (h : Heap) (a : Act) (w : World) : Prop where
  frm : FRel w (Mut N ρ) ρ F a.tmps
  heap : HRel N base ρ h w
  defs : DefRel E F.defers a.defers
theorem put_defers {F F' : Frm} {dst : Option Tmp} {v : AV} (hp : F.put dst v = some F') : F'.defers = F.defers := by
  cases dst with
  | none => simp only [Frm.put_none', Frm.put_some', Option.some.injEq] at hp; subst hp; rfl
  | some d =>
    simp only [Frm.put_none', Frm.put_some'] at hp
    cases hb : Nat.blt d F.n <;> simp only [hb, cond_true, cond_false] at hp
    · cases hp
    · simp only [Option.some.injEq] at hp; subst hp; rfl
theorem act_put_defers (a : Act) (dst : Option Tmp) (v : Value) : (a.put dst v).defers = a.defers := by cases dst <;> rfl
theorem St.put {ρ ρ' : RMap} {F F' : Frm} {h h' : Heap} {a : Act} {w w' : World} (hS : St E N base ρ F h a w) (hadv : Adv ρ w ρ' w') (H : HRel N base ρ' h' w') {dst : Option Tmp} {v : AV} {c : Value} (hp : F.put dst v = some F') (hv : VRel w' (Mut N ρ') ρ' v c) : St E N base ρ' F' h' (a.put dst c) w' :=
  ⟨(hS.frm.adv hadv).put hp hv, H, by rw [put_defers hp, act_put_defers]; exact hS.defs⟩
theorem stepS_sound (hP : ProgOK P E) (hc : CallSound P call) {i : Nat} {o : Oper} (hoi : ops[i]? = some o) {ρ : RMap} {F : Frm} {h : Heap} {a : Act} {w : World} (hS : St E N base ρ F h a w) {r : Frm × Heap} (hr : stepS E call ops o F h = some r) {K : Act → World → Prop} {Q : Exit → Act → World → Prop}
    (hK : ∀ a' w' ρ', St E N base ρ' r.1 r.2 a' w' → Adv ρ w ρ' w' → K a' w') : wpOp P ops Q i K a w := by
  unfold stepS at hr
  split at hr
  · rename_i fo args ts hop
    split at hr
    · rename_i hw
      simp only [Option.map_eq_some_iff] at hr
      obtain ⟨F', hF, rfl⟩ := hr
      unfold pushDefer at hF
      split at hF
      case h_2 => cases hF
      rename_i f cap hfo
      have hfv := eval_rel hS.frm fo
      rw [hfo] at hfv
      generalize hcf : a.eval fo = cf at hfv
      cases hn : E.nop f <;> simp only [hn, cond_true, cond_false] at hF
      · cases hF
      cases hfv with
      | @func _ _ _ vs hn' hr =>
      unfold wpOp
      simp only [hoi, wanted_run hS.frm hw, if_true]
      refine .inl ?_
      unfold Oper.wp
      have hrun : (execOp a.eval o).run P w = .ok (.defer { target := .fn (.func f) vs, args := args.map a.eval }) w := by
        simp only [execOp, hop, resolve, Sem.run_bind, Deferred.ofValue, hcf, Sem.run_pure, Result.andThen_ok, Array.empty_append]
      rw [hrun, Oper.upon_defer]
      refine hK _ w ρ ?_ (.refl ρ w)
      have hS' : St E N base ρ { F with defers := f :: F.defers } h { a with defers := { target := .fn (.func f) vs, args := args.map a.eval } :: a.defers } w :=
        ⟨⟨hS.frm.size, hS.frm.get⟩, hS.heap, hn, ⟨vs, rfl⟩, hS.defs⟩
      exact hS'.put (.refl ρ w) hS.heap hF undef_rel
    · rename_i hw
      simp only [Option.map_eq_some_iff] at hr
      obtain ⟨F', hF, rfl⟩ := hr
      unfold wpOp
      simp only [hoi, wanted_run hS.frm hw, Bool.false_eq_true, if_false]
      exact hK _ w ρ (hS.put (.refl ρ w) hS.heap hF undef_rel) (.refl ρ w)
    · cases hr
  · unfold step at hr
    simp only [Option.bind_eq_some_iff, Option.map_eq_some_iff] at hr
    obtain ⟨q, ha, F', hF, rfl⟩ := hr
    exact act_sound hP hc hoi hS.frm hS.heap insOK_snoc ha fun r w' ρ' g1 g2 g3 => hK _ w' ρ' (hS.put g3 g2 hF g1) g3
theorem runS_sound (hP : ProgOK P E) (hc : CallSound P call) {Q : Exit → Act → World → Prop} : ∀ (l : List Oper) (k : Nat) {ρ : RMap} {F : Frm} {h : Heap} {a : Act} {w : World} {r : Frm × Heap}, ops.toList.drop k = l → St E N base ρ F h a w → runS E call ops l F h = some r →
    (∀ a' w' ρ', St E N base ρ' r.1 r.2 a' w' → Adv ρ w ρ' w' → Q .normal a' w') → wpOps P ops Q (List.range' k l.length) a w
  | [], k, ρ, F, h, a, w, r, _, hS, hr, hQ => by
    simp only [runS, Option.some.injEq] at hr; subst hr
    exact hQ a w ρ hS (.refl ρ w)
  | o :: l, k, ρ, F, h, a, w, r, hk, hS, hr, hQ => by
    simp only [runS] at hr
    cases hs : stepS E call ops o F h with
    | none => simp [hs] at hr
    | some s =>
      simp only [hs] at hr
      have ho : ops[k]? = some o := by
        have : ops.toList[k]? = some o := by
          have := congrArg (·[0]?) hk
          simpa [List.getElem?_drop] using this
        simpa using this
      have hl : ops.toList.drop (k + 1) = l := by
        have := congrArg List.tail hk
        simpa [List.tail_drop] using this
      rw [List.length_cons, List.range'_succ, wpOps_cons]
      exact stepS_sound hP hc ho hS hs fun a' w' ρ' hS' hadv => runS_sound hP hc l (k + 1) hl hS' hr fun a'' w'' ρ'' h1 h2 => hQ a'' w'' ρ'' h1 (hadv.trans h2)

/-! ### Drawn orders -/
structure Good (ops : Array Oper) (l : List DOp) : Prop where
  pair : l.Pairwise fun a b => pairOK ops a b = true
  edge : l.Pairwise fun a b => ∀ o, ops[a.i]? = some o → ∀ e ∈ o.after, Region.binds .any e = true → e.on ≠ b.i
  self : ∀ a ∈ l, ∀ o, ops[a.i]? = some o → ∀ e ∈ o.after, Region.binds .any e = true → e.on ≠ a.i ∧ ∃ x ∈ l, x.i = e.on
  clos : ∀ a ∈ l, ∀ o, ops[a.i]? = some o → ∀ j, a.D.testBit j = true → ∃ e ∈ o.after, Region.binds .any e = true ∧ (j = e.on ∨ ∃ x ∈ l, x.i = e.on ∧ x.D.testBit j = true)
  cover : ∀ i, i < ops.size → ∃ a ∈ l, a.i = i
  inside : ∀ a ∈ l, ∃ o, ops[a.i]? = some o ∧ (clsOf o = .al → a.rk < (pads ops.toList).length)
  nodup : l.Pairwise fun a b => a.i ≠ b.i
  len : l.length = ops.size
theorem opA_rd_any {o : Oper} (hc : clsOf o = .rd) {F : Frm} {h : Heap} {p p' : Nat} {ins ins' : Heap → Ent → Heap} : opA E o F h p ins = opA E o F h p' ins' := by
  obtain ⟨dst, op, ty, pos, after, guard⟩ := o
  have mv : ∀ x, (match x with | Operand.const (.slice none 0 0) => Cls.al | _ => .rd) = .rd → ∀ (p : Nat) (ins : Heap → Ent → Heap), (match x with
      | Operand.const (.slice none 0 0) => match kd E ty with
        | some (.slice e) => match E.ti e with
          | some ei => if ei.size = 0 then none else some (AV.ref p 0 0 0, ins h (Ent.row false ei.size []))
          | none => none
        | _ => none
      | x => some (F.eval x, h)) = some (F.eval x, h) := by
    intro x hx p ins
    split at hx
    · cases hx
    · rfl
  cases op <;> simp only [clsOf, reduceCtorEq] at hc
  case move x => exact (mv x hc p ins).trans (mv x hc p' ins').symm
  case assign x => exact (mv x hc p ins).trans (mv x hc p' ins').symm
  case call c =>
    obtain ⟨callee, args, argTypes⟩ := c
    cases callee <;> simp only [reduceCtorEq] at hc
    rename_i b
    show builtinA E h p ins b argTypes (args.toList.map F.eval) = builtinA E h p' ins' b argTypes (args.toList.map F.eval)
    unfold builtinA
    cases b <;> simp only [reduceCtorEq] at hc
    all_goals
      generalize args.toList.map F.eval = xs
      generalize argTypes.toList = ts
      rcases xs with _ | ⟨x1, _ | ⟨x2, xs⟩⟩ <;> rcases ts with _ | ⟨t1, _ | ⟨t2, _ | ⟨t3, ts⟩⟩⟩ <;> rfl
  all_goals rfl
theorem act_rd_any {o : Oper} (hc : clsOf o = .rd) {F : Frm} {h : Heap} {p p' : Nat} {ins ins' : Heap → Ent → Heap} : act E call ops o F h p ins = act E call ops o F h p' ins' := by
  rw [act_eq (by rw [hc]; simp), act_eq (by rw [hc]; simp)]
  rw [opA_rd_any hc (p' := p') (ins' := ins')]
theorem StepD.sound (hP : ProgOK P E) (hc : CallSound P call) {L : Nat} {d : DOp} {o : Oper} (hoi : ops[d.i]? = some o) {ρ : RMap} {F F' : Frm} {h h' : Heap} {a : Act} {w : World} {pd pd' : List Pend} (hS : St E N base ρ F h a w) (s : StepD E call ops L d o F h pd F' h' pd') {K : Act → World → Prop} {Q : Exit → Act → World → Prop}
    (hK : ∀ a' w' ρ', St E N base ρ' F' h' a' w' → Adv ρ w ρ' w' → K a' w') : wpOp P ops Q d.i K a w := by
  cases s with
  | rd hcl ha hF => exact act_sound hP hc hoi hS.frm hS.heap insOK_snoc (by rw [act_rd_any hcl (p' := 0) (ins' := snoc)]; exact ha) fun r w' ρ' g1 g2 g3 => hK _ w' ρ' (hS.put g3 g2 hF g1) g3
  | al hcl hg ha hF => exact act_sound hP hc hoi hS.frm hS.heap (insOK_set hg) ha fun r w' ρ' g1 g2 g3 => hK _ w' ρ' (hS.put g3 g2 hF g1) g3
  | wr hcl ha hk hF => exact act_sound hP hc hoi hS.frm hS.heap insOK_snoc ha fun r w' ρ' g1 g2 g3 => hK _ w' ρ' (hS.put g3 g2 hF g1) g3
structure OrdInv (ops : Array Oper) (L : Nat) (l rem : List DOp) (listed : Array Bool) (h : Heap) : Prop where
  size : listed.size = ops.size
  iff : ∀ i, i < ops.size → (listed.getD i true = false ↔ ∃ d ∈ rem, d.i = i)
  sub : rem.Sublist l
  gone : ∀ d ∈ rem, ∀ o, ops[d.i]? = some o → clsOf o = .al → h[L + d.rk]? = some .gone
  closed : ∀ x ∈ l, x ∉ rem → ∀ y ∈ rem, x.D.testBit y.i = false
theorem getD_tf {listed : Array Bool} {i : Nat} (hi : i < listed.size) : listed.getD i true = false ↔ ¬ listed.getD i false = true := by
  simp [Array.getD_eq_getD_getElem?, Array.getElem?_eq_getElem hi]
theorem anyOrder (hP : ProgOK P E) (hc : CallSound P call) (hM : CallMono call) {L : Nat} {l : List DOp} (G : Good ops l) {r : Frm × Heap} {Q : Exit → Act → World → Prop} : ∀ (n : Nat) {rem : List DOp} {listed : Array Bool} {pd : List Pend} {ρ : RMap} {F : Frm} {h : Heap} {a : Act} {w : World}, rem.length = n → OrdInv ops L l rem listed h →
    runD E call ops L rem pd F h = some r → St E N base ρ F h a w → (∀ a' w' ρ', St E N base ρ' r.1 r.2 a' w' → Adv ρ w ρ' w' → Q .normal a' w') → wpAny P .any ops Q n listed a w := by
  intro n
  induction n with
  | zero =>
    intro rem listed pd ρ F h a w hn I hr hS hQ
    obtain rfl : rem = [] := List.eq_nil_of_length_eq_zero hn
    simp only [runD, Option.some.injEq] at hr; subst hr
    refine ⟨?_, hQ a w ρ hS (.refl ρ w)⟩
    rw [List.eq_nil_iff_forall_not_mem]
    intro j hj
    obtain ⟨h1, o, ho, _⟩ := mem_ready.1 hj
    have hlt := (Array.getElem?_eq_some_iff.1 ho).1
    obtain ⟨d, hd, _⟩ := (I.iff j hlt).1 h1
    cases hd
  | succ n ih =>
    intro rem listed pd ρ F h a w hn I hr hS hQ
    have hin : ∀ d ∈ rem, d ∈ l := fun d hd => I.sub.subset hd
    have hlisted : ∀ j, j < ops.size → (listed.getD j false = true ↔ ¬ ∃ d ∈ rem, d.i = j) := fun j hj => by
      rw [← I.iff j hj, getD_tf (by rw [I.size]; exact hj)]; simp
    have edge_on : ∀ d ∈ l, ∀ o, ops[d.i]? = some o → ∀ e ∈ o.after, Region.binds .any e = true → e.on < ops.size := fun d hd o ho e he hb => by
      obtain ⟨_, x, hx, hxi⟩ := G.self d hd o ho e he hb
      obtain ⟨ox, hox, _⟩ := G.inside x hx
      rw [← hxi]; exact (Array.getElem?_eq_some_iff.1 hox).1
    refine ⟨fun hnil => ?_, fun i hi => ?_⟩
    · exfalso
      cases rem with
      | nil => simp at hn
      | cons d rest =>
        have hdl := hin d List.mem_cons_self
        obtain ⟨o, ho, _⟩ := G.inside d hdl
        have hlt := (Array.getElem?_eq_some_iff.1 ho).1
        have : d.i ∈ Region.ready .any ops listed := mem_ready.2 ⟨(I.iff d.i hlt).2 ⟨d, List.mem_cons_self, rfl⟩, o, ho, fun e he hb => by
          have hlt' := edge_on d hdl o ho e he hb
          rw [hlisted _ hlt']
          rintro ⟨x, hx, hxi⟩
          rcases List.mem_cons.1 hx with rfl | hx
          · exact (G.self x hdl o ho e he hb).1 hxi.symm
          · have := (List.pairwise_cons.1 (G.edge.sublist I.sub)).1 x hx o ho e he hb
            exact this hxi.symm⟩
        rw [hnil] at this
        cases this
    · obtain ⟨h1, y, hy, hedges⟩ := mem_ready.1 hi
      have hlt := (Array.getElem?_eq_some_iff.1 hy).1
      obtain ⟨e, he, rfl⟩ := (I.iff i hlt).1 h1
      have hel := hin e he
      have notD : ∀ d ∈ rem, e.D.testBit d.i = false := fun d hd => by
        rw [← Bool.not_eq_true]
        intro hbit
        obtain ⟨ed, hed, hb, hcase⟩ := G.clos e hel y hy d.i hbit
        have hon := edge_on e hel y hy ed hed hb
        have hl := hedges ed hed hb
        rw [hlisted _ hon] at hl
        rcases hcase with h2 | ⟨x, hx, hxi, hxb⟩
        · exact hl ⟨d, hd, h2⟩
        · have hxr : x ∉ rem := fun hxr => hl ⟨x, hxr, hxi⟩
          rw [I.closed x hx hxr d hd] at hxb
          cases hxb
      obtain ⟨pre, post, rfl⟩ := List.append_of_mem he
      have hpw := G.pair.sublist I.sub
      have hnd := G.nodup.sublist I.sub
      have hsw : ∀ d ∈ pre, SwapAt ops d e := fun d hd => by
        have hp := (List.pairwise_append.1 hpw).2.2 d hd e List.mem_cons_self
        have hbit := notD d (List.mem_append_left _ hd)
        unfold pairOK at hp
        split at hp
        case h_2 => cases hp
        rename_i x y' hx hy'
        rw [hy] at hy'; cases hy'
        simp only [hbit, Bool.false_or, Bool.and_eq_true] at hp
        obtain ⟨hp1, hp2⟩ := hp
        unfold swapOK at hp1
        simp only [Bool.and_eq_true] at hp1
        refine ⟨x, y, hx, hy, hbit, hp1.1, ?_, fun hcx hcy => ?_⟩
        · have := hp1.2
          split at this <;> simp_all
        · simp only [hcx, hcy] at hp2
          simpa using hp2
      have hg : clsOf y = .al → h[L + e.rk]? = some .gone := fun hc' => I.gone e he y hy hc'
      have hb := runD_bubble hP.natMono hM hy hsw hg hr
      obtain ⟨y', F1, h1', pd1, hy', s1, hr1⟩ := runD_cons.1 hb
      rw [hy] at hy'; cases hy'
      refine s1.sound hP hc hy hS fun a' w' ρ' hS' hadv => ?_
      have hmem : ∀ d, d ∈ pre ++ post → d ∈ pre ++ e :: post := fun d hd => by
        rcases List.mem_append.1 hd with h | h
        · exact List.mem_append_left _ h
        · exact List.mem_append_right _ (List.mem_cons_of_mem _ h)
      have hback : ∀ d, d ∈ pre ++ e :: post → d = e ∨ d ∈ pre ++ post := fun d hd => by
        rcases List.mem_append.1 hd with h | h
        · exact .inr (List.mem_append_left _ h)
        · rcases List.mem_cons.1 h with h | h
          · exact .inl h
          · exact .inr (List.mem_append_right _ h)
      have hne : ∀ d ∈ pre ++ post, d.i ≠ e.i := fun d hd => by
        obtain ⟨n1, n2, n3⟩ := List.pairwise_append.1 hnd
        rcases List.mem_append.1 hd with h | h
        · exact n3 d h e List.mem_cons_self
        · exact fun hh => (List.pairwise_cons.1 n2).1 d h hh.symm
      have hrk : ∀ d ∈ pre ++ post, ∀ x, ops[d.i]? = some x → clsOf x = .al → clsOf y = .al → e.rk ≠ d.rk := fun d hd x hx hcx hcy => by
        obtain ⟨n1, n2, n3⟩ := List.pairwise_append.1 hpw
        rcases List.mem_append.1 hd with h | h
        · have := n3 d h e List.mem_cons_self
          unfold pairOK at this
          simp only [hx, hy, hcx, hcy, Bool.and_eq_true, bne_iff_ne] at this
          exact Ne.symm this.2
        · have := (List.pairwise_cons.1 n2).1 d h
          unfold pairOK at this
          simp only [hx, hy, hcx, hcy, Bool.and_eq_true, bne_iff_ne] at this
          exact this.2
      refine ih (rem := pre ++ post) (by simp at hn ⊢; omega) ⟨by simp [I.size], fun j hj => ?_, ?_, fun d hd x hx hcx => ?_, fun x hx hxr z hz => ?_⟩ hr1 hS' fun a'' w'' ρ'' g1 g2 => hQ a'' w'' ρ'' g1 (hadv.trans g2)
      · by_cases hje : e.i = j
        · subst hje
          constructor
          · intro h
            exfalso
            simp [Array.getD_eq_getD_getElem?, I.size, hlt] at h
          · rintro ⟨d, hd, hdi⟩
            exact absurd hdi (hne d hd)
        · rw [getD_set_ne true hje, I.iff j hj]
          constructor
          · rintro ⟨d, hd, rfl⟩
            rcases hback d hd with rfl | h
            · exact absurd rfl hje
            · exact ⟨d, h, rfl⟩
          · rintro ⟨d, hd, hdi⟩
            exact ⟨d, hmem d hd, hdi⟩
      · exact (List.Sublist.append_left (List.sublist_cons_self _ _) _).trans I.sub
      · exact s1.gone hP.natMono hM (I.gone d (hmem d hd) x hx hcx) fun hcy hh => hrk d hd x hx hcx hcy (by omega)
      · by_cases hxe : x ∈ pre ++ e :: post
        · rcases hback x hxe with rfl | h
          · exact notD z (hmem z hz)
          · exact absurd h hxr
        · exact I.closed x hx hxe z (hmem z hz)
end
end Go.Abs
