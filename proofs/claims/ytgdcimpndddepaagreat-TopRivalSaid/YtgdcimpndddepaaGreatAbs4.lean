/- Each operation of the evaluator is what the machine's operation comes to: values. -/
import Derived.Test.YtgdcimpndddepaaGreatAbs3
import Derived.RowKit
import Derived.Laws.StructEq
import Derived.Laws.BytesString
import Derived.Laws.Strings
namespace Go.Abs
noncomputable section
variable {P : Program} {E : Env}

structure EnvOK (P : Program) (E : Env) : Prop where
  ti : ∀ t i, E.ti t = some i → TIok P t i
  mixed : P.follows .mixedOrders = true

theorem VRel.bool_inv {w : World} {M : Nat → Prop} {ρ : RMap} {b : Bool} {c : Value} (h : VRel w M ρ (.bool b) c) : c = .bool b := by cases h; rfl
theorem VRel.int_inv {w : World} {M : Nat → Prop} {ρ : RMap} {k : IntKind} {n : Int} {c : Value} (h : VRel w M ρ (.int k n) c) : c = .int k n := by cases h; rfl
theorem VRel.str_inv {w : World} {M : Nat → Prop} {ρ : RMap} {s : ByteArray} {c : Value} (h : VRel w M ρ (.str s) c) : c = .string s := by cases h; rfl
theorem VRel.agg_inv {w : World} {M : Nat → Prop} {ρ : RMap} {cs : List AV} {c : Value} (h : VRel w M ρ (.agg cs) c) : ∃ vs, c = .agg vs ∧ cs.length = vs.size ∧ ∀ (i : Nat) (x : AV), cs[i]? = some x → VRel w M ρ x (vs.getD i undef) := by
  cases h with
  | agg hn hv => exact ⟨_, rfl, hn, hv⟩
theorem VRel.tup_inv {w : World} {M : Nat → Prop} {ρ : RMap} {cs : List AV} {c : Value} (h : VRel w M ρ (.tup cs) c) : ∃ vs, c = .tuple vs ∧ cs.length = vs.size ∧ ∀ (i : Nat) (x : AV), cs[i]? = some x → VRel w M ρ x (vs.getD i undef) := by
  cases h with
  | tup hn hv => exact ⟨_, rfl, hn, hv⟩
theorem VRel.one {w : World} {M : Nat → Prop} {ρ : RMap} {v : AV} {c : Value} (h : VRel w M ρ v c) (ho : v.one = true) : c.oneCell' = true := by
  cases h <;> first | rfl | simp [AV.one] at ho

theorem ofConst1_rel {w : World} {M : Nat → Prop} {ρ : RMap} (v : Value) : VRel w M ρ (ofConst1 v) v := by
  unfold ofConst1
  split <;> first | exact .bool _ | exact .int _ _ | exact .str _ | exact .nilptr | exact .nil | exact .nilmap | exact .nilfunc | exact .niliface | exact .unk _
theorem ofConst_rel {w : World} {M : Nat → Prop} {ρ : RMap} (v : Value) : VRel w M ρ (ofConst v) v := by
  unfold ofConst
  split
  · refine .agg (by simp) fun i c hc => ?_
    simp only [List.getElem?_map, Option.map_eq_some_iff] at hc
    obtain ⟨x, hx, rfl⟩ := hc
    simp only [Array.getElem?_toList] at hx
    simp only [Array.getD_eq_getD_getElem?, hx, Option.getD_some]
    exact ofConst1_rel x
  · refine .tup (by simp) fun i c hc => ?_
    simp only [List.getElem?_map, Option.map_eq_some_iff] at hc
    obtain ⟨x, hx, rfl⟩ := hc
    simp only [Array.getElem?_toList] at hx
    simp only [Array.getD_eq_getD_getElem?, hx, Option.getD_some]
    exact ofConst1_rel x
  · exact ofConst1_rel _
theorem eval_rel {w : World} {M : Nat → Prop} {ρ : RMap} {F : Frm} {a : Act} (hf : FRel w M ρ F a.tmps) (x : Operand) : VRel w M ρ (F.eval x) (a.eval x) := by
  cases x with
  | tmp t => exact hf.get t
  | const v => exact ofConst_rel v
  | global g => exact .unk _
  | func f => exact .func (by simp) (fun i c hc => by simp at hc)

/-! ### Types -/
theorem kd_some {t : TypeId} {k : TK} (h : kd E t = some k) : ∃ i, E.ti t = some i ∧ i.k = k := by
  simpa [kd, Option.map_eq_some_iff] using h
theorem EnvOK.kind (hE : EnvOK P E) {t : TypeId} {k : TK} (h : kd E t = some k) : kindOK P t k := by
  obtain ⟨i, hi, rfl⟩ := kd_some h
  exact (hE.ti t i hi).kind
theorem kindOK.agg {t : TypeId} {k : TK} (h : kindOK P t k) (w : World) : (isAgg t).run P w = .ok k.isAgg w := by
  cases k <;> simp only [kindOK] at h
  case struct fs => obtain ⟨fields, h, _⟩ := h; simp [isAgg, run_underlying h, TK.isAgg]
  case func => obtain ⟨a, b, c, h⟩ := h; simp [isAgg, run_underlying h, TK.isAgg]
  case iface => obtain ⟨ms, h⟩ := h; simp [isAgg, run_underlying h, TK.isAgg]
  all_goals simp [isAgg, run_underlying h, TK.isAgg]
theorem TIok.size {t : TypeId} {i : TI} (h : TIok P t i) (w : World) : (sizeOf t).run P w = .ok i.size w := by
  obtain ⟨inf, h1, h2, _⟩ := h.info
  simp [sizeOf, typeInfo, h1, h2]
theorem TIok.cellsOf {t : TypeId} {i : TI} (h : TIok P t i) : P.cellsOf t = i.size := by
  obtain ⟨inf, h1, h2, _⟩ := h.info
  simp [Program.cellsOf, h1, h2]
theorem size_of_cellsOf {t : TypeId} {i : TI} (hE : EnvOK P E) (h : E.ti t = some i) : P.cellsOf t = i.size := (hE.ti t i h).cellsOf

/-! ### Parts of values -/
section
variable {w : World} {M : Nat → Prop} {ρ : RMap}
theorem rel_extract {cs : List AV} {vs : Array Value} (hn : cs.length = vs.size) (hv : ∀ (i : Nat) (x : AV), cs[i]? = some x → VRel w M ρ x (vs.getD i undef)) (off size : Nat) (ho : off + size ≤ cs.length) :
    VRel w M ρ (.agg ((cs.drop off).take size)) (.agg (vs.extract off (off + size))) := by
  refine .agg (by simp; omega) fun i c hc => ?_
  rw [List.getElem?_take] at hc
  split at hc
  · rename_i hi
    rw [List.getElem?_drop] at hc
    have h := hv _ _ hc
    have e : (vs.extract off (off + size)).getD i undef = vs.getD (off + i) undef := by
      simp only [Array.getD_eq_getD_getElem?, Array.getElem?_extract]
      rw [if_pos (by omega)]
    rw [e]; exact h
  · cases hc
theorem part_rel (hE : EnvOK P E) {t : TypeId} {i : TI} (ht : E.ti t = some i) {cs : List AV} {vs : Array Value} (hn : cs.length = vs.size) (hv : ∀ (i : Nat) (x : AV), cs[i]? = some x → VRel w M ρ x (vs.getD i undef)) {off : Nat} {v : AV}
    (h : partA i.k.isAgg cs off i.size = some v) : ∃ r, (part t vs off).run P w = .ok r w ∧ VRel w M ρ v r := by
  have hk := hE.ti t i ht
  unfold partA at h
  unfold part
  simp only [Sem.run_bind, hk.kind.agg, Result.andThen_ok]
  cases ha : i.k.isAgg with
  | true =>
    simp only [ha, cond_true] at h
    split at h
    · rename_i ho
      cases h
      refine ⟨.agg (vs.extract off (off + i.size)), by simp [hk.size], rel_extract hn hv off i.size ho⟩
    · cases h
  | false =>
    simp only [ha, cond_false] at h
    have hlt : off < vs.size := by rw [← hn]; exact (List.getElem?_eq_some_iff.1 h).1
    refine ⟨vs.getD off undef, ?_, hv _ _ h⟩
    simp [hlt]
theorem partT_rel (hE : EnvOK P E) {t : TypeId} {a : Bool} (ht : isAggT E t = some a) {cs : List AV} {vs : Array Value} (hn : cs.length = vs.size) (hv : ∀ (i : Nat) (x : AV), cs[i]? = some x → VRel w M ρ x (vs.getD i undef)) {off : Nat} {v : AV}
    (h : partA a cs off (P.cellsOf t) = some v) : ∃ r, (part t vs off).run P w = .ok r w ∧ VRel w M ρ v r := by
  simp only [isAggT, Option.map_eq_some_iff] at ht
  obtain ⟨i, hi, rfl⟩ := ht
  rw [size_of_cellsOf hE hi] at h
  exact part_rel hE hi hn hv h

/-! ### Equality -/
theorem nilP_inv {x : AV} {c : Value} {b : Bool} (h : VRel w M ρ x c) (hb : nilP x = some b) : ∃ a, c = .pointer a ∧ b = a.isNone := by
  cases x <;> first | (simp [nilP] at hb; done) | (simp only [nilP, Option.some.injEq] at hb; subst hb; cases h <;> simp)
theorem nilS_inv {x : AV} {c : Value} {b : Bool} (h : VRel w M ρ x c) (hb : nilS x = some b) : ∃ a n k, c = .slice a n k ∧ b = a.isNone := by
  cases x with
  | lst es =>
    cases es with
    | nil => simp [nilS] at hb
    | cons e r =>
      simp only [nilS, Option.some.injEq] at hb
      subst hb
      cases h
      simp
  | ref g q s n =>
    cases n with
    | zero => simp [nilS] at hb
    | succ n =>
      simp only [nilS, Option.some.injEq] at hb
      subst hb
      cases h with
      | ref => exact ⟨_, _, _, rfl, rfl⟩
      | refOld a cap h1 h2 h3 h4 =>
        refine ⟨_, _, _, rfl, ?_⟩
        rcases h4 with h4 | h4
        · cases h4
        · cases a <;> simp_all
  | _ => first | (simp [nilS] at hb; done) | (simp only [nilS, Option.some.injEq] at hb; subst hb; cases h <;> simp)
theorem nilM_inv {x : AV} {c : Value} {b : Bool} (h : VRel w M ρ x c) (hb : nilM x = some b) : ∃ a, c = .map a ∧ b = a.isNone := by
  cases x <;> first | (simp [nilM] at hb; done) | (simp only [nilM, Option.some.injEq] at hb; subst hb; cases h <;> simp)
theorem nilF_inv {x : AV} {c : Value} {b : Bool} (h : VRel w M ρ x c) (hb : nilF x = some b) : (c = .nilFunc ∧ b = true) ∨ ∃ f p q, c = .func f p q ∧ b = false := by
  cases x <;> first | (simp [nilF] at hb; done) | (simp only [nilF, Option.some.injEq] at hb; subst hb; cases h <;> simp)
theorem eqFs_run (hE : EnvOK P E) {d : Nat} {eq : TypeId → AV → AV → Option Bool}
    (heq : ∀ t x y b cx cy, eq t x y = some b → VRel w M ρ x cx → VRel w M ρ y cy → (Op.equalIn d t cx cy).run P w = .ok b w)
    {xs ys : List AV} {vx vy : Array Value} (hnx : xs.length = vx.size) (hvx : ∀ (i : Nat) (x : AV), xs[i]? = some x → VRel w M ρ x (vx.getD i undef))
    (hny : ys.length = vy.size) (hvy : ∀ (i : Nat) (x : AV), ys[i]? = some x → VRel w M ρ x (vy.getD i undef)) :
    ∀ (fields : List Field) {b : Bool}, eqFs eq E xs ys (fields.map fun f => ⟨f.offset, f.type, P.cellsOf f.type, f.name == "_"⟩) = some b → (Op.eqFields d vx vy fields).run P w = .ok b w := by
  intro fields
  induction fields with
  | nil => intro b h; simp only [List.map_nil, eqFs, Option.some.injEq] at h; subst h; simp [Op.eqFields]
  | cons f fs ih =>
    intro b h
    simp only [List.map_cons, eqFs] at h
    cases hn : (f.name == "_") with
    | true =>
      simp only [hn, cond_true] at h
      have hn' : ¬ (f.name ≠ "_") := by simpa using hn
      rw [Op.eqFields, if_neg hn']
      exact ih h
    | false =>
      simp only [hn, cond_false] at h
      have hn' : f.name ≠ "_" := by simpa using hn
      cases ha : isAggT E f.type with
      | none => simp [ha] at h
      | some a =>
        simp only [ha] at h
        cases hx : partA a xs f.offset (P.cellsOf f.type) with
        | none => simp [hx] at h
        | some x =>
          cases hy : partA a ys f.offset (P.cellsOf f.type) with
          | none => simp [hx, hy] at h
          | some y =>
            simp only [hx, hy] at h
            obtain ⟨rx, hrx, hvx'⟩ := partT_rel hE ha hnx hvx hx
            obtain ⟨ry, hry, hvy'⟩ := partT_rel hE ha hny hvy hy
            cases hb : eq f.type x y with
            | none => simp [hb] at h
            | some b1 =>
              have h1 := heq _ _ _ _ _ _ hb hvx' hvy'
              simp only [hb, Option.bind_some] at h
              simp only [Op.eqFields, if_pos hn', Sem.run_bind, hrx, hry, h1, Result.andThen_ok]
              cases b1 with
              | true => simpa using ih (by simpa using h)
              | false => simp only [cond_false, Option.some.injEq] at h; subst h; simp
theorem eqA_run (hE : EnvOK P E) : ∀ (d D : Nat), d ≤ D → ∀ (t : TypeId) (x y : AV) (b : Bool) (cx cy : Value), eqA E d t x y = some b → VRel w M ρ x cx → VRel w M ρ y cy → (Op.equalIn D t cx cy).run P w = .ok b w := by
  intro d
  induction d with
  | zero => intro D _ t x y b cx cy h; simp [eqA] at h
  | succ d ih =>
    intro D hD t x y b cx cy h hx hy
    obtain ⟨D, rfl⟩ : ∃ D', D = D' + 1 := ⟨D - 1, by omega⟩
    unfold eqA at h
    cases hk : kd E t with
    | none => simp [hk] at h
    | some k =>
      have hko := hE.kind hk
      rw [hk] at h
      split at h
      · rename_i a b' hkk; cases hkk
        simp only [kindOK] at hko
        rw [hx.bool_inv, hy.bool_inv]
        simp only [Option.some.injEq] at h; subst h
        simp [Op.equalIn, run_underlying hko]
      · rename_i q k1 a k2 b' hkk; cases hkk
        simp only [kindOK] at hko
        rw [hx.int_inv, hy.int_inv]
        split at h
        · rename_i hq; subst hq
          simp only [Option.some.injEq] at h; subst h
          simp [Op.equalIn, run_underlying hko]
        · cases h
      · rename_i a b' hkk; cases hkk
        simp only [kindOK] at hko
        rw [hx.str_inv, hy.str_inv]
        simp only [Option.some.injEq] at h; subst h
        simp [Op.equalIn, run_underlying hko]
      · rename_i fs xs ys hkk; cases hkk
        simp only [kindOK] at hko
        obtain ⟨fields, hu, rfl⟩ := hko
        split at h
        · rename_i hp
          obtain ⟨i, hi, hik⟩ := kd_some hk
          have hg := (hE.ti t i hi).guard (by simpa [hi] using hp)
          obtain ⟨vx, rfl, hnx, hvx⟩ := hx.agg_inv
          obtain ⟨vy, rfl, hny, hvy⟩ := hy.agg_inv
          have hf : P.fieldsOf t = fields := by simp [Program.fieldsOf, hu]
          rw [run_equalIn_struct (P := P) w D t vx vy (by rw [hf]; exact hu) hg.2, hf]
          exact eqFs_run hE (fun t x y b cx cy h h1 h2 => ih D (by omega) t x y b cx cy h h1 h2) hnx hvx hny hvy fields.toList h
        · cases h
      · rename_i e hkk; cases hkk
        simp only [kindOK] at hko
        cases hx
        obtain ⟨a, rfl, rfl⟩ := nilP_inv hy h
        simp [Op.equalIn, run_underlying hko]
      · rename_i e hkk _; cases hkk
        simp only [kindOK] at hko
        cases hy
        obtain ⟨a, rfl, rfl⟩ := nilP_inv hx h
        cases a <;> simp [Op.equalIn, run_underlying hko]
      · rename_i e hkk; cases hkk
        simp only [kindOK] at hko
        cases hx
        obtain ⟨a, n, k, rfl, rfl⟩ := nilS_inv hy h
        simp [Op.equalIn, run_underlying hko]
      · rename_i e hkk _; cases hkk
        simp only [kindOK] at hko
        cases hy
        obtain ⟨a, n, k, rfl, rfl⟩ := nilS_inv hx h
        cases a <;> simp [Op.equalIn, run_underlying hko]
      · rename_i e1 e2 hkk; cases hkk
        simp only [kindOK] at hko
        cases hx
        obtain ⟨a, rfl, rfl⟩ := nilM_inv hy h
        simp [Op.equalIn, run_underlying hko]
      · rename_i e1 e2 hkk _; cases hkk
        simp only [kindOK] at hko
        cases hy
        obtain ⟨a, rfl, rfl⟩ := nilM_inv hx h
        cases a <;> simp [Op.equalIn, run_underlying hko]
      · rename_i hkk; cases hkk
        simp only [kindOK] at hko
        obtain ⟨p, q, r, hko⟩ := hko
        cases hx
        rcases nilF_inv hy h with ⟨rfl, rfl⟩ | ⟨f, p, q, rfl, rfl⟩ <;> simp [Op.equalIn, run_underlying hko]
      · rename_i hkk _; cases hkk
        simp only [kindOK] at hko
        obtain ⟨p, q, r, hko⟩ := hko
        cases hy
        rcases nilF_inv hx h with ⟨rfl, rfl⟩ | ⟨f, p, q, rfl, rfl⟩ <;> simp [Op.equalIn, run_underlying hko]
      · cases h

/-! ### Operators -/
theorem intA_run {op : BinOp} {k : IntKind} {x y : Int} {v : AV} (h : intA op k x y = some v) (hs : op ≠ .shl ∧ op ≠ .shr) (t : TypeId) :
    ∃ r, (binOp op t (.int k x) (.int k y)).run P w = .ok r w ∧ VRel w M ρ v r := by
  cases op <;> simp only [intA] at h
  case shl => exact absurd rfl hs.1
  case shr => exact absurd rfl hs.2
  case quo =>
    split at h
    · cases h
    · rename_i hy; cases h
      exact ⟨_, by simp [binOp, Op.intDiv, hy], .int _ _⟩
  case rem =>
    split at h
    · cases h
    · rename_i hy; cases h
      exact ⟨_, by simp [binOp, Op.intDiv, hy], .int _ _⟩
  all_goals
    cases h
    first
      | (refine ⟨_, ?_, .int _ _⟩; simp only [binOp, Op.intArith, ne_eq, not_true_eq_false, if_false, Sem.run_pure]; done)
      | (refine ⟨_, ?_, .int _ _⟩; simp only [binOp, ne_eq, not_true_eq_false, if_false]; rfl)
      | (refine ⟨_, ?_, .bool _⟩; simp only [binOp, Op.intCmp, ne_eq, not_true_eq_false, if_false, Sem.run_pure])
theorem strA_run {op : BinOp} {x y : ByteArray} {v : AV} (h : strA op x y = some v) (t : TypeId) :
    ∃ r, (binOp op t (.string x) (.string y)).run P w = .ok r w ∧ VRel w M ρ v r := by
  cases op <;> simp only [strA] at h
  case add =>
    split at h
    · rename_i hsz; cases h
      have hsz' : ¬ (9223372036854775807 < (x.size : Int) + (y.size : Int)) := by omega
      exact ⟨_, by simp [binOp, Op.stringOp, IntKind.max, IntKind.signed, IntKind.bits, hsz'], .str _⟩
    · cases h
  all_goals first
    | (cases h; done)
    | (cases h; exact ⟨_, by simp only [binOp, Op.stringOp, Sem.run_pure], .bool _⟩)
/-- What is compared is of one of these forms. -/
theorem eqA_forms (hE : EnvOK P E) {d : Nat} {t : TypeId} {x y : AV} {b : Bool} {cx cy : Value} (h : eqA E d t x y = some b) (hx : VRel w M ρ x cx) (hy : VRel w M ρ y cy) :
    ((∃ k a k' b, x = .int k a ∧ y = .int k' b) ∨ (∃ a b, x = .str a ∧ y = .str b)) ∨
    ((∀ op xo yo, (eqGuard op t xo yo cx cy).run P w = .ok () w) ∧ binOp .eql t cx cy = (do pure (.bool (← Op.equal t cx cy))) ∧ binOp .neq t cx cy = (do pure (.bool (!(← Op.equal t cx cy))))) := by
  cases d with
  | zero => simp [eqA] at h
  | succ d =>
    unfold eqA at h
    cases hk : kd E t with
    | none => simp [hk] at h
    | some k =>
      have hko := hE.kind hk
      rw [hk] at h
      have gp : ∀ (cx cy : Value), (∀ a b, ¬ (cx = .agg a ∧ cy = .agg b)) → ¬ (cx = .nilIface ∧ cy = .nilIface) → ∀ op xo yo, (eqGuard op t xo yo cx cy).run P w = .ok () w := by
        intro cx cy h1 h2 op xo yo
        cases op <;> simp only [eqGuard, Sem.run_ite, Sem.run_pure] <;> (try rfl) <;>
          (simp; split <;> first | (exact absurd ⟨rfl, rfl⟩ h2) | (exact absurd ⟨rfl, rfl⟩ (h1 _ _)) | simp)
      split at h
      · rw [hx.bool_inv, hy.bool_inv]; exact .inr ⟨gp _ _ (by simp) (by simp), rfl, rfl⟩
      · exact .inl (.inl ⟨_, _, _, _, rfl, rfl⟩)
      · exact .inl (.inr ⟨_, _, rfl, rfl⟩)
      · rename_i fs xs ys hkk; cases hkk
        split at h
        · rename_i hp
          obtain ⟨i, hi, hik⟩ := kd_some hk
          have hg := (hE.ti t i hi).guard (by simpa [hi] using hp)
          obtain ⟨vx, rfl, hnx, hvx⟩ := hx.agg_inv
          obtain ⟨vy, rfl, hny, hvy⟩ := hy.agg_inv
          exact .inr ⟨fun op xo yo => run_eqGuard_agg w op t xo yo vx vy hg.1, rfl, rfl⟩
        · cases h
      · cases hx; obtain ⟨a, rfl, rfl⟩ := nilP_inv hy h; exact .inr ⟨gp _ _ (by simp) (by simp), rfl, rfl⟩
      · cases hy; obtain ⟨a, rfl, rfl⟩ := nilP_inv hx h; exact .inr ⟨gp _ _ (by simp) (by simp), rfl, rfl⟩
      · cases hx; obtain ⟨a, n, k, rfl, rfl⟩ := nilS_inv hy h; exact .inr ⟨gp _ _ (by simp) (by simp), rfl, rfl⟩
      · cases hy; obtain ⟨a, n, k, rfl, rfl⟩ := nilS_inv hx h; exact .inr ⟨gp _ _ (by simp) (by simp), rfl, rfl⟩
      · cases hx; obtain ⟨a, rfl, rfl⟩ := nilM_inv hy h; exact .inr ⟨gp _ _ (by simp) (by simp), rfl, rfl⟩
      · cases hy; obtain ⟨a, rfl, rfl⟩ := nilM_inv hx h; exact .inr ⟨gp _ _ (by simp) (by simp), rfl, rfl⟩
      · cases hx; rcases nilF_inv hy h with ⟨rfl, rfl⟩ | ⟨f, p, q, rfl, rfl⟩ <;> exact .inr ⟨gp _ _ (by simp) (by simp), rfl, rfl⟩
      · cases hy; rcases nilF_inv hx h with ⟨rfl, rfl⟩ | ⟨f, p, q, rfl, rfl⟩ <;> exact .inr ⟨gp _ _ (by simp) (by simp), rfl, rfl⟩
      · cases h
theorem binA_run (hE : EnvOK P E) {op : BinOp} {t : TypeId} {x y v : AV} {cx cy : Value} (xo yo : Operand) (h : binA E op t x y = some v) (hx : VRel w M ρ x cx) (hy : VRel w M ρ y cy) :
    ∃ r, (do eqGuard op t xo yo cx cy; binOp op t cx cy : Sem Value).run P w = .ok r w ∧ VRel w M ρ v r := by
  have guard_plain : ∀ (cx cy : Value), (∀ a b, ¬ (cx = .agg a ∧ cy = .agg b)) → ¬ (cx = .nilIface ∧ cy = .nilIface) → (eqGuard op t xo yo cx cy).run P w = .ok () w := by
    intro cx cy h1 h2
    cases op <;> simp only [eqGuard, Sem.run_ite, Sem.run_pure] <;> (try rfl) <;>
      (simp; split <;> first | (exact absurd ⟨rfl, rfl⟩ h2) | (exact absurd ⟨rfl, rfl⟩ (h1 _ _)) | simp)
  unfold binA at h
  split at h
  · rename_i k a k2 b
    rw [hx.int_inv, hy.int_inv]
    split at h
    · cases h
    · rename_i hb; cases h
      refine ⟨_, ?_, .int _ _⟩
      simp only [Sem.run_bind, guard_plain (.int k a) (.int k2 b) (by simp) (by simp), Result.andThen_ok]
      simp [binOp, Op.shift, hb]
  · rename_i k a k2 b
    rw [hx.int_inv, hy.int_inv]
    split at h
    · cases h
    · rename_i hb; cases h
      refine ⟨_, ?_, .int _ _⟩
      simp only [Sem.run_bind, guard_plain (.int k a) (.int k2 b) (by simp) (by simp), Result.andThen_ok]
      simp [binOp, Op.shift, hb]
  · rename_i k a k2 b h1 h2
    rw [hx.int_inv, hy.int_inv]
    split at h
    · rename_i hk; subst hk
      obtain ⟨r, hr, hv⟩ := intA_run (P := P) (w := w) (M := M) (ρ := ρ) h ⟨fun he => h1 he, fun he => h2 he⟩ t
      refine ⟨r, ?_, hv⟩
      simp only [Sem.run_bind, guard_plain (.int k a) (.int k b) (by simp) (by simp), Result.andThen_ok, hr]
    · cases h
  · rename_i a b
    rw [hx.str_inv, hy.str_inv]
    obtain ⟨r, hr, hv⟩ := strA_run (P := P) (w := w) (M := M) (ρ := ρ) h t
    refine ⟨r, ?_, hv⟩
    simp only [Sem.run_bind, guard_plain (.string a) (.string b) (by simp) (by simp), Result.andThen_ok, hr]
  · rename_i h1 h2
    simp only [Option.map_eq_some_iff] at h
    obtain ⟨b, hb, rfl⟩ := h
    rcases eqA_forms hE hb hx hy with (⟨k, a, k', b', rfl, rfl⟩ | ⟨a, b', rfl, rfl⟩) | ⟨hg, he, hn⟩
    · exact absurd rfl (h1 _ _ _ _ rfl)
    · exact absurd rfl (h2 _ _ rfl)
    · refine ⟨.bool b, ?_, .bool b⟩
      simp [Sem.run_bind, hg, he, Op.equal, Op.maxDepth, eqA_run hE 20 10000 (by omega) t x y b cx cy hb hx hy]
  · rename_i h1 h2
    simp only [Option.map_eq_some_iff] at h
    obtain ⟨b, hb, rfl⟩ := h
    rcases eqA_forms hE hb hx hy with (⟨k, a, k', b', rfl, rfl⟩ | ⟨a, b', rfl, rfl⟩) | ⟨hg, he, hn⟩
    · exact absurd rfl (h1 _ _ _ _ rfl)
    · exact absurd rfl (h2 _ _ rfl)
    · refine ⟨.bool (!b), ?_, .bool _⟩
      simp [Sem.run_bind, hg, hn, Op.equal, Op.maxDepth, eqA_run hE 20 10000 (by omega) t x y b cx cy hb hx hy]
  · cases h
theorem unA_run {op : UnOp} {x v : AV} {cx : Value} (h : unA op x = some v) (hx : VRel w M ρ x cx) : ∃ r, (Op.unary op cx).run P w = .ok r w ∧ VRel w M ρ v r := by
  unfold unA at h
  split at h
  · rename_i k n
    rw [hx.int_inv]; cases h
    exact ⟨_, by simp [Op.unary, Op.intArith], .int _ _⟩
  · rename_i k n
    rw [hx.int_inv]; cases h
    exact ⟨_, by simp [Op.unary, Op.intBits], .int _ _⟩
  · rw [hx.bool_inv]; cases h
    exact ⟨_, by simp [Op.unary], .bool _⟩
  · cases h
end
end
end Go.Abs
