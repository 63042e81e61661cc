/- What is done over a heap with a place left free is done over the heap with the place taken: code, calls. -/
import Derived.Test.YtgdcimpndddepaaGreatAbs14
namespace Go.Abs
noncomputable section
variable {E : Env} {h h' : Heap} {q : Nat} {e : Ent}

theorem opA_mono (hq : h[q]? = some .gone) {p : Nat} {ins : Heap → Ent → Heap} (hi : InsMono q e p ins) {o : Oper} {F : Frm} {v : AV} (ho : opA E o F h p ins = some (v, h')) : opA E o F (h.set q e) p ins = some (v, h'.set q e) := by
  obtain ⟨dst, op, ty, pos, after, guard⟩ := o
  unfold opA at ho ⊢
  have ic := fun x => hi.comm h x hq
  cases op <;> simp only at ho ⊢ <;> try (cases ho; done)
  case move x =>
    split at ho
    · split at ho
      case h_2 => cases ho
      split at ho
      case h_2 => cases ho
      split at ho
      · cases ho
      rename_i h1 _ _ h2 h3
      cases ho
      simp only [if_neg h3, ic]
    · cases ho; rfl
  case assign x =>
    split at ho
    · split at ho
      case h_2 => cases ho
      split at ho
      case h_2 => cases ho
      split at ho
      · cases ho
      rename_i h1 _ _ h2 h3
      cases ho
      simp only [if_neg h3, ic]
    · cases ho; rfl
  case pick c x y =>
    split at ho
    · cases ho; rfl
    · cases ho
  case alloc t =>
    simp only [Option.bind_eq_some_iff] at ho ⊢
    obtain ⟨i, hti, ho⟩ := ho
    refine ⟨i, hti, ?_⟩
    split at ho
    · cases ho
    rename_i hc
    cases ho
    simp only [if_neg hc, ic]
  case box t x =>
    simp only [Option.bind_eq_some_iff] at ho ⊢
    obtain ⟨i, hti, ho⟩ := ho
    refine ⟨i, hti, ?_⟩
    split at ho
    · cases ho
    rename_i hc
    cases ho
    simp only [if_neg hc, ic]
  case build t ps =>
    simp only [Option.bind_eq_some_iff] at ho ⊢
    obtain ⟨i, hti, ho⟩ := ho
    refine ⟨i, hti, ?_⟩
    split at ho
    · split at ho
      case isFalse => cases ho
      rename_i hc
      simp only [Option.map_eq_some_iff, Prod.mk.injEq] at ho
      obtain ⟨cs, hcs, rfl, rfl⟩ := ho
      simp only [if_pos hc, hcs, Option.map_some]
    · simp only [Option.bind_eq_some_iff, Option.map_eq_some_iff, Prod.mk.injEq] at ho
      obtain ⟨ei, hei, cs, hcs, rfl, rfl⟩ := ho
      simp only [hei, Option.bind_some, hcs, Option.map_some]
    · cases ho
  case buildSlice t n ps =>
    split at ho
    case h_2 => cases ho
    simp only [Option.bind_eq_some_iff] at ho ⊢
    obtain ⟨ei, hei, ho⟩ := ho
    refine ⟨ei, hei, ?_⟩
    split at ho
    · cases ho
    rename_i hc
    simp only [Option.map_eq_some_iff, Prod.mk.injEq] at ho
    obtain ⟨es, hes, rfl, rfl⟩ := ho
    simp only [if_neg hc, hes, Option.map_some, ic]
  case insert t m k x =>
    simp only [Option.map_eq_some_iff, Prod.mk.injEq] at ho ⊢
    obtain ⟨h2, hh, rfl, rfl⟩ := ho
    exact ⟨_, mapUpdateA_mono hq hh, rfl, rfl⟩
  case load t x =>
    simp only [Option.bind_eq_some_iff, Option.map_eq_some_iff, Prod.mk.injEq] at ho ⊢
    obtain ⟨i, hti, u, hu, rfl, rfl⟩ := ho
    exact ⟨i, hti, u, loadP_mono hq hu, rfl, rfl⟩
  case store t x y =>
    simp only [Option.bind_eq_some_iff, Option.map_eq_some_iff, Prod.mk.injEq] at ho ⊢
    obtain ⟨i, hti, u, hu, rfl, rfl⟩ := ho
    exact ⟨i, hti, _, storeP_mono hq hu, rfl, rfl⟩
  case nilCheck x =>
    split at ho <;> first | (cases ho; rfl) | cases ho
  case binOp op t x y yt =>
    simp only [Option.map_eq_some_iff, Prod.mk.injEq] at ho ⊢
    obtain ⟨u, hu, rfl, rfl⟩ := ho
    exact ⟨u, hu, rfl, rfl⟩
  case unOp op t x =>
    simp only [Option.map_eq_some_iff, Prod.mk.injEq] at ho ⊢
    obtain ⟨u, hu, rfl, rfl⟩ := ho
    exact ⟨u, hu, rfl, rfl⟩
  case convert s d x => exact convA_mono hq ho
  case makeInterface t x =>
    split at ho <;> first | (cases ho; rfl) | cases ho
  case makeFunc fn first cap =>
    split at ho <;> first | (cases ho; rfl) | cases ho
  case makeMap t r =>
    split at ho
    · cases ho; simp only [ic]
    · cases ho; simp only [ic]
    · cases ho
  case makeSlice t n c =>
    split at ho
    case h_2 => cases ho
    simp only [Option.bind_eq_some_iff] at ho ⊢
    obtain ⟨ei, hei, ho⟩ := ho
    refine ⟨ei, hei, ?_⟩
    split at ho
    · cases ho
    rename_i hc
    cases ho
    simp only [if_neg hc, ic]
  case slice t x lo hi' mx =>
    simp only [Option.map_eq_some_iff, Prod.mk.injEq] at ho ⊢
    obtain ⟨u, hu, rfl, rfl⟩ := ho
    exact ⟨u, sliceA_mono hq hu, rfl, rfl⟩
  case fieldAddr t x j =>
    simp only [Option.map_eq_some_iff, Prod.mk.injEq] at ho ⊢
    obtain ⟨u, hu, rfl, rfl⟩ := ho
    exact ⟨u, hu, rfl, rfl⟩
  case field t x j =>
    simp only [Option.map_eq_some_iff, Prod.mk.injEq] at ho ⊢
    obtain ⟨u, hu, rfl, rfl⟩ := ho
    exact ⟨u, hu, rfl, rfl⟩
  case indexAddr t x i =>
    simp only [Option.map_eq_some_iff, Prod.mk.injEq] at ho ⊢
    obtain ⟨u, hu, rfl, rfl⟩ := ho
    exact ⟨u, indexAddrA_mono hq hu, rfl, rfl⟩
  case index t x i =>
    simp only [Option.map_eq_some_iff, Prod.mk.injEq] at ho ⊢
    obtain ⟨u, hu, rfl, rfl⟩ := ho
    exact ⟨u, hu, rfl, rfl⟩
  case lookup t x k ok =>
    simp only [Option.map_eq_some_iff, Prod.mk.injEq] at ho ⊢
    obtain ⟨u, hu, rfl, rfl⟩ := ho
    exact ⟨u, lookupA_mono hq hu, rfl, rfl⟩
  case mapUpdate t m k x =>
    simp only [Option.map_eq_some_iff, Prod.mk.injEq] at ho ⊢
    obtain ⟨h2, hh, rfl, rfl⟩ := ho
    exact ⟨_, mapUpdateA_mono hq hh, rfl, rfl⟩
  case extract x i =>
    split at ho
    case h_2 => cases ho
    simp only [Option.map_eq_some_iff, Prod.mk.injEq] at ho ⊢
    obtain ⟨u, hu, rfl, rfl⟩ := ho
    exact ⟨u, hu, rfl, rfl⟩
  case call c =>
    obtain ⟨callee, args, argTypes⟩ := c
    cases callee <;> simp only at ho ⊢ <;> try (cases ho; done)
    exact builtinA_mono hq hi ho

/-! ### What an operation does to the heap -/
def Shape (h : Heap) (ins : Heap → Ent → Heap) (h' : Heap) : Prop := h' = h ∨ (∃ b x y, h[b]? = some x ∧ x ≠ .gone ∧ h' = h.set b y) ∨ ∃ x, h' = ins h x
theorem storeP_shape {ins : Heap → Ent → Heap} {sz : Nat} {p v : AV} (hs : storeP h sz p v = some h') : Shape h ins h' := by
  unfold storeP at hs
  split at hs
  · split at hs
    case h_2 => cases hs
    rename_i hb
    split at hs
    case isFalse => cases hs
    simp only [Option.map_eq_some_iff] at hs
    obtain ⟨x, hx, rfl⟩ := hs
    exact .inr (.inl ⟨_, _, _, hb, by simp, rfl⟩)
  · cases hs
theorem mapUpdateA_shape {ins : Heap → Ent → Heap} {t : TypeId} {m k v : AV} (ha : mapUpdateA E t h m k v = some h') : Shape h ins h' := by
  unfold mapUpdateA at ha
  split at ha
  case h_2 => cases ha
  split at ha
  case h_2 => cases ha
  split at ha
  case isFalse => cases ha
  split at ha
  case h_2 => cases ha
  rename_i hb
  simp only [Option.map_eq_some_iff] at ha
  obtain ⟨r, hr, rfl⟩ := ha
  cases r with
  | none => exact .inr (.inl ⟨_, _, _, hb, by simp, rfl⟩)
  | some p => exact .inr (.inl ⟨_, _, _, hb, by simp, rfl⟩)
theorem appendA_shape {p : Nat} {ins : Heap → Ent → Heap} {t xt : TypeId} {s x v : AV} (ha : appendA E t xt h p ins s x = some (v, h')) : Shape h ins h' := by
  unfold appendA at ha
  split at ha
  case h_2 => cases ha
  split at ha
  · cases ha
  split at ha
  · cases ha
  split at ha
  · cases ha
  simp only [Option.bind_eq_some_iff] at ha
  obtain ⟨new, hnew, ha⟩ := ha
  split at ha
  · split at ha
    case isFalse => cases ha
    cases ha
    exact .inr (.inr ⟨_, rfl⟩)
  · split at ha
    case isFalse => cases ha
    cases ha
    exact .inr (.inr ⟨_, rfl⟩)
  · split at ha
    case h_2 => cases ha
    rename_i hb
    split at ha
    case isFalse => cases ha
    split at ha
    · cases ha
      exact .inr (.inl ⟨_, _, _, hb, by simp, rfl⟩)
    · split at ha
      case isFalse => cases ha
      cases ha
      exact .inr (.inl ⟨_, _, _, hb, by simp, rfl⟩)
  · cases ha
theorem copyA_shape {ins : Heap → Ent → Heap} {t : TypeId} {d x v : AV} (ha : copyA E t h d x = some (v, h')) : Shape h ins h' := by
  unfold copyA at ha
  split at ha
  case h_2 => cases ha
  split at ha
  · cases ha
  split at ha
  · cases ha
  simp only [Option.bind_eq_some_iff] at ha
  obtain ⟨new, hnew, ha⟩ := ha
  split at ha
  · cases ha; exact .inl rfl
  · cases ha; exact .inl rfl
  · split at ha
    case h_2 => cases ha
    rename_i hb
    split at ha
    case isFalse => cases ha
    cases ha
    exact .inr (.inl ⟨_, _, _, hb, by simp, rfl⟩)
  · cases ha
theorem clearA_shape {ins : Heap → Ent → Heap} {t : TypeId} {x v : AV} (ha : clearA E t h x = some (v, h')) : Shape h ins h' := by
  unfold clearA at ha
  split at ha
  case h_2 => cases ha
  split at ha
  case h_2 => cases ha
  rename_i hei hb
  split at ha
  case isFalse => cases ha
  cases ha
  exact .inr (.inl ⟨_, _, _, hb, by simp, rfl⟩)
theorem convA_same {s d : TypeId} {x v : AV} (ha : convA E s d h x = some (v, h')) : h' = h := by
  unfold convA at ha
  split at ha
  · cases ha; rfl
  · cases ha; rfl
  · split at ha
    case h_2 => cases ha
    split at ha
    case isFalse => cases ha
    cases ha; rfl
  · split at ha
    case h_2 => cases ha
    simp only [Option.bind_eq_some_iff, Option.map_eq_some_iff, Prod.mk.injEq] at ha
    obtain ⟨es, hes, bs, hbs, rfl, rfl⟩ := ha
    rfl
  · cases ha
theorem builtinA_shape {p : Nat} {ins : Heap → Ent → Heap} {b : Builtin} {ts : Array TypeId} {xs : List AV} {v : AV} (ha : builtinA E h p ins b ts xs = some (v, h')) : Shape h ins h' := by
  unfold builtinA at ha
  split at ha
  · simp only [Option.bind_eq_some_iff, Option.map_eq_some_iff, Prod.mk.injEq] at ha
    obtain ⟨k, hk, n, hn, rfl, rfl⟩ := ha
    exact .inl rfl
  · exact appendA_shape ha
  · exact copyA_shape ha
  · exact clearA_shape ha
  · simp only [Option.map_eq_some_iff, Prod.mk.injEq] at ha
    obtain ⟨k, hk, rfl, rfl⟩ := ha
    exact .inl rfl
  · simp only [Option.map_eq_some_iff, Prod.mk.injEq] at ha
    obtain ⟨k, hk, rfl, rfl⟩ := ha
    exact .inl rfl
  · cases ha
theorem opA_shape {p : Nat} {ins : Heap → Ent → Heap} {o : Oper} {F : Frm} {v : AV} (ho : opA E o F h p ins = some (v, h')) : Shape h ins h' ∧ (clsOf o = .rd → h' = h) := by
  obtain ⟨dst, op, ty, pos, after, guard⟩ := o
  unfold opA at ho
  have rd : h' = h → Shape h ins h' ∧ (clsOf ⟨dst, op, ty, pos, after, guard⟩ = .rd → h' = h) := fun h => ⟨.inl h, fun _ => h⟩
  have mv : ∀ x, (match x with
      | Operand.const (.slice none 0 0) => match kd E ty with
        | some (.slice e) => match E.ti e with
          | some ei => if ei.size = 0 then none else some (AV.ref p 0 0 0, ins h (Ent.row false ei.size []))
          | none => none
        | _ => none
      | x => some (F.eval x, h)) = some (v, h') → Shape h ins h' ∧ ((match x with | .const (.slice none 0 0) => Cls.al | _ => .rd) = .rd → h' = h) := by
    intro x hx
    split at hx
    · split at hx
      case h_2 => cases hx
      split at hx
      case h_2 => cases hx
      split at hx
      · cases hx
      cases hx
      exact ⟨.inr (.inr ⟨_, rfl⟩), fun h => by cases h⟩
    · cases hx; exact ⟨.inl rfl, fun _ => rfl⟩
  cases op <;> simp only at ho <;> try (cases ho; done)
  case move x => exact mv x ho
  case assign x => exact mv x ho
  case pick c x y =>
    split at ho
    · cases ho; exact rd rfl
    · cases ho
  case alloc t =>
    simp only [Option.bind_eq_some_iff] at ho
    obtain ⟨i, hti, ho⟩ := ho
    split at ho
    · cases ho
    cases ho
    exact ⟨.inr (.inr ⟨_, rfl⟩), fun h => by cases h⟩
  case box t x =>
    simp only [Option.bind_eq_some_iff] at ho
    obtain ⟨i, hti, ho⟩ := ho
    split at ho
    · cases ho
    cases ho
    exact ⟨.inr (.inr ⟨_, rfl⟩), fun h => by cases h⟩
  case build t ps =>
    simp only [Option.bind_eq_some_iff] at ho
    obtain ⟨i, hti, ho⟩ := ho
    split at ho
    · split at ho
      case isFalse => cases ho
      simp only [Option.map_eq_some_iff, Prod.mk.injEq] at ho
      obtain ⟨cs, hcs, rfl, rfl⟩ := ho
      exact rd rfl
    · simp only [Option.bind_eq_some_iff, Option.map_eq_some_iff, Prod.mk.injEq] at ho
      obtain ⟨ei, hei, cs, hcs, rfl, rfl⟩ := ho
      exact rd rfl
    · cases ho
  case buildSlice t n ps =>
    split at ho
    case h_2 => cases ho
    simp only [Option.bind_eq_some_iff] at ho
    obtain ⟨ei, hei, ho⟩ := ho
    split at ho
    · cases ho
    simp only [Option.map_eq_some_iff, Prod.mk.injEq] at ho
    obtain ⟨es, hes, rfl, rfl⟩ := ho
    exact ⟨.inr (.inr ⟨_, rfl⟩), fun h => by cases h⟩
  case insert t m k x =>
    simp only [Option.map_eq_some_iff, Prod.mk.injEq] at ho
    obtain ⟨h2, hh, rfl, rfl⟩ := ho
    exact ⟨mapUpdateA_shape hh, fun h => by cases h⟩
  case load t x =>
    simp only [Option.bind_eq_some_iff, Option.map_eq_some_iff, Prod.mk.injEq] at ho
    obtain ⟨i, hti, u, hu, rfl, rfl⟩ := ho
    exact rd rfl
  case store t x y =>
    simp only [Option.bind_eq_some_iff, Option.map_eq_some_iff, Prod.mk.injEq] at ho
    obtain ⟨i, hti, u, hu, rfl, rfl⟩ := ho
    exact ⟨storeP_shape hu, fun h => by cases h⟩
  case nilCheck x =>
    split at ho <;> first | (cases ho; exact rd rfl) | cases ho
  case convert s d x => exact rd (convA_same ho)
  case makeInterface t x =>
    split at ho <;> first | (cases ho; exact rd rfl) | cases ho
  case makeFunc fn first cap =>
    split at ho <;> first | (cases ho; exact rd rfl) | cases ho
  case makeMap t r =>
    split at ho
    · cases ho; exact ⟨.inr (.inr ⟨_, rfl⟩), fun h => by cases h⟩
    · cases ho; exact ⟨.inr (.inr ⟨_, rfl⟩), fun h => by cases h⟩
    · cases ho
  case makeSlice t n c =>
    split at ho
    case h_2 => cases ho
    simp only [Option.bind_eq_some_iff] at ho
    obtain ⟨ei, hei, ho⟩ := ho
    split at ho
    · cases ho
    cases ho
    exact ⟨.inr (.inr ⟨_, rfl⟩), fun h => by cases h⟩
  case mapUpdate t m k x =>
    simp only [Option.map_eq_some_iff, Prod.mk.injEq] at ho
    obtain ⟨h2, hh, rfl, rfl⟩ := ho
    exact ⟨mapUpdateA_shape hh, fun h => by cases h⟩
  case extract x i =>
    split at ho
    case h_2 => cases ho
    simp only [Option.map_eq_some_iff, Prod.mk.injEq] at ho
    obtain ⟨u, hu, rfl, rfl⟩ := ho
    exact rd rfl
  case call c =>
    obtain ⟨callee, args, argTypes⟩ := c
    cases callee <;> simp only at ho <;> try (cases ho; done)
    rename_i b
    refine ⟨builtinA_shape ho, fun hc => ?_⟩
    cases b <;> simp only [clsOf, reduceCtorEq] at hc
    all_goals
      unfold builtinA at ho
      split at ho <;> try (rename_i hx _ _; cases hx; done)
      all_goals first
        | (cases ho; done)
        | (simp only [Option.bind_eq_some_iff, Option.map_eq_some_iff, Prod.mk.injEq] at ho; obtain ⟨k, hk, n, hn, rfl, rfl⟩ := ho; rfl)
        | (simp only [Option.map_eq_some_iff, Prod.mk.injEq] at ho; obtain ⟨k, hk, rfl, rfl⟩ := ho; rfl)
        | (rename_i hx; cases hx; done)
  all_goals
    simp only [Option.map_eq_some_iff, Prod.mk.injEq] at ho
    obtain ⟨u, hu, rfl, rfl⟩ := ho
    exact rd rfl
/-- Places that are free stay free. -/
structure InsGone (q : Nat) (ins : Heap → Ent → Heap) : Prop where
  keep : ∀ h x, h[q]? = some Ent.gone → (ins h x)[q]? = some .gone
theorem snoc_gone : InsGone q snoc := ⟨fun h x hq => by
  have hlt : q < h.length := (List.getElem?_eq_some_iff.1 hq).1
  simp only [snoc]
  rw [List.getElem?_append_left hlt, hq]⟩
theorem setAt_gone {p : Nat} (hp : p ≠ q) : InsGone q (fun h x => h.set p x) := ⟨fun h x hq => by rw [set_other (Ne.symm hp), hq]⟩
theorem Shape.gone {ins : Heap → Ent → Heap} (hs : Shape h ins h') (hi : InsGone q ins) (hq : h[q]? = some .gone) : h'[q]? = some .gone := by
  rcases hs with rfl | ⟨b, x, y, hb, hx, rfl⟩ | ⟨x, rfl⟩
  · exact hq
  · exact gone_set hq hb hx
  · exact hi.keep h x hq

/-! ### Calls, code -/
/-- So it is with a piece of evaluation. -/
def MonoAt {α : Type} (f : Heap → Option (α × Heap)) (h : Heap) (r : α × Heap) : Prop := ∀ q, h[q]? = some .gone → r.2[q]? = some .gone ∧ ∀ e, f (h.set q e) = some (r.1, r.2.set q e)
def CallMono (call : CallO) : Prop := ∀ f args h r, call f args h = some r → MonoAt (call f args) h r
def NatMono (E : Env) : Prop := ∀ f g, E.nat f = some g → ∀ args h r, g args h = some r → MonoAt (g args) h r
def Out.heap : Out → Heap
  | .normal _ h => h
  | .exit _ _ h => h
  | .ret _ h => h
def Out.withHeap (h : Heap) : Out → Out
  | .normal F _ => .normal F h
  | .exit i F _ => .exit i F h
  | .ret F _ => .ret F h
def OutMono (f : Heap → Option Out) (h : Heap) (r : Out) : Prop := ∀ q, h[q]? = some .gone → r.heap[q]? = some .gone ∧ ∀ e, f (h.set q e) = some (r.withHeap (r.heap.set q e))
def LoopMono (loop : LoopO) : Prop := ∀ c F h out, loop c F h = some out → OutMono (loop c F) h out
variable {call : CallO} {loop : LoopO}

theorem callN_mono (hN : NatMono E) (hc : CallMono call) {f : FuncId} {args : List AV} {r : AV × Heap} (hr : callN E call f args h = some r) : MonoAt (callN E call f args) h r := by
  intro q hq
  unfold callN at hr ⊢
  split at hr
  · rename_i g hg
    try simp only [hg]
    exact hN f g hg args h r hr q hq
  · rename_i hg
    try simp only [hg]
    split at hr
    · rename_i hm
      try simp only [hm]
      exact hc f args h r hr q hq
    · rename_i hm
      cases hcl : args.all (closed? depth) <;> simp only [hcl, cond_true, cond_false, Option.bind_eq_some_iff, Option.map_eq_some_iff] at hr
      · obtain ⟨as, has, r1, hr1, v, hv, rfl⟩ := hr
        refine ⟨hq, fun e => ?_⟩
        simp only [cond_false, mapM_mono (fun a b => snap_mono (e := e) hq) has, Option.bind_some, hr1, hv, Option.map_some]
      · obtain ⟨r1, hr1, v, hv, rfl⟩ := hr
        refine ⟨hq, fun e => ?_⟩
        simp only [cond_true, Option.bind_some, hr1, hv, Option.map_some]
    · rename_i hm
      simp only [Option.bind_eq_some_iff, Option.map_eq_some_iff] at hr
      obtain ⟨h1, hh1, as, has, r1, hr1, v, hv, rfl⟩ := hr
      refine ⟨(foldlM_set (q := q) (e := .gone) (f := fun h v => freeze depth v h) (fun h a h' => freeze_mono) hh1 hq).2, fun e => ?_⟩
      obtain ⟨g1, g2⟩ := foldlM_set (q := q) (e := e) (f := fun h v => freeze depth v h) (fun h a h' => freeze_mono) hh1 hq
      simp only [hm, g1, Option.bind_some, mapM_mono (fun a b => snap_mono (e := e) g2) has, hr1, hv, Option.map_some]
theorem act_mono (hN : NatMono E) (hc : CallMono call) {ops : Array Oper} {o : Oper} {F : Frm} {p : Nat} {ins : Heap → Ent → Heap} {r : AV × Heap} (hr : act E call ops o F h p ins = some r) (hq : h[q]? = some .gone) (hg : InsGone q ins) (hi : ∀ e, InsMono q e p ins) :
    r.2[q]? = some .gone ∧ ∀ e, act E call ops o F (h.set q e) p ins = some (r.1, r.2.set q e) := by
  unfold act at hr ⊢
  split at hr
  · cases hr
  · rename_i hw
    cases hr
    try simp only [hw]
    exact ⟨hq, fun _ => by trivial⟩
  · rename_i hw
    try simp only [hw]
    split at hr
    · split at hr
      · rename_i hf
        try simp only [hf]
        exact callN_mono hN hc hr q hq
      · cases hr
    · exact ⟨(opA_shape (v := r.1) (h' := r.2) hr).1.gone hg hq, fun e => opA_mono hq (hi e) (v := r.1) (h' := r.2) hr⟩
theorem stepS_mono (hN : NatMono E) (hc : CallMono call) {ops : Array Oper} {o : Oper} {F : Frm} {r : Frm × Heap} (hr : stepS E call ops o F h = some r) : MonoAt (stepS E call ops o F) h r := by
  intro q hq
  unfold stepS at hr ⊢
  split at hr
  · split at hr
    · rename_i hw
      try simp only [hw]
      simp only [Option.map_eq_some_iff] at hr ⊢
      obtain ⟨F', hF, rfl⟩ := hr
      exact ⟨hq, fun e => ⟨F', hF, rfl⟩⟩
    · rename_i hw
      try simp only [hw]
      simp only [Option.map_eq_some_iff] at hr ⊢
      obtain ⟨F', hF, rfl⟩ := hr
      exact ⟨hq, fun e => ⟨F', hF, rfl⟩⟩
    · cases hr
  · unfold step at hr ⊢
    simp only [Option.bind_eq_some_iff, Option.map_eq_some_iff] at hr ⊢
    obtain ⟨a, ha, F', hF, rfl⟩ := hr
    obtain ⟨g1, g2⟩ := act_mono hN hc ha hq snoc_gone (fun e => snoc_mono)
    refine ⟨g1, fun e => ⟨(a.1, a.2.set q e), ?_, F', hF, rfl⟩⟩
    rw [len_mono]
    exact g2 e
theorem runS_mono (hN : NatMono E) (hc : CallMono call) {ops : Array Oper} : ∀ {l : List Oper} {F : Frm} {h : Heap} {r : Frm × Heap}, runS E call ops l F h = some r → MonoAt (runS E call ops l F) h r
  | [], F, h, r, hr => by
    simp only [runS, Option.some.injEq] at hr; subst hr
    exact fun q hq => ⟨hq, fun e => rfl⟩
  | o :: l, F, h, r, hr => by
    intro q hq
    simp only [runS] at hr
    cases hs : stepS E call ops o F h with
    | none => simp [hs] at hr
    | some s =>
      simp only [hs] at hr
      obtain ⟨g1, g2⟩ := stepS_mono hN hc hs q hq
      obtain ⟨g3, g4⟩ := runS_mono hN hc hr q g1
      refine ⟨g3, fun e => ?_⟩
      simp only [runS, g2 e]
      exact g4 e
theorem holds_mono {pd : Pend} (hp : pd.holds E h = true) (hq : h[q]? = some .gone) : pd.holds E (h.set q e) = true := by
  unfold Pend.holds at hp ⊢
  rw [Bool.or_eq_true] at hp ⊢
  rcases hp with hp | hp
  · exact .inl hp
  right
  split at hp
  · rename_i v h1 ho
    simp only [opA_mono hq snoc_mono ho]
    exact hp
  · cases hp
theorem held_mono {o : Oper} {pd : Pend} (hp : held E o pd h = true) (hq : h[q]? = some .gone) : held E o pd (h.set q e) = true := by
  unfold held at hp ⊢
  rw [Bool.or_eq_true] at hp ⊢
  exact hp.imp id fun hh => holds_mono hh hq
theorem runD_mono (hN : NatMono E) (hc : CallMono call) {ops : Array Oper} {L : Nat} (hL : q < L) : ∀ {l : List DOp} {pd : List Pend} {F : Frm} {h : Heap} {r : Frm × Heap}, runD E call ops L l pd F h = some r → h[q]? = some .gone →
    r.2[q]? = some .gone ∧ ∀ e, runD E call ops L l pd F (h.set q e) = some (r.1, r.2.set q e)
  | [], pd, F, h, r, hr, hq => by
    simp only [runD, Option.some.injEq] at hr; subst hr
    exact ⟨hq, fun e => rfl⟩
  | d :: l, pd, F, h, r, hr, hq => by
    unfold runD at hr ⊢
    cases ho : ops[d.i]? with
    | none => simp [ho] at hr
    | some o =>
      simp only [ho] at hr ⊢
      cases hcl : clsOf o with
      | rd =>
        simp only [hcl] at hr ⊢
        cases ha : act E call ops o F h 0 snoc with
        | none => simp [ha] at hr
        | some a =>
          obtain ⟨v, h1⟩ := a
          simp only [ha] at hr
          have g2 := (act_mono hN hc ha hq snoc_gone (fun e => snoc_mono)).2
          cases hF : F.put o.dst v with
          | none => simp [hF] at hr
          | some F' =>
            simp only [hF] at hr
            obtain ⟨g3, g4⟩ := runD_mono hN hc hL hr hq
            refine ⟨g3, fun e => ?_⟩
            simp only [g2 e, hF]
            exact g4 e
      | al =>
        simp only [hcl] at hr ⊢
        have hne : L + d.rk ≠ q := by omega
        cases hgn : isGone h[L + d.rk]? with
        | false => simp [hgn] at hr
        | true =>
        simp only [hgn, cond_true] at hr
        cases ha : act E call ops o F h (L + d.rk) (fun h e => h.set (L + d.rk) e) with
        | none => simp [ha] at hr
        | some a =>
          obtain ⟨v, h1⟩ := a
          simp only [ha] at hr
          obtain ⟨g1, g2⟩ := act_mono hN hc ha hq (setAt_gone hne) (fun e => setAt_mono hne)
          cases hF : F.put o.dst v with
          | none => simp [hF] at hr
          | some F' =>
            simp only [hF] at hr
            obtain ⟨g3, g4⟩ := runD_mono hN hc hL hr g1
            refine ⟨g3, fun e => ?_⟩
            simp only [set_other hne, hgn, cond_true, g2 e, hF]
            exact g4 e
      | wr =>
        simp only [hcl] at hr ⊢
        cases ha : act E call ops o F h h.length snoc with
        | none => simp [ha] at hr
        | some a =>
          obtain ⟨v, h1⟩ := a
          simp only [ha] at hr
          obtain ⟨g1, g2⟩ := act_mono hN hc ha hq snoc_gone (fun e => snoc_mono)
          cases hall : pd.all (fun e => d.D.testBit e.i || held E o e h1) with
          | false => simp [hall] at hr
          | true =>
          simp only [hall, cond_true] at hr
          cases hF : F.put o.dst v with
          | none => simp [hF] at hr
          | some F' =>
            simp only [hF] at hr
            obtain ⟨g3, g4⟩ := runD_mono hN hc hL hr g1
            refine ⟨g3, fun e => ?_⟩
            have hall' : pd.all (fun x => d.D.testBit x.i || held E o x (h1.set q e)) = true := by
              rw [List.all_eq_true] at hall ⊢
              intro x hx
              have := hall x hx
              simp only [Bool.or_eq_true] at this ⊢
              exact this.imp id fun hh => held_mono hh g1
            simp only [len_mono, g2 e, hall', cond_true, hF]
            exact g4 e
      | bad => simp [hcl] at hr
theorem regionD_mono (hN : NatMono E) (hc : CallMono call) {ops : Array Oper} {F : Frm} {r : Frm × Heap} (hr : regionD E call ops F h = some r) : MonoAt (regionD E call ops F) h r := by
  intro q hq
  have hlt : q < h.length := (List.getElem?_eq_some_iff.1 hq).1
  unfold regionD at hr ⊢
  simp only at hr ⊢
  cases hok : okD ops (orderOf ops) with
  | false => simp [hok] at hr
  | true =>
    simp only [hok, cond_true] at hr ⊢
    obtain ⟨g1, g2⟩ := runD_mono hN hc hlt hr (by rw [List.getElem?_append_left hlt, hq])
    refine ⟨g1, fun e => ?_⟩
    have := g2 e
    rw [List.set_append_left _ _ hlt] at this
    rw [len_mono]
    exact this
theorem exec_mono (hN : NatMono E) (hc : CallMono call) (hl : LoopMono loop) : ∀ (c : Code) {F : Frm} {h : Heap} {r : Out}, exec E call loop c F h = some r → OutMono (exec E call loop c F) h r := by
  intro c
  induction c with
  | skip => intro F h r hr; cases hr; exact fun q hq => ⟨hq, fun e => rfl⟩
  | region id ops draw =>
    intro F h r hr q hq
    cases draw with
    | false =>
      simp only [exec] at hr ⊢
      cases hs : runS E call ops ops.toList F h with
      | none => simp [hs] at hr
      | some s =>
        simp only [hs, Option.some.injEq] at hr; subst hr
        obtain ⟨g1, g2⟩ := runS_mono hN hc hs q hq
        exact ⟨g1, fun e => by simp only [g2 e]; rfl⟩
    | true =>
      simp only [exec] at hr ⊢
      cases hs : regionD E call ops F h with
      | none => simp [hs] at hr
      | some s =>
        simp only [hs, Option.some.injEq] at hr; subst hr
        obtain ⟨g1, g2⟩ := regionD_mono hN hc hs q hq
        exact ⟨g1, fun e => by simp only [g2 e]; rfl⟩
  | seq a b iha ihb =>
    intro F h r hr q hq
    simp only [exec] at hr ⊢
    cases hs : exec E call loop a F h with
    | none => simp [hs] at hr
    | some s =>
      obtain ⟨g1, g2⟩ := iha hs q hq
      cases s with
      | normal F1 h1 =>
        simp only [hs] at hr
        obtain ⟨g3, g4⟩ := ihb hr q g1
        exact ⟨g3, fun e => by simp only [g2 e]; exact g4 e⟩
      | exit i F1 h1 =>
        simp only [hs, Option.some.injEq] at hr; subst hr
        exact ⟨g1, fun e => by simp only [g2 e]; rfl⟩
      | ret F1 h1 =>
        simp only [hs, Option.some.injEq] at hr; subst hr
        exact ⟨g1, fun e => by simp only [g2 e]; rfl⟩
  | cond c t e iht ihe =>
    intro F h r hr q hq
    simp only [exec] at hr ⊢
    split at hr
    · rename_i hv; try simp only [hv]
      exact iht hr q hq
    · rename_i hv; try simp only [hv]
      exact ihe hr q hq
    · cases hr
  | block id c ih =>
    intro F h r hr q hq
    simp only [exec] at hr ⊢
    cases hs : exec E call loop c F h with
    | none => simp [hs] at hr
    | some s =>
      obtain ⟨g1, g2⟩ := ih hs q hq
      cases s with
      | normal F1 h1 =>
        simp only [hs, Option.some.injEq] at hr; subst hr
        exact ⟨g1, fun e => by simp only [g2 e]; rfl⟩
      | exit i F1 h1 =>
        simp only [hs] at hr
        cases hb : Nat.beq i id <;> simp only [hb, cond_true, cond_false, Option.some.injEq] at hr <;> cases hr
        · exact ⟨g1, fun e => by simp only [g2 e, Out.withHeap, hb, cond_false]⟩
        · exact ⟨g1, fun e => by simp only [g2 e, Out.withHeap, hb, cond_true]; rfl⟩
      | ret F1 h1 =>
        simp only [hs, Option.some.injEq] at hr; subst hr
        exact ⟨g1, fun e => by simp only [g2 e]; rfl⟩
  | loop c _ =>
    intro F h r hr
    exact hl c F h r hr
  | exit id => intro F h r hr; cases hr; exact fun q hq => ⟨hq, fun e => rfl⟩
  | ret => intro F h r hr; cases hr; exact fun q hq => ⟨hq, fun e => rfl⟩
  | _ => intros; simp_all [exec]
theorem mapM_resA {rs : List ResultVar} {F : Frm} {vs : List AV} (hr : rs.mapM (resA E F h) = some vs) (hq : h[q]? = some .gone) : rs.mapM (resA E F (h.set q e)) = some vs :=
  mapM_mono (fun a b hb => by
    unfold resA at hb ⊢
    split at hb
    · exact hb
    · simp only [Option.bind_eq_some_iff] at hb ⊢
      obtain ⟨i, hi, hb⟩ := hb
      exact ⟨i, hi, loadP_mono hq hb⟩) hr
theorem leave_mono {fn : Func} {f : Heap → Option Out} {o : Out} {r : AV × Heap} (ho : f h = some o) (hr : leave E fn (some o) = some r) (hm : OutMono f h o) : MonoAt (fun h => leave E fn (f h)) h r := by
  intro q hq
  obtain ⟨g1, g2⟩ := hm q hq
  cases o with
  | exit i F h1 => cases hr
  | normal F h1 =>
    simp only [leave, resultsA, Option.map_eq_some_iff] at hr
    obtain ⟨v, ⟨vs, hvs, hv⟩, rfl⟩ := hr
    refine ⟨g1, fun e => ?_⟩
    simp only [g2 e, Out.withHeap, leave, resultsA, Out.heap, mapM_resA hvs g1, Option.map_some, hv]
  | ret F h1 =>
    simp only [leave, resultsA, Option.map_eq_some_iff] at hr
    obtain ⟨v, ⟨vs, hvs, hv⟩, rfl⟩ := hr
    refine ⟨g1, fun e => ?_⟩
    simp only [g2 e, Out.withHeap, leave, resultsA, Out.heap, mapM_resA hvs g1, Option.map_some, hv]
theorem body_mono (hN : NatMono E) (hc : CallMono call) (hl : LoopMono loop) : CallMono (body E call loop) := by
  intro f args h r hr
  unfold body at hr
  unfold MonoAt body
  cases hf : E.fn f with
  | none => simp [hf] at hr
  | some fn =>
    simp only [hf] at hr ⊢
    cases hb : fn.body with
    | none => simp [hb] at hr
    | some c =>
      simp only [hb] at hr ⊢
      cases ho : exec E call loop c (entry fn args) h with
      | none => simp [ho, leave] at hr
      | some o =>
        rw [ho] at hr
        exact leave_mono (f := fun h => exec E call loop c (entry fn args) h) ho hr (exec_mono hN hc hl c ho)
theorem round_mono (hN : NatMono E) (hc : CallMono call) (hl : LoopMono loop) : LoopMono (round E call loop) := by
  intro c F h r hr q hq
  unfold round at hr ⊢
  cases hs : exec E call loop c F h with
  | none => simp [hs] at hr
  | some s =>
    obtain ⟨g1, g2⟩ := exec_mono hN hc hl c hs q hq
    cases s with
    | normal F1 h1 =>
      simp only [hs] at hr
      obtain ⟨g3, g4⟩ := hl c F1 h1 r hr q g1
      exact ⟨g3, fun e => by simp only [g2 e]; exact g4 e⟩
    | exit i F1 h1 =>
      simp only [hs, Option.some.injEq] at hr; subst hr
      exact ⟨g1, fun e => by simp only [g2 e]; rfl⟩
    | ret F1 h1 =>
      simp only [hs, Option.some.injEq] at hr; subst hr
      exact ⟨g1, fun e => by simp only [g2 e]; rfl⟩
theorem ev_mono (hN : NatMono E) : ∀ n, CallMono (ev E n).1 ∧ LoopMono (ev E n).2
  | 0 => ⟨fun f args h r hr => (by cases hr), fun c F h out hr => (by cases hr)⟩
  | n + 1 => ⟨body_mono hN (ev_mono hN n).1 (ev_mono hN n).2, round_mono hN (ev_mono hN n).1 (ev_mono hN n).2⟩
end
end Go.Abs
