/- The evaluator of a program: its tables are the program's own. -/
import Derived.Test.YtgdcimpndddepaaGreatAbs22
namespace Go.Abs
noncomputable section
variable {P : Program}

def fldOf (P : Program) (f : Field) : Fld := ⟨f.offset, f.type, P.cellsOf f.type, f.name == "_"⟩
def tkOf (P : Program) : TypeDesc → Option TK
  | .bool => some .bool
  | .string => some .str
  | .int k => some (.int k)
  | .pointer e => some (.ptr e)
  | .slice e => some (.slice e)
  | .array n e => some (.array n e)
  | .struct fields => some (.struct (fields.toList.map (fldOf P)))
  | .map k e => some (.map k e)
  | .func _ _ _ => some .func
  | .interface _ => some .iface
  | _ => none
def tiOf (P : Program) (t : TypeId) : Option TI :=
  match P.info? t with
  | none => none
  | some inf => match P.underlying t with
    | none => none
    | some d => match tkOf P d with
      | none => none
      | some k => match inf.zero with
        | none => none
        | some z => bif Nat.beq z.cells.size inf.size then some { k := k, size := inf.size, bytes := inf.bytes, zero := ofConst z, plainEq := !(P.eqGuardType P.depth t) && !(P.stoodInHeld t) } else none
theorem tiOf_ok {t : TypeId} {i : TI} (h : tiOf P t = some i) : TIok P t i := by
  unfold tiOf at h
  cases hi : P.info? t with
  | none => simp [hi] at h
  | some inf =>
    simp only [hi] at h
    cases hu : P.underlying t with
    | none => simp [hu] at h
    | some d =>
      simp only [hu] at h
      cases hk : tkOf P d with
      | none => simp [hk] at h
      | some k =>
        simp only [hk] at h
        cases hz : inf.zero with
        | none => simp [hz] at h
        | some z =>
          simp only [hz] at h
          cases hb : Nat.beq z.cells.size inf.size <;> simp only [hb, cond_true, cond_false] at h
          · cases h
          · cases h
            refine ⟨⟨inf, hi, rfl, rfl, z, hz, rfl, Nat.eq_of_beq_eq_true hb⟩, ?_, fun hg => ?_⟩
            · cases d <;> simp only [tkOf, Option.some.injEq, reduceCtorEq] at hk <;> subst hk <;> simp only [kindOK, hu, Option.some.injEq, TypeDesc.func.injEq, TypeDesc.interface.injEq, TypeDesc.struct.injEq, exists_eq_left']
              · rfl
              · exact ⟨_, _, _, rfl, rfl, rfl⟩
              · exact ⟨_, rfl⟩
            · simp only [Bool.and_eq_true, Bool.not_eq_true'] at hg
              exact hg
def fnOf (P : Program) (f : FuncId) : Option Func :=
  match P.funcs[f]? with
  | some fn => bif fn.name == "runtime.NumGoroutine" then none else some fn
  | none => none
def envOf (P : Program) (cm : FuncId → CM) (nop : FuncId → Bool) : Env := ⟨tiOf P, fnOf P, cm, nop, fun _ => none⟩
theorem envOf_ok (hm : P.follows .mixedOrders = true) {cm : FuncId → CM} {nop : FuncId → Bool} (hn : ∀ f, nop f = true → NopOK P f) : ProgOK P (envOf P cm nop) := by
  refine ⟨⟨fun t i h => tiOf_ok h, hm⟩, fun f fn h => ?_, hn, fun f g h => (by cases h), fun f g h => (by cases h)⟩
  simp only [envOf, fnOf] at h
  cases hf : P.funcs[f]? with
  | none => simp [hf] at h
  | some fn' =>
    simp only [hf] at h
    cases hb : (fn'.name == "runtime.NumGoroutine") <;> simp only [hb, cond_true, cond_false] at h
    · cases h; exact ⟨rfl, hb⟩
    · cases h
end
end Go.Abs
