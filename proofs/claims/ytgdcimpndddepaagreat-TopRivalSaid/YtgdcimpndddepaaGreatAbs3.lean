/- The abstract heap against memory; what each of its steps keeps. -/
import Derived.Test.YtgdcimpndddepaaGreatAbs2
import Derived.Laws.Cells
import Derived.Laws.CopyRow
import Derived.Laws.AppendOwn
import Derived.Laws.Rows
import Derived.Laws.NewBlocks
namespace Go.Abs
noncomputable section

/-! ### The program's tables -/
def kindOK (P : Program) (t : TypeId) : TK → Prop
  | .bool => P.underlying t = some .bool
  | .str => P.underlying t = some .string
  | .int k => P.underlying t = some (.int k)
  | .ptr e => P.underlying t = some (.pointer e)
  | .slice e => P.underlying t = some (.slice e)
  | .array n e => P.underlying t = some (.array n e)
  | .struct fs => ∃ fields, P.underlying t = some (.struct fields) ∧ fs = fields.toList.map fun f => ⟨f.offset, f.type, P.cellsOf f.type, f.name == "_"⟩
  | .map k e => P.underlying t = some (.map k e)
  | .func => ∃ a b c, P.underlying t = some (.func a b c)
  | .iface => ∃ ms, P.underlying t = some (.interface ms)
structure TIok (P : Program) (t : TypeId) (i : TI) : Prop where
  info : ∃ inf, P.info? t = some inf ∧ inf.size = i.size ∧ inf.bytes = i.bytes ∧ ∃ z, inf.zero = some z ∧ ofConst z = i.zero ∧ z.cells.size = i.size
  kind : kindOK P t i.k
  guard : i.plainEq = true → P.eqGuardType P.depth t = false ∧ P.stoodInHeld t = false

/-! ### Heaps -/
structure RowAt (w : World) (M : Nat → Prop) (ρ : RMap) (base : Nat) (l : RowLoc) (es : List AV) : Prop where
  pos : 0 < l.sz
  fits : es.length ≤ l.cap
  base_le : base ≤ l.cb
  block : ∃ cells t, w.heap[l.cb]? = some (.cells cells t (0, 0)) ∧ l.co + l.cap * l.sz ≤ cells.size
  size : ∀ (i : Nat) (e : AV), es[i]? = some e → e.cells.length = l.sz
  cell : ∀ (i j : Nat) (e c : AV), es[i]? = some e → e.cells[j]? = some c → ∃ v, w.cell? ⟨l.cb, l.co + i * l.sz + j, none⟩ = some v ∧ VRel w M ρ c v
structure MapAt (w : World) (M : Nat → Prop) (ρ : RMap) (base : Nat) (r : Nat) (es : List (AV × AV)) : Prop where
  base_le : base ≤ r
  block : ∃ xs clock, w.heap[r]? = some (.map xs clock) ∧ xs.size = es.length ∧
    ∀ (i : Nat) (k v : AV), es[i]? = some (k, v) → ∃ x, xs[i]? = some x ∧ VRel w M ρ k x.key ∧ VRel w M ρ v x.val
inductive EntRel (w : World) (M : Nat → Prop) (ρ : RMap) (base b : Nat) : Ent → Prop
  | row {ro : Bool} {es : List AV} {l : RowLoc} (h : ρ b = some (.row ro l)) (hc : l.cur = es.length) (hr : RowAt w M ρ base l es) : EntRel w M ρ base b (.row ro l.sz es)
  | virt {sz : Nat} (h : ρ b = some .virt) (hs : 0 < sz) : EntRel w M ρ base b (.row false sz [])
  | map {ro : Bool} {r : Nat} {es : List (AV × AV)} (h : ρ b = some (.map ro r)) (hm : MapAt w M ρ base r es) : EntRel w M ρ base b (.map ro es)
def Lies (ρ : RMap) (b k : Nat) : Prop := ∃ loc, ρ b = some loc ∧ loc.block = some k
structure HRel (N : Nat → Prop) (base : Nat) (ρ : RMap) (h : Heap) (w : World) : Prop where
  out : ∀ b, h[b]? = none ∨ h[b]? = some .gone → ρ b = none
  ent : ∀ b e, h[b]? = some e → e ≠ .gone → EntRel w (Mut N ρ) ρ base b e
  inj : ∀ b b' k, Lies ρ b k → Lies ρ b' k → b = b'
  base_le : base ≤ w.heap.size
  ext : ∀ k, N k → k < base
theorem HRel.ext_lt {N : Nat → Prop} {base : Nat} {ρ : RMap} {h : Heap} {w : World} (H : HRel N base ρ h w) (k : Nat) (hk : N k) : k < w.heap.size := Nat.lt_of_lt_of_le (H.ext k hk) H.base_le
theorem Loc.owns_lies {loc : Loc} {k : Nat} (h : loc.owns k) : loc.block = some k := by
  cases loc with
  | row ro l => cases ro <;> simp_all [Loc.owns, Loc.block]
  | virt => exact h.elim
  | map ro r => cases ro <;> simp_all [Loc.owns, Loc.block]
theorem HRel.lies {N : Nat → Prop} {base : Nat} {ρ : RMap} {h : Heap} {w : World} (H : HRel N base ρ h w) {b k : Nat} (hl : Lies ρ b k) : base ≤ k ∧ k < w.heap.size := by
  obtain ⟨loc, hb, hk⟩ := hl
  cases he : h[b]? with
  | none => rw [H.out b (.inl he)] at hb; cases hb
  | some e =>
    have hg : e ≠ .gone := fun hg => by subst hg; rw [H.out b (.inr he)] at hb; cases hb
    cases H.ent b e he hg with
    | row h1 _ hr =>
      rw [h1] at hb; cases hb
      simp only [Loc.block, Option.some.injEq] at hk; subst hk
      obtain ⟨c, t, hc, _⟩ := hr.block
      exact ⟨hr.base_le, (Array.getElem?_eq_some_iff.1 hc).1⟩
    | virt h1 => rw [h1] at hb; cases hb; cases hk
    | map h1 hm =>
      rw [h1] at hb; cases hb
      simp only [Loc.block, Option.some.injEq] at hk; subst hk
      obtain ⟨c, t, hc, _⟩ := hm.block
      exact ⟨hm.base_le, (Array.getElem?_eq_some_iff.1 hc).1⟩
theorem HRel.own {N : Nat → Prop} {base : Nat} {ρ : RMap} {h : Heap} {w : World} (H : HRel N base ρ h w) {k : Nat} (ho : Own ρ k) : base ≤ k ∧ k < w.heap.size := by
  obtain ⟨b, loc, hb, hk⟩ := ho
  exact H.lies ⟨loc, hb, Loc.owns_lies hk⟩

/-- From one world to a later one. -/
structure Adv (ρ : RMap) (w : World) (ρ' : RMap) (w' : World) : Prop where
  le : RMapLe ρ ρ'
  size : w.heap.size ≤ w'.heap.size
  keep : ∀ k, k < w.heap.size → ¬ Own ρ k → w'.heap[k]? = w.heap[k]?
  fresh : ∀ k, k < w.heap.size → Own ρ' k → Own ρ k
  os : w'.os = w.os
  tape : w'.tape = w.tape
  output : w'.output = w.output
theorem Adv.refl (ρ : RMap) (w : World) : Adv ρ w ρ w := ⟨.refl ρ, Nat.le_refl _, fun _ _ _ => rfl, fun _ _ h => h, rfl, rfl, rfl⟩
theorem Adv.trans {ρ ρ' ρ'' : RMap} {w w' w'' : World} (h : Adv ρ w ρ' w') (k : Adv ρ' w' ρ'' w'') : Adv ρ w ρ'' w'' :=
  ⟨h.le.trans k.le, Nat.le_trans h.size k.size,
    fun i hi hn => (k.keep i (Nat.lt_of_lt_of_le hi h.size) (fun ho => hn (h.fresh i hi ho))).trans (h.keep i hi hn),
    fun i hi ho => h.fresh i hi (k.fresh i (Nat.lt_of_lt_of_le hi h.size) ho), k.os.trans h.os, k.tape.trans h.tape, k.output.trans h.output⟩
theorem VRel.adv {N : Nat → Prop} {ρ ρ' : RMap} {w w' : World} (h : Adv ρ w ρ' w') {v : AV} {c : Value} (hv : VRel w (Mut N ρ) ρ v c) : VRel w' (Mut N ρ') ρ' v c :=
  hv.mono (fun k hk hm => h.keep k hk fun ho => hm (.inr ho)) h.size (fun k hk hm => hm.imp id (h.fresh k hk)) h.le
theorem Adv.below {ρ ρ' : RMap} {w w' : World} {base : Nat} (h : Adv ρ w ρ' w') (hb : base ≤ w.heap.size) (ho : ∀ k, Own ρ k → base ≤ k) : Go.RowKit.Below base w w' :=
  ⟨h.os, h.tape, h.output, h.size, fun k hk => h.keep k (Nat.lt_of_lt_of_le hk hb) fun hw => by have := ho k hw; omega⟩

/-- One entry changes (or comes), the others stay. -/
theorem HRel.step {N : Nat → Prop} {base : Nat} {ρ ρ' : RMap} {h h' : Heap} {w w' : World} (H : HRel N base ρ h w) (p : Nat) (hadv : Adv ρ w ρ' w')
    (ho : ∀ b, b ≠ p → ρ' b = ρ b) (hh : ∀ b, b ≠ p → h'[b]? = h[b]? ∨ (h[b]? = none ∧ h'[b]? = some .gone))
    (keep : ∀ k, k < w.heap.size → ¬ Lies ρ p k → w'.heap[k]? = w.heap[k]?)
    (new : ∃ e, h'[p]? = some e ∧ e ≠ .gone ∧ EntRel w' (Mut N ρ') ρ' base p e)
    (inj : ∀ k, Lies ρ' p k → Lies ρ p k ∨ w.heap.size ≤ k) : HRel N base ρ' h' w' := by
  obtain ⟨e0, hp0, hg0, hr0⟩ := new
  refine ⟨fun b hb => ?_, fun b e hb hg => ?_, fun b b' k hl hl' => ?_, Nat.le_trans H.base_le hadv.size, H.ext⟩
  · by_cases hbp : b = p
    · subst hbp; rw [hp0] at hb; rcases hb with hb | hb
      · cases hb
      · cases hb; exact absurd rfl hg0
    · rw [ho b hbp]
      rcases hh b hbp with h1 | ⟨h1, h2⟩
      · rw [h1] at hb; exact H.out b hb
      · exact H.out b (.inl h1)
  · by_cases hbp : b = p
    · subst hbp; rw [hp0] at hb; cases hb; exact hr0
    · rcases hh b hbp with h1 | ⟨h1, h2⟩
      · rw [h1] at hb
        have hkeep : ∀ k, Lies ρ b k → w'.heap[k]? = w.heap[k]? := fun k hl => keep k (H.lies hl).2 fun hl' => hbp (H.inj b p k hl hl')
        cases H.ent b e hb hg with
        | @row ro es l h2 hc hr =>
          have hk := hkeep l.cb ⟨_, h2, rfl⟩
          refine .row ((ho b hbp).trans h2) hc ⟨hr.pos, hr.fits, hr.base_le, ?_, hr.size, fun i j e c hi hj => ?_⟩
          · obtain ⟨c, t, hc, hs⟩ := hr.block
            exact ⟨c, t, hk.trans hc, hs⟩
          · obtain ⟨v, hv, hrel⟩ := hr.cell i j e c hi hj
            exact ⟨v, by rw [World.cell?_of_block (w := w) hk]; exact hv, hrel.adv hadv⟩
        | virt h2 hs => exact .virt ((ho b hbp).trans h2) hs
        | @map ro r es h2 hm =>
          have hk := hkeep r ⟨_, h2, rfl⟩
          refine .map ((ho b hbp).trans h2) ⟨hm.base_le, ?_⟩
          obtain ⟨xs, clock, hc, hs, hrel⟩ := hm.block
          refine ⟨xs, clock, hk.trans hc, hs, fun i k v hi => ?_⟩
          obtain ⟨x, hx, h1, h2⟩ := hrel i k v hi
          exact ⟨x, hx, h1.adv hadv, h2.adv hadv⟩
      · rw [h2] at hb; cases hb; exact absurd rfl hg
  · have key : ∀ b, Lies ρ' b k → (Lies ρ b k ∨ (b = p ∧ w.heap.size ≤ k)) := fun b hb => by
      by_cases hbp : b = p
      · subst hbp; exact (inj k hb).imp id (fun h => ⟨rfl, h⟩)
      · obtain ⟨loc, h1, h2⟩ := hb
        exact .inl ⟨loc, (ho b hbp).symm.trans h1, h2⟩
    rcases key b hl with h1 | ⟨rfl, h1⟩ <;> rcases key b' hl' with h2 | ⟨rfl, h2⟩
    · exact H.inj b b' k h1 h2
    · have := (H.lies h1).2; omega
    · have := (H.lies h2).2; omega
    · rfl
/-- Nothing but new memory. -/
theorem HRel.grow {N : Nat → Prop} {base : Nat} {ρ : RMap} {h : Heap} {w w' : World} (H : HRel N base ρ h w) (hsz : w.heap.size ≤ w'.heap.size)
    (keep : ∀ k, k < w.heap.size → w'.heap[k]? = w.heap[k]?) (h1 : w'.os = w.os) (h2 : w'.tape = w.tape) (h3 : w'.output = w.output) : HRel N base ρ h w' ∧ Adv ρ w ρ w' := by
  have hadv : Adv ρ w ρ w' := ⟨.refl ρ, hsz, fun k hk _ => keep k hk, fun _ _ h => h, h1, h2, h3⟩
  refine ⟨⟨H.out, fun b e hb hg => ?_, H.inj, Nat.le_trans H.base_le hsz, H.ext⟩, hadv⟩
  have hkeep : ∀ k, Lies ρ b k → w'.heap[k]? = w.heap[k]? := fun k hl => keep k (H.lies hl).2
  cases H.ent b e hb hg with
  | @row ro es l h2 hc hr =>
    have hk := hkeep l.cb ⟨_, h2, rfl⟩
    refine .row h2 hc ⟨hr.pos, hr.fits, hr.base_le, ?_, hr.size, fun i j e c hi hj => ?_⟩
    · obtain ⟨c, t, hc, hs⟩ := hr.block
      exact ⟨c, t, hk.trans hc, hs⟩
    · obtain ⟨v, hv, hrel⟩ := hr.cell i j e c hi hj
      exact ⟨v, by rw [World.cell?_of_block (w := w) hk]; exact hv, hrel.adv hadv⟩
  | virt h2 hs => exact .virt h2 hs
  | @map ro r es h2 hm =>
    have hk := hkeep r ⟨_, h2, rfl⟩
    refine .map h2 ⟨hm.base_le, ?_⟩
    obtain ⟨xs, clock, hc, hs, hrel⟩ := hm.block
    refine ⟨xs, clock, hk.trans hc, hs, fun i k v hi => ?_⟩
    obtain ⟨x, hx, h1, h2⟩ := hrel i k v hi
    exact ⟨x, hx, h1.adv hadv, h2.adv hadv⟩

/-! ### Frames -/
structure FRel (w : World) (M : Nat → Prop) (ρ : RMap) (F : Frm) (tmps : Array Value) : Prop where
  size : tmps.size = F.n
  get : ∀ t, VRel w M ρ (F.get t) (tmps.getD t undef)
theorem FRel.adv {N : Nat → Prop} {ρ ρ' : RMap} {w w' : World} (h : Adv ρ w ρ' w') {F : Frm} {tmps : Array Value} (hf : FRel w (Mut N ρ) ρ F tmps) : FRel w' (Mut N ρ') ρ' F tmps :=
  ⟨hf.size, fun t => (hf.get t).adv h⟩
theorem beq_ne {a b : Nat} (h : ¬ a = b) : Nat.beq a b = false := by
  rw [← Bool.not_eq_true]; intro h'; exact h (Nat.eq_of_beq_eq_true h')
theorem getS_putS (l : List (Nat × AV)) (d : AV) (t : Nat) (v : AV) (u : Nat) : getS (putS l t v) d u = if u = t then v else getS l d u := by
  induction l with
  | nil =>
    simp only [putS_nil', putS_cons', getS_nil', getS_cons']
    by_cases h : t = u
    · subst h; simp
    · have : Nat.beq t u = false := beq_ne h
      simp [this, Ne.symm h]
  | cons a r ih =>
    obtain ⟨s, x⟩ := a
    simp only [putS_nil', putS_cons']
    by_cases h1 : t < s
    · have e1 : Nat.blt t s = true := by simpa [Nat.blt_eq] using h1
      simp only [e1, cond_true, getS_nil', getS_cons']
      by_cases h : t = u
      · subst h; simp
      · have : Nat.beq t u = false := beq_ne h
        simp [this, Ne.symm h]
    · have e1 : Nat.blt t s = false := by rw [Bool.eq_false_iff]; simpa [Nat.blt_eq] using h1
      simp only [e1, cond_false]
      by_cases h2 : t = s
      · subst h2
        simp only [Nat.beq_refl, cond_true, getS_nil', getS_cons']
        by_cases h : t = u
        · subst h; simp
        · have : Nat.beq t u = false := beq_ne h
          simp [this, Ne.symm h]
      · have e2 : Nat.beq t s = false := beq_ne h2
        simp only [e2, cond_false, getS_nil', getS_cons', ih]
        by_cases h : s = u
        · subst h; simp [Ne.symm h2]
        · have : Nat.beq s u = false := beq_ne h
          simp [this]
theorem FRel.put {w : World} {M : Nat → Prop} {ρ : RMap} {F F' : Frm} {a : Act} {dst : Option Tmp} {v : AV} {c : Value} (hf : FRel w M ρ F a.tmps) (hp : F.put dst v = some F') (hv : VRel w M ρ v c) : FRel w M ρ F' (a.put dst c).tmps := by
  cases dst with
  | none => simp only [Frm.put_none', Frm.put_some', Option.some.injEq] at hp; subst hp; exact hf
  | some d =>
    simp only [Frm.put_none', Frm.put_some'] at hp
    cases hb : Nat.blt d F.n with
    | false => simp [hb] at hp
    | true =>
      simp only [hb, cond_true, Option.some.injEq] at hp
      subst hp
      have hd : d < a.tmps.size := by rw [hf.size]; simpa [Nat.blt_eq] using hb
      refine ⟨by simp [Act.put, hf.size], fun t => ?_⟩
      simp only [Frm.get, getS_putS, Act.put]
      by_cases ht : t = d
      · subst ht
        simpa [hd] using hv
      · simp only [if_neg ht]
        have := hf.get t
        simp only [Frm.get] at this
        simpa [Array.getElem?_setIfInBounds_ne (Ne.symm ht)] using this

end
end Go.Abs
