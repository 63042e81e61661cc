/- TopRival: the arguments. -/
import Derived.Test.YtgdcimpndddepaaGreatRP
import Derived.Deep.Strs
import Derived.ChangeSlices
import Derived.SizedLaws
/- TopRival: slices of whole numbers and of items, as the rows tell them, are what the evaluator takes. -/
open Go Go.Proofs Go.Abs
namespace Rival
section
variable {H : Type} {enc : TypeId × Value → H} {P : Program} {w : World} {base : Nat} {spare : Nat → Bool} {held : Bool}
theorem mapM_getR {α β : Type} {f : α → Option β} : ∀ {l : List α} {r : List β}, l.mapM f = some r → r.length = l.length ∧ ∀ (i : Nat) x, l[i]? = some x → ∃ y, r[i]? = some y ∧ f x = some y
  | [], r, h => by
    simp at h; subst h
    exact ⟨rfl, fun i x hi => by simp at hi⟩
  | a :: l, r, h => by
    simp only [List.mapM_cons, Option.bind_eq_bind, Option.bind_eq_some_iff, Option.pure_def, Option.some.injEq] at h
    obtain ⟨b, hb, bs, hbs, rfl⟩ := h
    obtain ⟨h1, h2⟩ := mapM_getR hbs
    refine ⟨by simp [h1], fun i x hi => ?_⟩
    cases i with
    | zero => simp at hi; subst hi; exact ⟨b, rfl, hb⟩
    | succ i => simpa using h2 i x (by simpa using hi)
theorem cells_get {a : Addr} {n : Nat} {cs : List Value} (h : w.cells? base a n = some cs) : cs.length = n ∧ ∀ i, i < n → w.cell? (a.add i) = cs[i]? := by
  unfold World.cells? at h
  split at h
  · obtain ⟨h1, h2⟩ := mapM_getR h
    rw [List.length_range] at h1
    refine ⟨h1, fun i hi => ?_⟩
    obtain ⟨y, hy, hc⟩ := h2 i i (by simp [hi])
    rw [hc, hy]
  · cases h
theorem spot_none {a : Addr} {v : Value} (h : w.cell? a = some v) : a.spot = none := by
  unfold World.cell? at h
  split at h
  · cases hs : a.spot with
    | none => rfl
    | some x => simp [hs] at h
  · cases h
theorem add_plain2 (b o i : Nat) : (⟨b, o, none⟩ : Addr).add i = ⟨b, o + i, none⟩ := by
  unfold Addr.add
  split <;> simp_all
def M0 : Nat → Prop := Mut (fun _ => False) RMap.empty
theorem m0 (k : Nat) : ¬ M0 k := fun h => mut_empty h
theorem open_intsV {t e : TypeId} {fuel : Nat} {v : Value} {x : DataW H × List MemPlace} (ht : P.underlying t = some (.slice e)) (he : P.underlying e = some (.int .i64)) (hc : P.cellsOf e = 1) (h : DataW.trod enc P w base spare held fuel t [v] = some x) :
    ∃ l : List Int, VRel w M0 RMap.empty (.lst (ints l)) v ∧ ((x.1 = .nil ∧ l = []) ∨ ∃ es sp, x.1 = .slice es sp ∧ es.length = l.length) := by
  rcases ChangeShapes.open_ints ht he hc h with ⟨hcs, rfl⟩ | ⟨a, len, cap, zs, hcs, _, hl, hm, hz, rfl, hcell, _⟩
  · simp only [List.cons.injEq, and_true] at hcs
    subst hcs
    exact ⟨[], .lst0 none 0, .inl ⟨rfl, rfl⟩⟩
  · simp only [List.cons.injEq, and_true] at hcs
    subst hcs
    have hzl : len ≤ zs.length := by rw [hz]; split <;> omega
    refine ⟨zs.take len, ?_, .inr ⟨_, _, rfl, ?_⟩⟩
    · by_cases h0 : len = 0
      · subst h0
        exact .lst0 _ _
      · have hs := spot_none (hcell 0 (by omega))
        have ha : a = ⟨a.block, a.off, none⟩ := by
          have : (a.add 0).spot = a.spot := by simp [Addr.add]
          rw [this] at hs
          cases a; simp_all
        rw [ha] at hcell ⊢
        simp only [add_plain2] at hcell
        refine .lst (sz := 1) (fun i _ => .int .i64 (zs.getD i 0)) (by simp; omega) hl (m0 _) (cell_lt (a := ⟨a.block, a.off + 0, none⟩) (hcell 0 (by omega))) (fun i e hi => ?_) (fun i j e c hi hj => ?_) (fun i j e c hi hj => ?_)
        all_goals
          obtain ⟨z, hz', rfl⟩ : ∃ z, (zs.take len)[i]? = some z ∧ e = .int .i64 z := by
            simp only [ints, List.getElem?_map, Option.map_eq_some_iff] at hi
            obtain ⟨z, h1, h2⟩ := hi
            exact ⟨z, h1, h2.symm⟩
          have hil : i < len := by
            have := (List.getElem?_eq_some_iff.1 hz').1
            simp at this; omega
          have hzd : zs.getD i 0 = z := by
            rw [List.getElem?_take, if_pos hil] at hz'
            simp [List.getD_eq_getElem?_getD, hz']
        · rfl
        · cases j with
          | zero => rw [Nat.mul_one, Nat.add_zero]; exact hcell i (by omega)
          | succ j => simp [AV.cells] at hj
        · cases j with
          | zero =>
            simp [AV.cells] at hj
            subst hj
            rw [hzd]
            exact .int _ _
          | succ j => simp [AV.cells] at hj
    · simp [ChangeShapes.lits]
set_option maxRecDepth 100000 in
theorem open_itsV {fuel : Nat} {v : Value} {x : DataW H × List MemPlace} (h : DataW.trod enc Tryz.prog w base spare held fuel 22 [v] = some x) :
    ∃ l : List It, VRel w M0 RMap.empty (.lst (its l)) v ∧ ((x.1 = .nil ∧ l = []) ∨ ∃ es sp, x.1 = .slice es sp ∧ es.length = l.length) := by
  have hc : Tryz.prog.cellsOf 60 = 4 := by kernel_rfl
  have hc3 : Tryz.prog.cellsOf 3 = 1 := by kernel_rfl
  rcases DataW.trod_slice Tryz.underlying22 h with ⟨hcs, rfl⟩ | ⟨a, len, cap, elems, rest, n, _, hcs, rfl, _, hl, hm, hlen, hel, _, _⟩
  · simp only [List.cons.injEq, and_true] at hcs
    subst hcs
    exact ⟨[], .lst0 none 0, .inl ⟨rfl, rfl⟩⟩
  · simp only [List.cons.injEq, and_true] at hcs
    subst hcs
    have key : ∀ i, i < len → ∃ p : It, w.cell? ((a.add (i * 4)).add 0) = some (.int .i64 p.t) ∧ w.cell? ((a.add (i * 4)).add 1) = some (.int .i64 p.b) ∧ w.cell? ((a.add (i * 4)).add 2) = some (.int .i64 p.r) ∧ w.cell? ((a.add (i * 4)).add 3) = some (.int .i64 p.l) := by
      intro i hi
      have h1 := hel i hi
      rw [hc] at h1
      have hsome : ∃ y, elems[i]? = some y := ⟨_, List.getElem?_eq_getElem (by omega)⟩
      obtain ⟨y, hy⟩ := hsome
      rw [hy, Option.bind_eq_some_iff] at h1
      obtain ⟨cs, hcs, hs⟩ := h1
      obtain ⟨hcl, hget⟩ := cells_get hcs
      obtain ⟨xs, n', _, _, _, hxl, hf⟩ := DataW.trod_struct Tryz.underlying60 hs
      match xs, hxl with
      | [y0, y1, y2, y3], _ =>
        have q0 : DataW.trod enc Tryz.prog w base spare held n' 3 ((cs.drop 0).take (Tryz.prog.cellsOf 3)) = some y0 := hf 0 _ rfl
        have q1 : DataW.trod enc Tryz.prog w base spare held n' 3 ((cs.drop 1).take (Tryz.prog.cellsOf 3)) = some y1 := hf 1 _ rfl
        have q2 : DataW.trod enc Tryz.prog w base spare held n' 3 ((cs.drop 2).take (Tryz.prog.cellsOf 3)) = some y2 := hf 2 _ rfl
        have q3 : DataW.trod enc Tryz.prog w base spare held n' 3 ((cs.drop 3).take (Tryz.prog.cellsOf 3)) = some y3 := hf 3 _ rfl
        rw [hc3] at q0 q1 q2 q3
        match cs, hcl with
        | [c0, c1, c2, c3], _ =>
          obtain ⟨z0, e0, _, _⟩ := DataW.trod_int Tryz.underlying3 q0
          obtain ⟨z1, e1, _, _⟩ := DataW.trod_int Tryz.underlying3 q1
          obtain ⟨z2, e2, _, _⟩ := DataW.trod_int Tryz.underlying3 q2
          obtain ⟨z3, e3, _, _⟩ := DataW.trod_int Tryz.underlying3 q3
          simp at e0 e1 e2 e3
          subst e0 e1 e2 e3
          exact ⟨⟨z0, z1, z2, z3⟩, hget 0 (by omega), hget 1 (by omega), hget 2 (by omega), hget 3 (by omega)⟩
    by_cases h0 : len = 0
    · subst h0
      exact ⟨[], .lst0 _ _, .inr ⟨_, _, rfl, by simpa using hlen⟩⟩
    · obtain ⟨p0, hp0, _, _⟩ := key 0 (by omega)
      have hs := spot_none hp0
      have ha : a = ⟨a.block, a.off, none⟩ := by
        have : ((a.add (0 * 4)).add 0).spot = a.spot := by simp [Addr.add]
        rw [this] at hs
        cases a; simp_all
      rw [ha] at key ⊢
      simp only [add_plain2] at key
      have ch : ∀ i : Nat, ∃ p : It, i < len → w.cell? ⟨a.block, a.off + i * 4 + 0, none⟩ = some (.int .i64 p.t) ∧ w.cell? ⟨a.block, a.off + i * 4 + 1, none⟩ = some (.int .i64 p.b) ∧ w.cell? ⟨a.block, a.off + i * 4 + 2, none⟩ = some (.int .i64 p.r) ∧ w.cell? ⟨a.block, a.off + i * 4 + 3, none⟩ = some (.int .i64 p.l) := fun i => by
        by_cases hi : i < len
        · obtain ⟨p, hp⟩ := key i hi
          exact ⟨p, fun _ => hp⟩
        · exact ⟨default, fun h => absurd h hi⟩
      let F : Nat → It := fun i => (ch i).choose
      have hF : ∀ i, i < len → w.cell? ⟨a.block, a.off + i * 4 + 0, none⟩ = some (.int .i64 (F i).t) ∧ w.cell? ⟨a.block, a.off + i * 4 + 1, none⟩ = some (.int .i64 (F i).b) ∧ w.cell? ⟨a.block, a.off + i * 4 + 2, none⟩ = some (.int .i64 (F i).r) ∧ w.cell? ⟨a.block, a.off + i * 4 + 3, none⟩ = some (.int .i64 (F i).l) := fun i hi => (ch i).choose_spec hi
      clear_value F
      refine ⟨(List.range len).map F, ?_, .inr ⟨_, _, rfl, by simpa using hlen⟩⟩
      have elem : ∀ (i : Nat) (e : AV), (its ((List.range len).map F))[i]? = some e → i < len ∧ e = (F i).av := fun i e hi => by
        simp only [its, List.map_map, List.getElem?_map, Option.map_eq_some_iff] at hi
        obtain ⟨z, h1, h2⟩ := hi
        obtain ⟨h3, h4⟩ := List.getElem?_eq_some_iff.1 h1
        simp at h3 h4
        subst h4
        exact ⟨h3, h2.symm⟩
      refine .lst (sz := 4) (fun i j => if j = 0 then .int .i64 (F i).t else if j = 1 then .int .i64 (F i).b else if j = 2 then .int .i64 (F i).r else .int .i64 (F i).l) (by simp) hl (m0 _) (cell_lt (a := ⟨a.block, a.off + 0 * 4 + 0, none⟩) (hF 0 (by omega)).1) (fun i e hi => ?_) (fun i j e c hi hj => ?_) (fun i j e c hi hj => ?_)
      · obtain ⟨_, rfl⟩ := elem i e hi; rfl
      · obtain ⟨hil, rfl⟩ := elem i e hi
        obtain ⟨g0, g1, g2, g3⟩ := hF i hil
        match j with
        | 0 => exact g0
        | 1 => exact g1
        | 2 => exact g2
        | 3 => exact g3
        | j + 4 => simp at hj
      · obtain ⟨hil, rfl⟩ := elem i e hi
        match j with
        | 0 => simp at hj; subst hj; exact .int _ _
        | 1 => simp at hj; subst hj; exact .int _ _
        | 2 => simp at hj; subst hj; exact .int _ _
        | 3 => simp at hj; subst hj; exact .int _ _
        | j + 4 => simp at hj
end
end Rival
