/- Cuts, indexes, fields, conversions, maps; what is made. -/
import Derived.Test.YtgdcimpndddepaaGreatAbs7
import Derived.Lib.ConvBytes
import Derived.Laws.BytesArg
import Derived.Laws.Slices
namespace Go.Abs
noncomputable section
variable {P : Program} {E : Env} {w : World} {N : Nat → Prop} {ρ : RMap} {base : Nat} {h : Heap}

/-! ### Fields -/
theorem kindOK.struct {t : TypeId} {fs : List Fld} (hk : kindOK P t (.struct fs)) {j : Nat} {f : Fld} (hj : fs[j]? = some f) : ∃ fields fd, P.underlying t = some (.struct fields) ∧ fields[j]? = some fd ∧ f = ⟨fd.offset, fd.type, P.cellsOf fd.type, fd.name == "_"⟩ := by
  obtain ⟨fields, hu, rfl⟩ := hk
  simp only [List.getElem?_map, Option.map_eq_some_iff, Array.getElem?_toList] at hj
  obtain ⟨fd, hfd, rfl⟩ := hj
  exact ⟨fields, fd, hu, hfd, rfl⟩
theorem fieldAddr_run (hE : EnvOK P E) {M : Nat → Prop} {t : TypeId} {x v : AV} {j : Nat} {cx : Value} (hf : fieldAddrA E t x j = some v) (hx : VRel w M ρ x cx) : ∃ r, (Instr.fieldAt t cx j).run P w = .ok r w ∧ VRel w M ρ v r := by
  unfold fieldAddrA at hf
  split at hf
  case h_2 => cases hf
  rename_i fs hk
  split at hf
  case h_2 => cases hf
  rename_i f hj
  obtain ⟨fields, fd, hu, hfd, rfl⟩ := (hE.kind hk).struct hj
  simp only at hf
  split at hf
  · cases hf
  rename_i hsz
  have hplace : ∀ a : Addr, (fieldPlace a fd).run P w = .ok (a.add fd.offset) w := by
    intro a
    cases hi : P.info? fd.type with
    | none => simp [Program.cellsOf, hi] at hsz
    | some inf =>
      simp only [Program.cellsOf, hi, Option.map_some, Option.getD_some] at hsz
      simp [fieldPlace, sizeOf, typeInfo, hi, hsz]
  have hrun : ∀ a : Addr, (Instr.fieldAt t (.pointer (some a)) j).run P w = .ok (.pointer (some (a.add fd.offset))) w := fun a => by
    simp [Instr.fieldAt, run_underlying hu, hfd, Instr.sureAddr, hplace]
  split at hf
  · cases hf
    cases hx with
    | ptr h1 =>
      refine ⟨_, hrun _, ?_⟩
      rw [addr_add, Nat.add_assoc]
      exact .ptr h1
    | ptrOld a h1 h2 => exact ⟨_, hrun _, .ptrOld _ h1 h2⟩
  · cases hf
    cases hx with
    | iptr val h1 h2 h3 h4 =>
      refine ⟨_, hrun _, ?_⟩
      rw [addr_add, Nat.add_assoc]
      exact .iptr val h1 h2 h3 h4
  · cases hf
theorem field_run (hE : EnvOK P E) {M : Nat → Prop} {t : TypeId} {x v : AV} {j : Nat} {cx : Value} (hf : fieldA E t x j = some v) (hx : VRel w M ρ x cx) : ∃ r, (Instr.field t cx j).run P w = .ok r w ∧ VRel w M ρ v r := by
  unfold fieldA at hf
  split at hf
  case h_2 => cases hf
  rename_i fs cs hk
  split at hf
  case h_2 => cases hf
  rename_i f hj
  obtain ⟨fields, fd, hu, hfd, rfl⟩ := (hE.kind hk).struct hj
  obtain ⟨vs, rfl, hn, hv⟩ := hx.agg_inv
  simp only [Option.bind_eq_some_iff] at hf
  obtain ⟨a, ha, hp⟩ := hf
  obtain ⟨r, hr, hrel⟩ := partT_rel hE ha hn hv hp
  exact ⟨r, by simp [Instr.field, run_underlying hu, hfd, asAgg, hr], hrel⟩

/-! ### Indexes -/
theorem indexAddr_run (hE : EnvOK P E) (H : HRel N base ρ h w) {t : TypeId} {x ix v : AV} {cx ci : Value} (hi : indexAddrA E t h x ix = some v) (hx : VRel w (Mut N ρ) ρ x cx) (hix : VRel w (Mut N ρ) ρ ix ci) :
    ∃ r, (Instr.indexAt t cx ci).run P w = .ok r w ∧ VRel w (Mut N ρ) ρ v r := by
  unfold indexAddrA at hi
  split at hi
  case h_2 => cases hi
  rename_i k i
  rw [hix.int_inv]
  split at hi
  · -- a row
    rename_i e b g s n hk
    have hu := hE.kind hk
    simp only [kindOK] at hu
    split at hi
    case h_2 => cases hi
    rename_i ei ro z es hei hb
    split at hi
    case isFalse => cases hi
    rename_i hc
    obtain ⟨h0, h1, rfl, hg⟩ := hc
    cases hi
    rcases H.row hb with ⟨l, hl1, hl2, hl3, hr⟩ | ⟨hl1, rfl, _, _⟩
    · rcases VRel.slice_old hl1 (by omega) hx with ⟨rfl, hsn⟩ | ⟨a, rfl, rfl, _⟩
      case inr => simp only [Int.natCast_zero] at h1; omega
      refine ⟨.pointer (some ⟨l.cb, l.co + (s + i.toNat) * l.sz + 0, none⟩), ?_, ?_⟩
      · have e1 : l.co + s * l.sz + i.toNat * ei.size = l.co + (s + i.toNat) * l.sz + 0 := by rw [← hl3, Nat.add_mul]; omega
        simp [Instr.indexAt, asIntOf, run_underlying hu, h0, h1, (hE.ti e ei hei).size, addr_add, e1]
      · have := VRel.ptr (w := w) (M := Mut N ρ) (i := s + i.toNat) (o := 0) hl1
        rw [hl2, hg] at this
        exact this
    · obtain ⟨_, rfl, rfl, rfl⟩ := VRel.slice_virt hl1 hx
      simp only [Int.natCast_zero] at h1; omega
  · -- an immutable slice
    rename_i e es hk
    have hu := hE.kind hk
    simp only [kindOK] at hu
    split at hi
    case h_2 => cases hi
    rename_i ei hei
    split at hi
    case isFalse => cases hi
    rename_i hc
    obtain ⟨h0, h1, hall⟩ := hc
    simp only [Option.map_eq_some_iff] at hi
    obtain ⟨e', he', rfl⟩ := hi
    cases hx with
    | lst0 a cap => simp at he'
    | @lst _ sz' _ cb off n cap val hn hcap hM hlt hs hc hv =>
      subst hn
      have hsz : sz' = ei.size := by
        rw [← hs _ _ he']
        simpa using List.all_eq_true.1 hall e' (List.mem_of_getElem? he')
      subst hsz
      refine ⟨.pointer (some ⟨cb, off + i.toNat * ei.size + 0, none⟩), ?_, ?_⟩
      · simp [Instr.indexAt, asIntOf, run_underlying hu, h0, h1, (hE.ti e ei hei).size, addr_add]
      · exact .iptr (val i.toNat) hM hlt (fun j c hj => hc _ j _ c he' hj) (fun j c hj => hv _ j _ c he' hj)
  · -- an array in memory
    rename_i n e b g j o hk
    have hu := hE.kind hk
    simp only [kindOK] at hu
    split at hi
    case h_2 => cases hi
    rename_i ei hei
    split at hi
    case isFalse => cases hi
    rename_i hc
    obtain ⟨h0, h1⟩ := hc
    cases hi
    have hrun : ∀ a : Addr, (Instr.indexAt t (.pointer (some a)) (.int k i)).run P w = .ok (.pointer (some (a.add (i.toNat * ei.size)))) w := fun a => by
      simp [Instr.indexAt, asIntOf, run_underlying hu, h0, h1, (hE.ti e ei hei).size, Instr.sureAddr]
    cases hx with
    | ptr h1 =>
      refine ⟨_, hrun _, ?_⟩
      rw [addr_add, Nat.add_assoc]
      exact .ptr h1
    | ptrOld a h1 h2 => exact ⟨_, hrun _, .ptrOld _ h1 h2⟩
  · cases hi
theorem index_run (hE : EnvOK P E) {M : Nat → Prop} {t : TypeId} {x ix v : AV} {cx ci : Value} (hi : indexA E t x ix = some v) (hx : VRel w M ρ x cx) (hix : VRel w M ρ ix ci) :
    ∃ r, (Instr.index t cx ci).run P w = .ok r w ∧ VRel w M ρ v r := by
  unfold indexA at hi
  split at hi
  case h_2 => cases hi
  rename_i k i
  rw [hix.int_inv]
  split at hi
  · rename_i n e cs hk
    have hu := hE.kind hk
    simp only [kindOK] at hu
    split at hi
    case h_2 => cases hi
    rename_i ei hei
    split at hi
    case isFalse => cases hi
    rename_i hc
    obtain ⟨h0, h1⟩ := hc
    obtain ⟨vs, rfl, hn, hv⟩ := hx.agg_inv
    obtain ⟨r, hr, hrel⟩ := part_rel hE hei hn hv hi
    exact ⟨r, by simp [Instr.index, asIntOf, run_underlying hu, h0, h1, (hE.ti e ei hei).size, hr], hrel⟩
  · rename_i s hk
    have hu := hE.kind hk
    simp only [kindOK] at hu
    rw [hx.str_inv]
    split at hi
    case isFalse => cases hi
    rename_i h0
    simp only [Option.map_eq_some_iff] at hi
    obtain ⟨b, hb, rfl⟩ := hi
    have hb' : s[i.toNat]? = some b := by
      have hlt : i.toNat < s.size := by
        have := (List.getElem?_eq_some_iff.1 hb).1
        simpa using this
      rw [getElem?_pos s i.toNat hlt]
      have := (List.getElem?_eq_some_iff.1 hb).2
      rw [← this]
      rfl
    exact ⟨.int .u8 b.toNat, by simp [Instr.index, asIntOf, run_underlying hu, h0, hb'], .int _ _⟩
  · cases hi

/-! ### Cuts -/
theorem bound_run {lo hi n : Nat} {x : AV} {M : Nat → Prop} {cx : Value} (hb : inBound 0 (hi : Int) x = some n) (hx : VRel w M ρ x cx) (hle : hi ≤ lo) (code : BoundsCode) : (Instr.sliceBound cx lo code).run P w = .ok n w ∧ n ≤ hi := by
  unfold inBound at hb
  split at hb
  · rename_i k i
    rw [hx.int_inv]
    split at hb
    · rename_i hc
      cases hb
      obtain ⟨h0, h1⟩ := hc
      have h2 : i ≤ (lo : Int) := by omega
      refine ⟨by simp [Instr.sliceBound, asIntOf, h0, h2], by omega⟩
    · cases hb
  · cases hb
theorem bounds_run {len cap n : Nat} (isSlice : Bool) {lo hi : Option AV} {M : Nat → Prop} {cl ch : Option Value} {a b : Nat} (hn : n ≤ cap) (hlen : len ≤ n)
    (hh : (match hi with | none => some len | some v => inBound 0 (n : Int) v) = some b) (hl : (match lo with | none => some 0 | some v => inBound 0 (b : Int) v) = some a)
    (rl : ∀ v, lo = some v → ∃ c, cl = some c ∧ VRel w M ρ v c) (nl : lo = none → cl = none) (rh : ∀ v, hi = some v → ∃ c, ch = some c ∧ VRel w M ρ v c) (nh : hi = none → ch = none) :
    (Instr.sliceBounds isSlice len cap cl ch none).run P w = .ok (a, b, cap) w ∧ a ≤ b ∧ b ≤ n := by
  have hH : (match (generalizing := false) ch with | some v => Instr.sliceBound v cap (if isSlice then .sliceAcap else .sliceAlen) | none => pure len : Sem Nat).run P w = .ok b w ∧ b ≤ n := by
    cases hi with
    | none => rw [nh rfl]; simp only [Option.some.injEq] at hh; subst hh; exact ⟨rfl, hlen⟩
    | some v =>
      obtain ⟨c, rfl, hr⟩ := rh v rfl
      exact bound_run hh hr hn _
  have hL : (match (generalizing := false) cl with | some v => Instr.sliceBound v b .sliceB | none => pure 0 : Sem Nat).run P w = .ok a w ∧ a ≤ b := by
    cases lo with
    | none => rw [nl rfl]; simp only [Option.some.injEq] at hl; subst hl; exact ⟨rfl, Nat.zero_le _⟩
    | some v =>
      obtain ⟨c, rfl, hr⟩ := rl v rfl
      exact bound_run hl hr (Nat.le_refl _) _
  refine ⟨?_, hL.2, hH.2⟩
  have h1 := hH.1
  have h2 := hL.1
  cases ch <;> cases cl <;> simp only [Instr.sliceBounds, Sem.run_bind, Sem.run_pure, Result.andThen_ok] at h1 h2 ⊢ <;> simp_all
theorem slice_run (hE : EnvOK P E) (H : HRel N base ρ h w) {t : TypeId} {x v : AV} {lo hi mx : Option AV} {cx : Value} {cl ch cm : Option Value} (hs : sliceA E t h x lo hi mx = some v) (hx : VRel w (Mut N ρ) ρ x cx)
    (rl : ∀ v, lo = some v → ∃ c, cl = some c ∧ VRel w (Mut N ρ) ρ v c) (nl : lo = none → cl = none) (rh : ∀ v, hi = some v → ∃ c, ch = some c ∧ VRel w (Mut N ρ) ρ v c) (nh : hi = none → ch = none)
    (rm : ∀ v, mx = some v → ∃ c, cm = some c ∧ VRel w (Mut N ρ) ρ v c) (nm : mx = none → cm = none) :
    ∃ r, (Instr.sliceAt t cx cl ch cm).run P w = .ok r w ∧ VRel w (Mut N ρ) ρ v r := by
  unfold sliceA at hs
  split at hs
  · -- a string
    rename_i s hk
    have hu := hE.kind hk
    simp only [kindOK] at hu
    rw [hx.str_inv]
    split at hs
    · cases hs
    rename_i hm
    rw [nm rfl]
    simp only [Option.bind_eq_some_iff] at hs
    obtain ⟨b, hb, a, ha, hv⟩ := hs
    cases hv
    obtain ⟨hrun, _, _⟩ := bounds_run (P := P) (n := s.size) (cap := s.size) false (Nat.le_refl _) (Nat.le_refl _) hb ha rl nl rh nh
    exact ⟨_, by simp [Instr.sliceAt, Instr.slice, run_underlying hu, hrun], .str _⟩
  · rename_i x e hk
    have hu := hE.kind hk
    simp only [kindOK] at hu
    split at hs
    · cases hs
    rename_i ei hei
    have hsize := fun w => (hE.ti e ei hei).size w
    split at hs
    · -- 'x[:0:0]'
      rename_i m
      obtain ⟨cm', rfl, hcm⟩ := rm _ rfl
      split at hs
      case h_2 => cases hs
      rename_i k1 k2
      obtain ⟨ch', rfl, hch⟩ := rh _ rfl
      rw [nl rfl, hcm.int_inv, hch.int_inv]
      have hrun : ∀ (a : Option Addr) (len cap : Nat), (Instr.sliceAt t (.slice a len cap) none (some (.int k2 0)) (some (.int k1 0))).run P w = .ok (.slice a 0 0) w := fun a len cap => by
        simp [Instr.sliceAt, Instr.slice, run_underlying hu, Instr.sliceBounds, Instr.sliceBound, asIntOf, hsize]
      split at hs
      · cases hs; cases hx; exact ⟨_, hrun _ _ _, .emp _⟩
      · cases hs; cases hx; exact ⟨_, hrun _ _ _, .emp _⟩
      · cases hs; cases hx <;> exact ⟨_, hrun _ _ _, .emp _⟩
      · cases hs; cases hx <;> exact ⟨_, hrun _ _ _, .emp _⟩
      · cases hs
    · rw [nm rfl]
      have hrun : ∀ {a : Option Addr} {len cap n p q : Nat}, n ≤ cap → len ≤ n → (match (generalizing := false) hi with | none => some len | some v => inBound 0 (n : Int) v) = some q → (match (generalizing := false) lo with | none => some 0 | some v => inBound 0 (q : Int) v) = some p →
          (Instr.sliceAt t (.slice a len cap) cl ch none).run P w = .ok (.slice (if cap = p then a else a.map (·.add (p * ei.size))) (q - p) (cap - p)) w ∧ p ≤ q ∧ q ≤ n := by
        intro a len cap n p q h1 h2 h3 h4
        obtain ⟨hr, h5, h6⟩ := bounds_run (P := P) true h1 h2 h3 h4 rl nl rh nh
        exact ⟨by simp [Instr.sliceAt, Instr.slice, run_underlying hu, hr, hsize], h5, h6⟩
      simp only at hs
      split at hs
      · -- nil
        simp only [Option.bind_eq_some_iff] at hs
        obtain ⟨b, hb, a, ha, hv⟩ := hs
        cases hv; cases hx
        obtain ⟨hr, h1, h2⟩ := hrun (a := none) (Nat.le_refl 0) (Nat.le_refl 0) hb ha
        obtain ⟨rfl, rfl⟩ : a = 0 ∧ b = 0 := by omega
        exact ⟨_, hr, .nil⟩
      · simp only [Option.bind_eq_some_iff] at hs
        obtain ⟨b, hb, a, ha, hv⟩ := hs
        cases hv
        cases hx with
        | emp ad =>
          obtain ⟨hr, h1, h2⟩ := hrun (a := ad) (Nat.le_refl 0) (Nat.le_refl 0) hb ha
          obtain ⟨rfl, rfl⟩ : a = 0 ∧ b = 0 := by omega
          exact ⟨_, hr, by simpa using VRel.emp ad⟩
      · -- an immutable slice
        rename_i es
        split at hs
        case isFalse => cases hs
        rename_i hall
        simp only [Option.bind_eq_some_iff] at hs
        obtain ⟨b, hb, a, ha, hv⟩ := hs
        cases hv
        cases hx with
        | lst0 ad cap =>
          obtain ⟨hr, h1, h2⟩ := hrun (a := ad) (Nat.zero_le cap) (Nat.le_refl 0) hb ha
          obtain ⟨rfl, rfl⟩ : a = 0 ∧ b = 0 := by omega
          exact ⟨_, hr, by simpa using VRel.lst0 _ _⟩
        | @lst _ sz' _ cb off n cap val hn hcap hM hlt hs hc hv =>
          subst hn
          obtain ⟨hr, h1, h2⟩ := hrun (a := some ⟨cb, off, none⟩) hcap (Nat.le_refl _) hb ha
          refine ⟨_, hr, ?_⟩
          by_cases he : ((es.take b).drop a) = []
          · have hba : b - a = 0 := by
              have := congrArg List.length he
              simp only [List.length_drop, List.length_take, List.length_nil] at this
              omega
            rw [he, hba]
            exact .lst0 _ _
          · have hlen : ((es.take b).drop a).length = b - a := by simp; omega
            have hpos : 0 < b - a := by rw [← hlen]; exact List.length_pos_iff.2 he
            rw [if_neg (by omega)]
            have hget : ∀ (i : Nat) (x : AV), ((es.take b).drop a)[i]? = some x → es[a + i]? = some x := fun i x hi => by
              rw [List.getElem?_drop, List.getElem?_take] at hi
              split at hi
              · exact hi
              · cases hi
            have hsz : sz' = ei.size := by
              have h0 := List.getElem?_eq_getElem (show a < es.length by omega)
              rw [← hs _ _ h0]
              simpa using List.all_eq_true.1 hall _ (List.getElem_mem (show a < es.length by omega))
            subst hsz
            simp only [Option.map_some, addr_add]
            refine .lst (fun i j => val (a + i) j) hlen (by omega) hM hlt (fun i e hi => hs _ _ (hget i e hi)) (fun i j e c hi hj => ?_) (fun i j e c hi hj => hv _ j e c (hget i e hi) hj)
            have := hc (a + i) j e c (hget i e hi) hj
            rwa [Nat.add_mul, ← Nat.add_assoc] at this
      · -- a row
        rename_i b g s n
        split at hs
        case h_2 => cases hs
        rename_i ro z es hb
        split at hs
        case isFalse => cases hs
        rename_i hc
        obtain ⟨rfl, hg⟩ := hc
        simp only [Option.bind_eq_some_iff] at hs
        obtain ⟨q, hq, p, hp, hv⟩ := hs
        cases hv
        rcases H.row hb with ⟨l, hl1, hl2, hl3, hr⟩ | ⟨hl1, rfl, _, _⟩
        · have hfits := hr.fits
          rcases VRel.slice_old hl1 (by omega) hx with ⟨rfl, hsn⟩ | ⟨a, rfl, rfl, h1, h2⟩
          · obtain ⟨hrr, h1, h2⟩ := hrun (a := some ⟨l.cb, l.co + s * l.sz, none⟩) (n := g - s) (cap := l.cap - s) (by omega) (by omega) hq hp
            refine ⟨_, hrr, ?_⟩
            by_cases hcp : l.cap - s = p
            · rw [if_pos hcp]
              obtain rfl : q = p := by omega
              rw [Nat.sub_self, hcp, Nat.sub_self]
              have := VRel.refEnd (w := w) (M := Mut N ρ) (some ⟨l.cb, l.co + s * l.sz, none⟩) hl1 (s := s + q) (by omega) (by omega)
              rw [hl2, hg] at this
              exact this
            · rw [if_neg hcp]
              simp only [Option.map_some, addr_add]
              have := VRel.ref (w := w) (M := Mut N ρ) hl1 (s := s + p) (n := q - p) (by omega) (by omega)
              rw [hl2, hg, hl3] at this
              have e1 : l.co + s * l.sz + p * ei.size = l.co + (s + p) * ei.size := by rw [← hl3, Nat.add_mul]; omega
              have e2 : l.cap - s - p = l.cap - (s + p) := by omega
              rw [e1, e2]
              exact this
          · obtain ⟨hrr, h3, h4⟩ := hrun (a := a) (n := g - s) (cap := 0) (by omega) (by omega) hq hp
            obtain ⟨rfl, rfl⟩ : q = 0 ∧ p = 0 := by omega
            refine ⟨_, hrr, ?_⟩
            simpa using hx
        · obtain ⟨⟨a, rfl⟩, rfl, rfl, rfl⟩ := VRel.slice_virt hl1 hx
          obtain ⟨hrr, h3, h4⟩ := hrun (a := a) (n := 0 - 0) (cap := 0) (by omega) (by omega) hq hp
          obtain ⟨rfl, rfl⟩ : q = 0 ∧ p = 0 := by omega
          refine ⟨_, hrr, ?_⟩
          simpa using hx
      · cases hs
  · cases hs
end
end Go.Abs
