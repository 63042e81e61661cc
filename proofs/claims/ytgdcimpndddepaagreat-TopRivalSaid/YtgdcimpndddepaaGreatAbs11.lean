/- Maps, lengths, the rest; all operations together. -/
import Derived.Test.YtgdcimpndddepaaGreatAbs10
import Derived.MapKept
namespace Go.Abs
noncomputable section
open Go.MapKept (run_findKey bytes_beq)
variable {P : Program} {E : Env} {w : World} {N : Nat → Prop} {ρ : RMap} {base : Nat} {h : Heap}

/-! ### Maps -/
def descOf : TK → Option TypeDesc
  | .int k => some (.int k)
  | .str => some .string
  | .bool => some .bool
  | _ => none
theorem keyIs_desc {M : Nat → Prop} {t : TypeId} {tk : TK} {k : AV} {ck : Value} (hk : kindOK P t tk) (hi : keyIs tk k = true) (hr : VRel w M ρ k ck) :
    ∃ d, descOf tk = some d ∧ P.underlying t = some d ∧ ∀ e n, (Instr.checkKey e (n + 1) t ck).run P w = .ok () w := by
  cases tk <;> cases k <;> simp only [keyIs] at hi <;> try (cases hi; done)
  all_goals
    simp only [kindOK] at hk
    refine ⟨_, rfl, hk, fun e n => ?_⟩
    unfold Instr.checkKey
    simp only [Sem.run_bind, run_underlying hk, Result.andThen_ok]
    cases hr
    rfl
theorem sameKey_now {M : Nat → Prop} {tk : TK} {d : TypeDesc} (hd : descOf tk = some d) {k q : AV} {ck cq : Value} (hk : VRel w M ρ k ck) (hq : VRel w M ρ q cq) {b : Bool} (h : sameKey tk k q = some b) : Instr.sameNow d ck cq = some b := by
  cases tk <;> simp only [descOf, Option.some.injEq] at hd <;> try (cases hd; done)
  all_goals
    subst hd
    cases k <;> cases q <;> simp only [sameKey] at h <;> try (cases h; done)
    cases hk; cases hq
    simpa [Instr.sameNow] using h
theorem findA_now {M : Nat → Prop} {tk : TK} {d : TypeDesc} (hd : descOf tk = some d) {k : AV} {ck : Value} (hk : VRel w M ρ k ck) : ∀ (es : List (AV × AV)) (xs : List MapEntry) (i : Nat), xs.length = es.length →
    (∀ (i : Nat) (k v : AV), es[i]? = some (k, v) → ∃ x, xs[i]? = some x ∧ VRel w M ρ k x.key ∧ VRel w M ρ v x.val) → ∀ r, findA tk k es i = some r →
    match r with
    | none => Instr.findNow d ck xs i = some none
    | some (j, v) => ∃ q x, i ≤ j ∧ es[j - i]? = some (q, v) ∧ xs[j - i]? = some x ∧ sameKey tk k q = some true ∧ VRel w M ρ q x.key ∧ VRel w M ρ v x.val ∧ Instr.findNow d ck xs i = some (some (j, x.val)) := by
  intro es
  induction es with
  | nil =>
    intro xs i hl _ r hr
    simp only [findA, Option.some.injEq] at hr; subst hr
    obtain rfl : xs = [] := List.eq_nil_of_length_eq_zero (by simpa using hl)
    rfl
  | cons a es ih =>
    intro xs i hl hrel r hr
    obtain ⟨q, v⟩ := a
    obtain ⟨x, hx, h1, h2⟩ := hrel 0 q v rfl
    cases xs with
    | nil => simp at hx
    | cons x' xs =>
      simp only [List.getElem?_cons_zero, Option.some.injEq] at hx; subst hx
      simp only [findA] at hr
      cases hs : sameKey tk k q with
      | none => simp [hs] at hr
      | some b =>
        have hn := sameKey_now hd hk h1 hs
        cases b with
        | true =>
          simp only [hs, Option.some.injEq] at hr; subst hr
          exact ⟨q, x', Nat.le_refl _, by simp, by simp, hs, h1, h2, by simp [Instr.findNow, hn]⟩
        | false =>
          simp only [hs] at hr
          have := ih xs (i + 1) (by simpa using hl) (fun j k v hj => by simpa using hrel (j + 1) k v (by simpa using hj)) r hr
          cases r with
          | none => simpa [Instr.findNow, hn] using this
          | some p =>
            obtain ⟨j, u⟩ := p
            obtain ⟨q', y, g1, g2, g3, g4, g5, g6, g7⟩ := this
            refine ⟨q', y, by omega, ?_, ?_, g4, g5, g6, by simpa [Instr.findNow, hn] using g7⟩
            · have : j - i = j - (i + 1) + 1 := by omega
              rw [this, List.getElem?_cons_succ]; exact g2
            · have : j - i = j - (i + 1) + 1 := by omega
              rw [this, List.getElem?_cons_succ]; exact g3
theorem lookup_run (hE : EnvOK P E) (H : HRel N base ρ h w) {t : TypeId} {x k v : AV} {ok : Bool} {cx ck : Value} (hl : lookupA E t h x k ok = some v) (hx : VRel w (Mut N ρ) ρ x cx) (hk : VRel w (Mut N ρ) ρ k ck) :
    ∃ r, (Instr.lookup t cx ck ok).run P w = .ok r w ∧ VRel w (Mut N ρ) ρ v r := by
  unfold lookupA at hl
  split at hl
  case h_2 => cases hl
  rename_i kt et hkd
  have hu := hE.kind hkd
  simp only [kindOK] at hu
  split at hl
  case h_2 => cases hl
  rename_i ki ei hki hei
  split at hl
  case isFalse => cases hl
  rename_i hkey
  obtain ⟨d, hd, hkt, hck⟩ := keyIs_desc (w := w) (hE.ti kt ki hki).kind hkey hk
  obtain ⟨zv, hz, hzs, hzr⟩ := zero_run hE hei
  simp only [Option.bind_eq_some_iff, Option.map_eq_some_iff] at hl
  obtain ⟨es, hes, r, hr, hv⟩ := hl
  have key : ∀ (xs : Array MapEntry), xs.size = es.length → (∀ (i : Nat) (k v : AV), es[i]? = some (k, v) → ∃ x, xs[i]? = some x ∧ VRel w (Mut N ρ) ρ k x.key ∧ VRel w (Mut N ρ) ρ v x.val) →
      ∃ rr : Option (Nat × Value), (Instr.findKey kt ck xs.toList).run P w = .ok rr w ∧ ∃ y, (rr = none ∧ y = zv ∧ r = none ∨ ∃ j, rr = some (j, y) ∧ r.isSome = true) ∧ VRel w (Mut N ρ) ρ (orZ ei.zero r) y := by
    intro xs hlen hrel
    have hf := findA_now hd hk es xs.toList 0 (by simpa using hlen) (fun i k v hi => by simpa using hrel i k v hi) r hr
    cases r with
    | none => exact ⟨none, run_findKey (w := w) hkt hf, zv, .inl ⟨rfl, rfl, rfl⟩, hzr _ _ _⟩
    | some p =>
      obtain ⟨j, u⟩ := p
      obtain ⟨q, y, _, _, _, _, _, hy, hf⟩ := hf
      exact ⟨_, run_findKey (w := w) hkt hf, y.val, .inr ⟨j, rfl, rfl⟩, hy⟩
  have fin : ∀ (y : Value) (b : Bool), b = r.isSome → VRel w (Mut N ρ) ρ (orZ ei.zero r) y → VRel w (Mut N ρ) ρ v (if ok then .tuple #[y, .bool b] else y) := by
    intro y b hb hy
    subst hv hb
    cases ok with
    | false => exact hy
    | true =>
      refine .tup (by simp) fun i c hi => ?_
      match i with
      | 0 => simp at hi; subst hi; exact hy
      | 1 => simp at hi; subst hi; exact .bool _
      | i + 2 => simp at hi
  have run : ∀ (xs : Array MapEntry), (cx = .map none ∧ xs = #[] ∨ ∃ r c, cx = .map (some r) ∧ w.heap[r]? = some (.map xs c)) → xs.size = es.length → (∀ (i : Nat) (k v : AV), es[i]? = some (k, v) → ∃ x, xs[i]? = some x ∧ VRel w (Mut N ρ) ρ k x.key ∧ VRel w (Mut N ρ) ρ v x.val) →
      ∃ r, (Instr.lookup t cx ck ok).run P w = .ok r w ∧ VRel w (Mut N ρ) ρ v r := by
    intro xs hcx hlen hrel
    obtain ⟨rr, h1, y, h2, h3⟩ := key xs hlen hrel
    refine ⟨_, ?_, fin y r.isSome rfl h3⟩
    rcases hcx with ⟨rfl, rfl⟩ | ⟨q, c, rfl, hblk⟩
    · rcases h2 with ⟨rfl, rfl, h4⟩ | ⟨j, rfl, h4⟩ <;>
        simp only [Instr.lookup, Sem.run_bind, run_underlying hu, Result.andThen_ok, Sem.run_pure, hck, h1, hz, h4] <;> rfl
    · have hg := Go.MapKept.run_getObj_map (P := P) hblk
      rcases h2 with ⟨rfl, rfl, h4⟩ | ⟨j, rfl, h4⟩ <;>
        simp only [Instr.lookup, Sem.run_bind, run_underlying hu, Result.andThen_ok, Sem.run_pure, hck, h1, hz, h4, hg] <;> rfl
  unfold entriesA at hes
  split at hes
  · cases hes
    cases hx
    exact run #[] (.inl ⟨rfl, rfl⟩) rfl (fun i k v hi => by simp at hi)
  · rename_i b
    split at hes
    case h_2 => cases hes
    rename_i ro es' hb
    cases hes
    obtain ⟨r, hρ, hm⟩ := H.mapAt hb
    obtain ⟨xs, clock, hblk, hlen, hrel⟩ := hm.block
    cases hx with
    | map hx' =>
      rw [hρ] at hx'; cases hx'
      exact run xs (.inr ⟨_, _, rfl, hblk⟩) hlen hrel
  · cases hes
/-- The entries of a map change. -/
theorem HRel.writeMap (H : HRel N base ρ h w) {b r : Nat} {es es' : List (AV × AV)} (hb : h[b]? = some (.map false es)) (hρ : ρ b = some (.map false r)) {xs xs' : Array MapEntry} {c c' : Nat} (hblk : w.heap[r]? = some (.map xs c)) (hlen : xs'.size = es'.length)
    (hrel : ∀ (i : Nat) (k v : AV), es'[i]? = some (k, v) → ∃ x, xs'[i]? = some x ∧ VRel w (Mut N ρ) ρ k x.key ∧ VRel w (Mut N ρ) ρ v x.val) :
    HRel N base ρ (h.set b (.map false es')) { w with heap := w.heap.setIfInBounds r (.map xs' c') } ∧ Adv ρ w ρ { w with heap := w.heap.setIfInBounds r (.map xs' c') } := by
  have hlt : r < w.heap.size := (Array.getElem?_eq_some_iff.1 hblk).1
  have hadv : Adv ρ w ρ { w with heap := w.heap.setIfInBounds r (.map xs' c') } := by
    refine ⟨.refl ρ, by simp, fun k hk hn => ?_, fun k hk ho => ho, rfl, rfl, rfl⟩
    have : r ≠ k := fun he => hn ⟨b, _, hρ, he⟩
    simp [Array.getElem?_setIfInBounds_ne this]
  refine ⟨H.step b hadv (fun _ _ => rfl) (fun k hk => .inl (set_other hk)) (fun k hk hn => ?_) ⟨.map false es', set_get hb, by simp, ?_⟩ (fun k hk => .inl hk), hadv⟩
  · have : r ≠ k := fun he => hn ⟨_, hρ, by simp [Loc.block, he]⟩
    simp [Array.getElem?_setIfInBounds_ne this]
  · refine .map hρ ⟨(H.lies ⟨_, hρ, rfl⟩).1, xs', c', by simp [hlt], hlen, fun i k v hi => ?_⟩
    obtain ⟨x, h1, h2, h3⟩ := hrel i k v hi
    exact ⟨x, h1, h2.adv hadv, h3.adv hadv⟩
theorem stays_run {M : Nat → Prop} {tk : TK} {k q : AV} {ck cq : Value} (hk : VRel w M ρ k ck) (hq : VRel w M ρ q cq) (h : sameKey tk k q = some true) : (Instr.keyThatStays cq ck).run P w = .ok ck w := by
  have : Instr.sameBits 10000 cq ck = true := by
    cases tk <;> cases k <;> cases q <;> simp only [sameKey] at h <;> try (cases h; done)
    all_goals
      cases hk; cases hq
      first
        | (rw [Option.some.injEq, bytes_beq] at h; subst h; simp only [Instr.sameBits]; exact (bytes_beq _ _).2 rfl)
        | simp_all [Instr.sameBits]
  simp [Instr.keyThatStays, this]
theorem mapUpdate_run (hE : EnvOK P E) (H : HRel N base ρ h w) {t : TypeId} {m k v : AV} {h' : Heap} {cm ck cv : Value} (hu : mapUpdateA E t h m k v = some h') (hm : VRel w (Mut N ρ) ρ m cm) (hk : VRel w (Mut N ρ) ρ k ck) (hv : VRel w (Mut N ρ) ρ v cv) :
    ∃ w', (Instr.mapUpdate t cm ck cv).run P w = .ok () w' ∧ HRel N base ρ h' w' ∧ Adv ρ w ρ w' := by
  unfold mapUpdateA at hu
  split at hu
  case h_2 => cases hu
  rename_i kt et hkd
  have hun := hE.kind hkd
  simp only [kindOK] at hun
  split at hu
  case h_2 => cases hu
  rename_i ki b hki
  split at hu
  case isFalse => cases hu
  rename_i hkey
  split at hu
  case h_2 => cases hu
  rename_i es hb
  obtain ⟨d, hd, hkt, hck⟩ := keyIs_desc (w := w) (hE.ti kt ki hki).kind hkey hk
  simp only [Option.map_eq_some_iff] at hu
  obtain ⟨r, hr, hh⟩ := hu
  obtain ⟨q, hρ, hma⟩ := H.mapAt hb
  obtain ⟨xs, clock, hblk, hlen, hrel⟩ := hma.block
  have hf := findA_now hd hk es xs.toList 0 (by simpa using hlen) (fun i k v hi => by simpa using hrel i k v hi) r hr
  cases hm with
  | map hm' =>
    rw [hρ] at hm'; cases hm'
    cases r with
    | none =>
      have hrun := run_findKey (w := w) hkt hf
      obtain ⟨g1, g2⟩ := H.writeMap hb hρ hblk (es' := es ++ [(k, v)]) (xs' := xs.push { key := ck, val := cv, born := clock }) (c' := clock + 1) (by simp [hlen]) (fun i k' v' hi => by
        by_cases hlt : i < es.length
        · rw [List.getElem?_append_left hlt] at hi
          obtain ⟨x, h1, h2⟩ := hrel i k' v' hi
          exact ⟨x, by rw [Array.getElem?_push, if_neg (by omega)]; exact h1, h2⟩
        · rw [List.getElem?_append_right (by omega)] at hi
          cases hj : i - es.length with
          | zero =>
            simp only [hj, List.getElem?_cons_zero, Option.some.injEq, Prod.mk.injEq] at hi
            obtain ⟨rfl, rfl⟩ := hi
            exact ⟨_, by rw [Array.getElem?_push, if_pos (by omega)], hk, hv⟩
          | succ j => simp [hj] at hi)
      refine ⟨_, ?_, hh ▸ g1, g2⟩
      unfold Instr.mapUpdate
      simp only [Sem.run_bind, run_underlying hun, Result.andThen_ok, Go.MapKept.run_getObj_map hblk, hck, hrun, Go.MapKept.run_setObj_map _ hblk]
    | some p =>
      obtain ⟨j, u⟩ := p
      obtain ⟨q', y, _, he, hy, hsame, hq1, hq2, hf⟩ := hf
      have hrun := run_findKey (w := w) hkt hf
      simp only [Nat.sub_zero] at he hy
      have hy' : xs[j]? = some y := by simpa using hy
      have hst := stays_run (P := P) hk hq1 hsame
      obtain ⟨g1, g2⟩ := H.writeMap hb hρ hblk (es' := es.set j (k, v)) (xs' := xs.modify j fun e => { e with key := ck, val := cv }) (c' := clock) (by simp [hlen]) (fun i k' v' hi => by
        by_cases hij : i = j
        · subst hij
          have hlt : i < es.length := (List.getElem?_eq_some_iff.1 he).1
          rw [List.getElem?_set_self hlt] at hi
          simp only [Option.some.injEq, Prod.mk.injEq] at hi
          obtain ⟨rfl, rfl⟩ := hi
          exact ⟨_, by rw [Array.getElem?_modify, if_pos rfl, hy']; rfl, hk, hv⟩
        · rw [List.getElem?_set_ne (Ne.symm hij)] at hi
          obtain ⟨x, h1, h2⟩ := hrel i k' v' hi
          exact ⟨x, by rw [Array.getElem?_modify, if_neg (Ne.symm hij)]; exact h1, h2⟩)
      refine ⟨_, ?_, hh ▸ g1, g2⟩
      unfold Instr.mapUpdate
      simp only [Sem.run_bind, run_underlying hun, Result.andThen_ok, Go.MapKept.run_getObj_map hblk, hck, hrun, hy', Option.map_some, Option.getD_some, hst, Go.MapKept.run_setObj_map _ hblk]
theorem len_run (hE : EnvOK P E) (H : HRel N base ρ h w) {t ty : TypeId} {ts : List TypeId} {k : TK} {x : AV} {n : Int} {cx : Value} (hk : kd E t = some k) (hl : lenA h k x = some n) (hx : VRel w (Mut N ρ) ρ x cx) : (Builtin.len_ (t :: ts).toArray ty #[cx]).run P w = .ok (.int .i64 n) w := by
  have hu := hE.kind hk
  unfold lenA at hl
  split at hl <;> simp only [kindOK] at hu
  case h_7 =>
    rename_i b
    split at hl
    case h_2 => cases hl
    rename_i ro es hb
    cases hl
    obtain ⟨r, hρ, hm⟩ := H.mapAt hb
    obtain ⟨xs, clock, hblk, hlen, hrel⟩ := hm.block
    cases hx with
    | map hx' =>
      rw [hρ] at hx'; cases hx'
      simp [Builtin.len_, run_underlying hu, Go.MapKept.run_getObj_map hblk, hlen, goInt]
  case h_9 => cases hl
  case h_8 =>
    cases hl
    cases cx <;> simp [Builtin.len_, run_underlying hu, goInt]
  all_goals
    cases hl
    cases hx <;> simp_all [Builtin.len_, run_underlying hu, goInt]
end
end Go.Abs
