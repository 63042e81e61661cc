/- append, copy, clear. -/
import Derived.Test.YtgdcimpndddepaaGreatAbs6
namespace Go.Abs
noncomputable section
variable {P : Program} {E : Env} {w : World} {N : Nat → Prop} {ρ : RMap} {base : Nat} {h : Heap}

theorem bytesA_get {s : ByteArray} {i : Nat} {e : AV} (hi : (bytesA s)[i]? = some e) : ∃ b : UInt8, s.data[i]? = some b ∧ e = .int .u8 b.toNat := by
  simp only [bytesA, List.getElem?_map, Option.map_eq_some_iff, Array.getElem?_toList] at hi
  obtain ⟨b, hb, rfl⟩ := hi
  exact ⟨b, hb, rfl⟩
theorem bytesA_length (s : ByteArray) : (bytesA s).length = s.size := by simp [bytesA]
/-- What is appended or copied, as the machine reads it. -/
theorem news_run (H : HRel N base ρ h w) {sz : Nat} {x : AV} {new : List AV} {cx : Value} (hpos : 0 < sz) (hx : newsA h sz x = some new) (hr : VRel w (Mut N ρ) ρ x cx) :
    ∃ news : List Value, (∀ w', (Builtin.lenOf cx).run P w' = .ok new.length w') ∧ news.length = new.length * sz ∧ (∀ (i : Nat) (e : AV), new[i]? = some e → e.cells.length = sz) ∧
      (∀ (i j : Nat) (e c : AV), new[i]? = some e → e.cells[j]? = some c → VRel w (Mut N ρ) ρ c (news.getD (i * sz + j) undef)) ∧
      (∀ w' m, w'.heap = w.heap → m ≤ new.length → (Builtin.firstCells sz m cx).run P w' = .ok (news.take (m * sz)).toArray w') := by
  have slice : ∀ {x : AV}, items h sz x = some new → VRel w (Mut N ρ) ρ x cx → ∃ news : List Value, (∀ w', (Builtin.lenOf cx).run P w' = .ok new.length w') ∧ news.length = new.length * sz ∧ (∀ (i : Nat) (e : AV), new[i]? = some e → e.cells.length = sz) ∧
      (∀ (i j : Nat) (e c : AV), new[i]? = some e → e.cells[j]? = some c → VRel w (Mut N ρ) ρ c (news.getD (i * sz + j) undef)) ∧
      (∀ w' m, w'.heap = w.heap → m ≤ new.length → (Builtin.firstCells sz m cx).run P w' = .ok (news.take (m * sz)).toArray w') := by
    intro x hx hr
    obtain ⟨a, cap, news, rfl, h1, h2, h3, h4⟩ := items_run H hpos hx hr
    refine ⟨news, fun w' => by simp [Builtin.lenOf], h1, h2, h3, fun w' m hw hm => ?_⟩
    by_cases hn : new = []
    · subst hn
      have : news = [] := List.eq_nil_of_length_eq_zero (by simpa using h1)
      subst this
      have : m = 0 := by simpa using hm
      subst this
      cases a with
      | none => simp [Builtin.firstCells]
      | some a => simp [Builtin.firstCells, loadCells, loadCellsFrom]
    · obtain ⟨cb, off, rfl, h5⟩ := h4 hn
      have hlen : (news.take (m * sz)).length = m * sz := by
        have := Nat.mul_le_mul_right sz hm
        simp; omega
      have := run_loadCells_list (P := P) w' ⟨cb, off, none⟩ (news.take (m * sz)) (fun j v hj => by
        rw [addr_add]
        rw [List.getElem?_take] at hj
        split at hj
        · have := h5 j v hj
          simpa [World.cell?, hw] using this
        · cases hj)
      rw [hlen] at this
      simpa [Builtin.firstCells] using this
  cases x with
  | str s =>
    simp only [newsA] at hx
    split at hx
    · rename_i h1
      subst h1
      simp only [Option.some.injEq] at hx; subst hx
      rw [hr.str_inv]
      refine ⟨s.data.toList.map fun b => .int .u8 b.toNat, fun w' => by simp [Builtin.lenOf, bytesA_length], by simp [bytesA], fun i e hi => ?_, fun i j e c hi hj => ?_, fun w' m hw hm => ?_⟩
      · obtain ⟨b, hb, rfl⟩ := bytesA_get hi
        rfl
      · obtain ⟨b, hb, rfl⟩ := bytesA_get hi
        cases j with
        | succ j => simp [AV.cells] at hj
        | zero =>
          simp only [AV.cells, List.getElem?_cons_zero, Option.some.injEq] at hj; subst hj
          have : (s.data.toList.map fun b => Value.int .u8 b.toNat).getD (i * 1 + 0) undef = .int .u8 b.toNat := by
            simp [List.getD_eq_getElem?_getD, hb]
          rw [this]; exact .int _ _
      · simp only [Builtin.firstCells, Sem.run_pure, Nat.mul_one]
        congr 1
        rw [bytesA_length] at hm
        apply Array.ext'
        simp [ByteArray.data_extract]
    · cases hx
  | _ => exact slice (by simpa only [newsA] using hx) hr
theorem xkind_run (hE : EnvOK P E) {xt : TypeId} {xk : TK} (hk : kd E xt = some xk) (hi : ¬ xk.isInt = true) : ∃ d, P.underlying xt = some d ∧ ∀ k, d ≠ .int k := by
  have := hE.kind hk
  cases xk <;> simp only [kindOK] at this
  case int k => simp [TK.isInt] at hi
  case struct fs => obtain ⟨f, h, _⟩ := this; exact ⟨_, h, by simp⟩
  case func => obtain ⟨a, b, c, h⟩ := this; exact ⟨_, h, by simp⟩
  case iface => obtain ⟨ms, h⟩ := this; exact ⟨_, h, by simp⟩
  all_goals exact ⟨_, this, by simp⟩
section
variable {t xt ty e : TypeId} {inf : TypeInfo} {z x : Value} {d : TypeDesc} {n : Nat} {news : List Value} (ht : P.underlying t = some (.slice e)) (hxt : P.underlying xt = some d) (hd : ∀ k, d ≠ .int k)
  (hi : P.info? e = some inf) (hz : inf.zero = some z) (hlen : ∀ w', (Builtin.lenOf x).run P w' = .ok n w') (hfirst : ∀ w', w'.heap = w.heap → (Builtin.firstCells inf.size n x).run P w' = .ok news.toArray w')
 include ht hxt hd hi hlen hfirst
theorem run_append_fits (a : Option Addr) (sLen sCap : Nat) (hroom : sLen + n ≤ sCap) {w' : World} (hst : ∀ ad, a = some ad → (storeCells (ad.add (sLen * inf.size)) news).run P w = .ok () w') (hn : a = none → w' = w) :
    (Builtin.append_ #[t, xt] ty #[.slice a sLen sCap, x]).run P w = .ok (.slice a (sLen + n) sCap) w' := by
  cases a with
  | none =>
    obtain rfl := hn rfl
    simp [Builtin.append_, run_underlying ht, run_underlying hxt, sizeOf, typeInfo, hi, hlen, hroom, hfirst w' rfl]
  | some ad =>
    have := hst ad rfl
    simp [Builtin.append_, run_underlying ht, run_underlying hxt, sizeOf, typeInfo, hi, hlen, hroom, hfirst w rfl, this]
 include hz
theorem run_append_grows (a : Option Addr) (sLen sCap : Nat) (hg : sCap < sLen + n) (h63 : sLen + n ≤ 140737488355328) (hfit : (sLen + n) * inf.bytes ≤ 140737488355328) {olds : List Value}
    (hold : ∀ w', w'.heap = w.heap → (Builtin.firstCells inf.size sLen (.slice a sLen sCap)).run P w' = .ok olds.toArray w') :
    (Builtin.append_ #[t, xt] ty #[.slice a sLen sCap, x]).run P w = .ok (.slice (some ⟨w.heap.size, 0, none⟩) (sLen + n) (grownCap w (sLen + n) sCap e))
      (w.drew.alloc (.cells (olds.toArray ++ news.toArray ++ Builtin.zeroCells z.cells (grownCap w (sLen + n) sCap e - (sLen + n))) e)) := by
  have hn : ¬ (sLen + n ≤ sCap) := by omega
  have h63' : ¬ (9223372036854775807 < ((sLen : Int) + (n : Int))) := by omega
  have h48 := growslice_fits hg hfit
  have h48' : ¬ (281474976710656 < Builtin.nextslicecap (sLen + n) sCap * inf.bytes) := by omega
  have hf := hfirst w.drew rfl
  have ho := hold w.drew rfl
  simp [Builtin.append_, run_underlying ht, run_underlying hxt, sizeOf, typeInfo, zeroValue, hi, hz, hlen, hn, h63', h48', Question.forced, newRow]
  rw [ho]
  simp only [Result.andThen_ok, hf]
  simp [grownCap]
  congr 2
  apply Array.ext'
  simp
end

theorem VRel.slice_old {M : Nat → Prop} {b g q n : Nat} {c : Value} {ro : Bool} {l : RowLoc} (hl : ρ b = some (.row ro l)) (hg : g = l.cur) (hr : VRel w M ρ (.ref b g q n) c) :
    (c = .slice (some ⟨l.cb, l.co + q * l.sz, none⟩) n (l.cap - q) ∧ q + n ≤ g) ∨ (∃ a, c = .slice a 0 0 ∧ n = 0 ∧ q = l.cap ∧ q = g) := by
  cases hr with
  | ref h1 h2 h3 => rw [hl] at h1; cases h1; exact .inl ⟨rfl, h2⟩
  | refEnd a h1 h2 h3 => rw [hl] at h1; cases h1; exact .inr ⟨a, rfl, rfl, h2, h3⟩
  | refVirt a h1 => rw [hl] at h1; cases h1
  | refOld a cap h1 h2 => rw [hl] at h1; cases h1; omega
theorem VRel.slice_virt {M : Nat → Prop} {b g q n : Nat} {c : Value} (hl : ρ b = some .virt) (hr : VRel w M ρ (.ref b g q n) c) : (∃ a, c = .slice a 0 0) ∧ g = 0 ∧ q = 0 ∧ n = 0 := by
  cases hr with
  | ref h1 => rw [hl] at h1; cases h1
  | refEnd a h1 => rw [hl] at h1; cases h1
  | refVirt a h1 => exact ⟨⟨a, rfl⟩, rfl, rfl, rfl⟩
  | refOld a cap h1 => rw [hl] at h1; cases h1
theorem rel_append {M : Nat → Prop} {es new : List AV} {sz : Nat} {olds news : List Value} {extra : Array Value} (hes : ∀ (i : Nat) (e : AV), es[i]? = some e → e.cells.length = sz) (hnew : ∀ (i : Nat) (e : AV), new[i]? = some e → e.cells.length = sz)
    (ho : olds.length = es.length * sz) (hn : news.length = new.length * sz)
    (hc : ∀ (i j : Nat) (e c : AV), es[i]? = some e → e.cells[j]? = some c → VRel w M ρ c (olds.getD (i * sz + j) undef))
    (hd : ∀ (i j : Nat) (e c : AV), new[i]? = some e → e.cells[j]? = some c → VRel w M ρ c (news.getD (i * sz + j) undef)) :
    ∀ (i j : Nat) (e c : AV), (es ++ new)[i]? = some e → e.cells[j]? = some c → VRel w M ρ c ((olds.toArray ++ news.toArray ++ extra).getD (i * sz + j) undef) := by
  intro i j e c hi hj
  have hget : ∀ k, k < olds.length + news.length → (olds.toArray ++ news.toArray ++ extra).getD k undef = if k < olds.length then olds.getD k undef else news.getD (k - olds.length) undef := by
    intro k hk
    simp only [Array.getD_eq_getD_getElem?, List.getD_eq_getElem?_getD]
    rw [Array.getElem?_append_left (by simpa using hk)]
    by_cases h1 : k < olds.length
    · rw [if_pos h1, Array.getElem?_append_left (by simpa using h1)]; simp
    · rw [if_neg h1, Array.getElem?_append_right (by simpa using Nat.le_of_not_lt h1)]; simp
  rw [List.getElem?_append] at hi
  split at hi
  · rename_i h1
    have hjs : j < sz := by rw [← hes i e hi]; exact (List.getElem?_eq_some_iff.1 hj).1
    have := mul_add_lt h1 hjs
    rw [hget _ (by omega), if_pos (by omega)]
    exact hc i j e c hi hj
  · rename_i h1
    have hjs : j < sz := by rw [← hnew _ e hi]; exact (List.getElem?_eq_some_iff.1 hj).1
    have h2 := (List.getElem?_eq_some_iff.1 hi).1
    have h3 := mul_add_lt h2 hjs
    have e1 : i * sz = es.length * sz + (i - es.length) * sz := by rw [← Nat.add_mul]; congr 1; omega
    rw [hget _ (by omega), if_neg (by omega)]
    have e2 : i * sz + j - olds.length = (i - es.length) * sz + j := by omega
    rw [e2]
    exact hd _ j e c hi hj
theorem append_run (hE : EnvOK P E) (H : HRel N base ρ h w) {p : Nat} {ins : Heap → Ent → Heap} (hi : InsOK h p ins) {t xt ty : TypeId} {s x v : AV} {h' : Heap} {cs cx : Value} (ha : appendA E t xt h p ins s x = some (v, h')) (hs : VRel w (Mut N ρ) ρ s cs) (hx : VRel w (Mut N ρ) ρ x cx) :
    ∃ r w' ρ', (Builtin.append_ #[t, xt] ty #[cs, cx]).run P w = .ok r w' ∧ VRel w' (Mut N ρ') ρ' v r ∧ HRel N base ρ' h' w' ∧ Adv ρ w ρ' w' := by
  unfold appendA at ha
  split at ha
  case h_2 => cases ha
  rename_i _ _ e xk hkt hkx
  split at ha
  · cases ha
  rename_i hint
  split at ha
  · cases ha
  rename_i ei hei
  split at ha
  · cases ha
  rename_i hpos
  have hpos : 0 < ei.size := Nat.pos_of_ne_zero hpos
  cases hnew : newsA h ei.size x with
  | none => simp [hnew] at ha
  | some new =>
  simp only [hnew, Option.bind_some] at ha
  have ht := hE.kind hkt
  simp only [kindOK] at ht
  obtain ⟨d, hxt, hd⟩ := xkind_run hE hkx hint
  obtain ⟨inf, hinf, hsz, hby, z, hz, hzo, hzs⟩ := (hE.ti e ei hei).info
  obtain ⟨news, hlen, hnl, hns, hnc, hfirst⟩ := news_run (P := P) H hpos hnew hx
  have hfirst' : ∀ w', w'.heap = w.heap → (Builtin.firstCells inf.size new.length cx).run P w' = .ok news.toArray w' := fun w' hw => by
    have := hfirst w' new.length hw (Nat.le_refl _)
    rw [← hnl, List.take_length] at this
    rw [hsz]; exact this
  -- a source without memory
  have fresh : ∀ (a : Option Addr), cs = .slice a 0 0 → new.length * ei.bytes ≤ 140737488355328 → new.length ≤ 140737488355328 →
      ∃ r w' ρ', (Builtin.append_ #[t, xt] ty #[cs, cx]).run P w = .ok r w' ∧ VRel w' (Mut N ρ') ρ' (.ref p new.length 0 new.length) r ∧ HRel N base ρ' (ins h (Ent.row false ei.size new)) w' ∧ Adv ρ w ρ' w' := by
    intro a hcs hb hb'
    subst hcs
    by_cases hn0 : new = []
    · subst hn0
      have hnews : news = [] := List.eq_nil_of_length_eq_zero (by simpa using hnl)
      subst hnews
      obtain ⟨h1, h2⟩ := H.newVirt hi hpos
      refine ⟨_, _, _, run_append_fits ht hxt hd hinf hlen hfirst' a 0 0 (by simp) (w' := w) (fun ad _ => rfl) (fun _ => rfl), ?_, h1, h2⟩
      exact .refVirt a (upd_self ρ p _)
    · have hn1 : 0 < new.length := List.length_pos_iff.2 hn0
      have hold : ∀ w', w'.heap = w.heap → (Builtin.firstCells inf.size 0 (.slice a 0 0)).run P w' = .ok ([] : List Value).toArray w' := fun w' _ => by
        cases a <;> simp [Builtin.firstCells, loadCells, loadCellsFrom]
      have hrun := run_append_grows (ty := ty) ht hxt hd hinf hz hlen hfirst' a 0 0 (by omega) (by omega) (by rw [hby]; simpa using hb) hold
      have hge := grownCap_ge w (0 + new.length) 0 e
      have key := H.newRow hi (w' := w.drew.alloc (.cells (([] : List Value).toArray ++ news.toArray ++ Builtin.zeroCells z.cells (grownCap w (0 + new.length) 0 e - (0 + new.length))) e)) (cap := grownCap w (0 + new.length) 0 e) (es := new) (sz := ei.size)
        rfl rfl rfl rfl hpos (by omega) (by
          simp only [Array.size_append, List.size_toArray, List.length_nil, size_zeroCells, hzs, hnl]
          rw [Nat.sub_mul]
          have := Nat.mul_le_mul_right ei.size hge
          simp only [Nat.zero_add] at this ⊢
          omega) hns (fun i j x c hi hj => by
          have := rel_append (w := w) (ρ := ρ) (M := Mut N ρ) (es := []) (new := new) (sz := ei.size) (olds := []) (news := news) (extra := Builtin.zeroCells z.cells (grownCap w (0 + new.length) 0 e - (0 + new.length))) (by simp) hns (by simp) hnl (by simp) hnc i j x c (by simpa using hi) hj
          exact this)
      refine ⟨_, _, _, hrun, ?_, key.1, key.2.1⟩
      have := key.2.2 0 new.length (by omega)
      simpa using this
  cases s with
  | nil =>
    simp only at ha
    split at ha
    · rename_i hb
      cases ha; cases hs
      exact fresh none rfl hb.1 hb.2
    · cases ha
  | emp =>
    simp only at ha
    split at ha
    · rename_i hb
      cases ha
      cases hs with
      | emp a => exact fresh a rfl hb.1 hb.2
    · cases ha
  | ref b g q n =>
    simp only at ha
    cases hb : h[b]? with
    | none => simp [hb] at ha
    | some ent =>
      cases ent with
      | map ro es => simp [hb] at ha
      | gone => simp [hb] at ha
      | row ro zz es =>
        cases ro with
        | true => simp [hb] at ha
        | false =>
          simp only [hb] at ha
          split at ha
          case isFalse => cases ha
          rename_i hcond
          obtain ⟨rfl, hg, hqn, hone⟩ := hcond
          have hone' : ∀ u ∈ news, u.oneCell' = true := by
            intro u hu
            obtain ⟨k, hk, rfl⟩ := List.getElem_of_mem hu
            have hk' : k < new.length * ei.size := by rw [← hnl]; exact hk
            have hi' : k / ei.size < new.length := (Nat.div_lt_iff_lt_mul hpos).2 hk'
            have he := List.getElem?_eq_getElem hi'
            have hj : k % ei.size < new[k / ei.size].cells.length := by rw [hns _ _ he]; exact Nat.mod_lt _ hpos
            have h1 := hnc _ _ _ _ he (List.getElem?_eq_getElem hj)
            have h2 := List.all_eq_true.1 (List.all_eq_true.1 hone _ (List.getElem_mem hi')) _ (List.getElem_mem hj)
            have h3 := h1.one h2
            have e1 : k / ei.size * ei.size + k % ei.size = k := by rw [Nat.mul_comm, Nat.div_add_mod]
            rw [e1] at h3
            simpa [List.getD_eq_getElem?_getD, hk] using h3
          rcases H.row hb with ⟨l, hl1, hl2, hl3, hr⟩ | ⟨hl1, rfl, _, _⟩
          · -- a row with memory
            obtain ⟨cells, ty', hblk, hfit⟩ := hr.block
            have hfits := hr.fits
            have hsame : upd ρ b (.row false { l with cur := es.length }) = ρ := upd_same (by rw [hl1]; simp [← hl2])
            -- what lies in front
            have front : ∀ m, m ≤ es.length → ∃ olds : List Value, olds.length = m * ei.size ∧ (∀ w', w'.heap = w.heap → (Builtin.firstCells inf.size m (.slice (some ⟨l.cb, l.co + 0 * l.sz, none⟩) m (l.cap - 0))).run P w' = .ok olds.toArray w') ∧
                (∀ (i j : Nat) (e c : AV), (es.take m)[i]? = some e → e.cells[j]? = some c → VRel w (Mut N ρ) ρ c (olds.getD (i * ei.size + j) undef)) := by
              intro m hm
              have hget : ∀ (i : Nat) (e : AV), (es.take m)[i]? = some e → es[i]? = some e := fun i e hi => by
                rw [List.getElem?_take] at hi
                split at hi
                · exact hi
                · cases hi
              obtain ⟨olds, o1, o2, o3⟩ := row_cells (w := w) (ρ := ρ) (M := Mut N ρ) (es := es.take m) (off := l.co) (cb := l.cb) hpos (fun i e hi => by rw [← hl3]; exact hr.size i e (hget i e hi)) (fun i j e c hi hj => by
                rw [← hl3]; exact hr.cell i j e c (hget i e hi) hj)
              have hm' : (es.take m).length = m := by simp; omega
              rw [hm'] at o1
              refine ⟨olds, o1, fun w' hw => ?_, o3⟩
              have := run_loadCells_list (P := P) w' ⟨l.cb, l.co, none⟩ olds (fun j v hj => by
                rw [addr_add]
                simpa [World.cell?, hw] using o2 j v hj)
              rw [o1] at this
              simpa [Builtin.firstCells, hsz] using this
            split at ha
            · -- within what is known
              rename_i hroom
              cases ha
              rcases VRel.slice_old hl1 (by omega) hs with ⟨rfl, _⟩ | ⟨a, rfl, rfl, hq1, hq2⟩
              · have hst : (storeCells ((⟨l.cb, l.co + q * l.sz, none⟩ : Addr).add (n * inf.size)) news).run P w = .ok () (w.setRow l.cb (cells.toList.take (l.co + (q + n) * l.sz) ++ news ++ cells.toList.drop (l.co + (q + n) * l.sz + news.length)).toArray) := by
                  rw [addr_add]
                  have e1 : l.co + q * l.sz + n * inf.size = l.co + (q + n) * l.sz := by rw [hsz, ← hl3, Nat.add_mul]; omega
                  rw [e1]
                  have hmul : (q + n + new.length) * l.sz ≤ l.cap * l.sz := Nat.mul_le_mul_right _ (by omega)
                  rw [Nat.add_mul (q + n)] at hmul
                  have := run_storeCells_at P l.cb (l.co + (q + n) * l.sz) ty' news 0 cells w hblk (by rw [hnl, ← hl3]; omega) hone'
                  simpa using this
                have hrun := run_append_fits (ty := ty) ht hxt hd hinf hlen hfirst' (some ⟨l.cb, l.co + q * l.sz, none⟩) n (l.cap - q) (by omega) (fun ad had => by cases had; exact hst) (fun h => by cases h)
                have key := H.overwrite hb hl1 hblk (q := q + n) (new := new) (by omega) (by omega) (news := news) (by rw [hnl, hl3]) (by rw [hl3]; exact hns) (by rw [hl3]; exact hnc)
                have hlen2 : (es.take (q + n) ++ new ++ es.drop (q + n + new.length)).length = es.length := by
                  rw [over_length es new (q + n) (by omega), if_pos (by omega)]
                rw [hlen2, hsame] at key
                refine ⟨_, _, ρ, hrun, ?_, key.1, key.2⟩
                have := VRel.ref (w := w.setRow l.cb (cells.toList.take (l.co + (q + n) * l.sz) ++ news ++ cells.toList.drop (l.co + (q + n) * l.sz + news.length)).toArray) (M := Mut N ρ) (s := q) (n := n + new.length) hl1 (by omega) (by omega)
                rw [hl2, hg] at this
                exact this
              · have hk0 : new = [] := List.eq_nil_of_length_eq_zero (by omega)
                subst hk0
                have hnews : news = [] := List.eq_nil_of_length_eq_zero (by simpa using hnl)
                subst hnews
                have hrun := run_append_fits (ty := ty) ht hxt hd hinf hlen hfirst' a 0 0 (by simp) (w' := w) (fun ad _ => rfl) (fun _ => rfl)
                have e1 : es.take (q + 0) ++ [] ++ es.drop (q + 0 + ([] : List AV).length) = es := by simp
                rw [e1]
                have e2 : h.set b (Ent.row false ei.size es) = h := by
                  obtain ⟨hlt, hval⟩ := List.getElem?_eq_some_iff.1 hb
                  rw [← hval]; exact List.set_getElem_self hlt
                rw [e2]
                exact ⟨_, _, ρ, hrun, hs, H, .refl ρ w⟩
            · split at ha
              · rename_i hnr hq0
                obtain ⟨rfl, hb1, hb2⟩ := hq0
                cases ha
                by_cases hcap : n + new.length ≤ l.cap
                · -- in place
                  rcases VRel.slice_old hl1 (by omega) hs with ⟨rfl, _⟩ | ⟨a, rfl, rfl, hq1, hq2⟩
                  case inr => omega
                  have hst : (storeCells ((⟨l.cb, l.co + 0 * l.sz, none⟩ : Addr).add (n * inf.size)) news).run P w = .ok () (w.setRow l.cb (cells.toList.take (l.co + n * l.sz) ++ news ++ cells.toList.drop (l.co + n * l.sz + news.length)).toArray) := by
                    rw [addr_add]
                    have e1 : l.co + 0 * l.sz + n * inf.size = l.co + n * l.sz := by rw [hsz, ← hl3]; omega
                    rw [e1]
                    have hmul : (n + new.length) * l.sz ≤ l.cap * l.sz := Nat.mul_le_mul_right _ hcap
                    rw [Nat.add_mul] at hmul
                    have := run_storeCells_at P l.cb (l.co + n * l.sz) ty' news 0 cells w hblk (by rw [hnl, ← hl3]; omega) hone'
                    simpa using this
                  have hrun := run_append_fits (ty := ty) ht hxt hd hinf hlen hfirst' (some ⟨l.cb, l.co + 0 * l.sz, none⟩) n (l.cap - 0) (by omega) (fun ad had => by cases had; exact hst) (fun h => by cases h)
                  have key := H.overwrite hb hl1 hblk (q := n) (new := new) (by omega) (by omega) (news := news) (by rw [hnl, hl3]) (by rw [hl3]; exact hns) (by rw [hl3]; exact hnc)
                  have hdrop : es.drop (n + new.length) = [] := by simp; omega
                  rw [hdrop, List.append_nil] at key
                  have hlen2 : (es.take n ++ new).length = n + new.length := by simp; omega
                  rw [hlen2] at key
                  refine ⟨_, _, _, hrun, ?_, key.1, key.2⟩
                  have := VRel.ref (w := w.setRow l.cb (cells.toList.take (l.co + n * l.sz) ++ news ++ cells.toList.drop (l.co + n * l.sz + news.length)).toArray) (M := Mut N (upd ρ b (.row false { l with cur := n + new.length }))) (b := b) (ro := false) (s := 0) (n := n + new.length) (l := { l with cur := n + new.length }) (upd_self ρ b _) (by simp) hcap
                  exact this
                · -- into a new block
                  obtain ⟨olds, o1, o2, o3⟩ := front n (by omega)
                  have hmk : ∃ a, cs = .slice a n (l.cap - 0) ∧ ∀ w', w'.heap = w.heap → (Builtin.firstCells inf.size n (.slice a n (l.cap - 0))).run P w' = .ok olds.toArray w' := by
                    rcases VRel.slice_old hl1 (by omega) hs with ⟨rfl, _⟩ | ⟨a, rfl, rfl, hq1, hq2⟩
                    · exact ⟨_, rfl, o2⟩
                    · have : olds = [] := List.eq_nil_of_length_eq_zero (by simpa using o1)
                      subst this
                      refine ⟨a, by rw [← hq1], fun w' _ => ?_⟩
                      cases a <;> simp [Builtin.firstCells, loadCells, loadCellsFrom]
                  obtain ⟨a, rfl, hold⟩ := hmk
                  have hrun := run_append_grows (ty := ty) ht hxt hd hinf hz hlen hfirst' a n (l.cap - 0) (by omega) (by omega) (by rw [hby]; exact hb1) hold
                  have hge := grownCap_ge w (n + new.length) (l.cap - 0) e
                  have hsz2 : ∀ (i : Nat) (e : AV), (es.take n)[i]? = some e → e.cells.length = ei.size := fun i e hi => by
                    rw [List.getElem?_take] at hi
                    split at hi
                    · rw [← hl3]; exact hr.size i e hi
                    · cases hi
                  have htl : (es.take n).length = n := by simp; omega
                  have key := H.moveRow hb (w' := w.drew.alloc (.cells (olds.toArray ++ news.toArray ++ Builtin.zeroCells z.cells (grownCap w (n + new.length) (l.cap - 0) e - (n + new.length))) e)) (cap := grownCap w (n + new.length) (l.cap - 0) e) (es' := es.take n ++ new)
                    rfl rfl rfl rfl (by simp; omega) (by rw [List.length_append, htl]; exact hge) (by
                      simp only [Array.size_append, List.size_toArray, size_zeroCells, hzs, hnl, o1]
                      rw [Nat.sub_mul]
                      have := Nat.mul_le_mul_right ei.size hge
                      rw [Nat.add_mul] at this ⊢
                      omega) (fun i e hi => by
                      rw [List.getElem?_append] at hi
                      split at hi
                      · exact hsz2 i e hi
                      · exact hns _ e hi) (fun i j e c hi hj => rel_append hsz2 hns (by rw [htl]; exact o1) hnl o3 hnc i j e c hi hj)
                  have hlen2 : (es.take n ++ new).length = n + new.length := by rw [List.length_append, htl]
                  rw [hlen2] at key
                  refine ⟨_, _, _, hrun, ?_, key.1, key.2⟩
                  have := VRel.ref (w := w.drew.alloc (.cells (olds.toArray ++ news.toArray ++ Builtin.zeroCells z.cells (grownCap w (n + new.length) (l.cap - 0) e - (n + new.length))) e)) (M := Mut N (upd ρ b (.row false ⟨n + new.length, w.heap.size, 0, grownCap w (n + new.length) (l.cap - 0) e, ei.size⟩))) (b := b) (ro := false) (s := 0) (n := n + new.length) (l := ⟨n + new.length, w.heap.size, 0, grownCap w (n + new.length) (l.cap - 0) e, ei.size⟩) (upd_self ρ b _) (by simp) hge
                  simpa using this
              · cases ha
          · -- an empty row without memory
            obtain ⟨hcs, rfl, rfl, rfl⟩ := VRel.slice_virt hl1 hs
            obtain ⟨a, rfl⟩ := hcs
            split at ha
            · rename_i hroom
              cases ha
              have hk0 : new = [] := List.eq_nil_of_length_eq_zero (by omega)
              subst hk0
              have hnews : news = [] := List.eq_nil_of_length_eq_zero (by simpa using hnl)
              subst hnews
              have hrun := run_append_fits (ty := ty) ht hxt hd hinf hlen hfirst' a 0 0 (by simp) (w' := w) (fun ad _ => rfl) (fun _ => rfl)
              have e2 : h.set b (Ent.row false ei.size []) = h := by
                obtain ⟨hlt, hval⟩ := List.getElem?_eq_some_iff.1 hb
                rw [← hval]; exact List.set_getElem_self hlt
              simp only [List.take_nil, List.append_nil, List.drop_nil]
              rw [e2]
              exact ⟨_, _, ρ, hrun, hs, H, .refl ρ w⟩
            · split at ha
              · rename_i hnr hq0
                obtain ⟨_, hb1, hb2⟩ := hq0
                cases ha
                have hold : ∀ w', w'.heap = w.heap → (Builtin.firstCells inf.size 0 (.slice a 0 0)).run P w' = .ok ([] : List Value).toArray w' := fun w' _ => by
                  cases a <;> simp [Builtin.firstCells, loadCells, loadCellsFrom]
                have hrun := run_append_grows (ty := ty) ht hxt hd hinf hz hlen hfirst' a 0 0 (by omega) (by omega) (by rw [hby]; exact hb1) hold
                have hge := grownCap_ge w (0 + new.length) 0 e
                have key := H.moveRow hb (w' := w.drew.alloc (.cells (([] : List Value).toArray ++ news.toArray ++ Builtin.zeroCells z.cells (grownCap w (0 + new.length) 0 e - (0 + new.length))) e)) (cap := grownCap w (0 + new.length) 0 e) (es' := List.take 0 ([] : List AV) ++ new)
                  rfl rfl rfl rfl (by simp; omega) (by simpa using hge) (by
                    simp only [Array.size_append, List.size_toArray, List.length_nil, size_zeroCells, hzs, hnl]
                    rw [Nat.sub_mul]
                    have := Nat.mul_le_mul_right ei.size hge
                    simp only [Nat.zero_add] at this ⊢
                    omega) (fun i e hi => hns i e (by simpa using hi)) (fun i j e c hi hj => rel_append (es := []) (olds := []) (by simp) hns (by simp) hnl (by simp) hnc i j e c (by simpa using hi) hj)
                refine ⟨_, _, _, hrun, ?_, key.1, key.2⟩
                have := VRel.ref (w := w.drew.alloc (.cells (([] : List Value).toArray ++ news.toArray ++ Builtin.zeroCells z.cells (grownCap w (0 + new.length) 0 e - (0 + new.length))) e)) (M := Mut N (upd ρ b (.row false ⟨(List.take 0 ([] : List AV) ++ new).length, w.heap.size, 0, grownCap w (0 + new.length) 0 e, ei.size⟩))) (b := b) (ro := false) (s := 0) (n := 0 + new.length) (l := ⟨(List.take 0 ([] : List AV) ++ new).length, w.heap.size, 0, grownCap w (0 + new.length) 0 e, ei.size⟩) (upd_self ρ b _) (by simp) (by simpa using hge)
                simpa using this
              · cases ha
  | _ => simp at ha
end
end Go.Abs
