/- copy, clear, conversions, maps; all operations together. -/
import Derived.Test.YtgdcimpndddepaaGreatAbs9
namespace Go.Abs
noncomputable section
variable {P : Program} {E : Env} {w : World} {N : Nat → Prop} {ρ : RMap} {base : Nat} {h : Heap}

theorem news_one {M : Nat → Prop} {new : List AV} {sz : Nat} {news : List Value} (hpos : 0 < sz) (hnl : news.length = new.length * sz) (hns : ∀ (i : Nat) (e : AV), new[i]? = some e → e.cells.length = sz)
    (hnc : ∀ (i j : Nat) (e c : AV), new[i]? = some e → e.cells[j]? = some c → VRel w M ρ c (news.getD (i * sz + j) undef)) (hone : new.all (fun e => e.cells.all AV.one) = true) : ∀ u ∈ news, u.oneCell' = true := by
  intro u hu
  obtain ⟨k, hk, rfl⟩ := List.getElem_of_mem hu
  have hk' : k < new.length * sz := by rw [← hnl]; exact hk
  have hi' : k / sz < new.length := (Nat.div_lt_iff_lt_mul hpos).2 hk'
  have he := List.getElem?_eq_getElem hi'
  have hj : k % sz < new[k / sz].cells.length := by rw [hns _ _ he]; exact Nat.mod_lt _ hpos
  have h1 := hnc _ _ _ _ he (List.getElem?_eq_getElem hj)
  have h2 := List.all_eq_true.1 (List.all_eq_true.1 hone _ (List.getElem_mem hi')) _ (List.getElem_mem hj)
  have h3 := h1.one h2
  have e1 : k / sz * sz + k % sz = k := by rw [Nat.mul_comm, Nat.div_add_mod]
  rw [e1] at h3
  simpa [List.getD_eq_getElem?_getD, hk] using h3
theorem set_self {b : Nat} {e : Ent} (hb : h[b]? = some e) : h.set b e = h := by
  obtain ⟨hlt, hval⟩ := List.getElem?_eq_some_iff.1 hb
  rw [← hval]; exact List.set_getElem_self hlt

/-! ### copy, clear -/
theorem copy_run (hE : EnvOK P E) (H : HRel N base ρ h w) {t xt ty : TypeId} {d x v : AV} {h' : Heap} {cd cx : Value} (ha : copyA E t h d x = some (v, h')) (hd : VRel w (Mut N ρ) ρ d cd) (hx : VRel w (Mut N ρ) ρ x cx) :
    ∃ r w', (Builtin.copy_ #[t, xt] ty #[cd, cx]).run P w = .ok r w' ∧ VRel w' (Mut N ρ) ρ v r ∧ HRel N base ρ h' w' ∧ Adv ρ w ρ w' := by
  unfold copyA at ha
  split at ha
  case h_2 => cases ha
  rename_i e hk
  have hu := hE.kind hk
  simp only [kindOK] at hu
  split at ha
  · cases ha
  rename_i ei hei
  split at ha
  · cases ha
  rename_i hpos
  have hpos : 0 < ei.size := Nat.pos_of_ne_zero hpos
  cases hnew : newsA h ei.size x with
  | none => simp [hnew] at ha
  | some src =>
  simp only [hnew, Option.bind_some] at ha
  obtain ⟨news, hlen, hnl, hns, hnc, hfirst⟩ := news_run (P := P) H hpos hnew hx
  have hsz := fun w => (hE.ti e ei hei).size w
  have none_ : ∀ (a : Option Addr), cd = .slice a 0 0 → ∃ r w', (Builtin.copy_ #[t, xt] ty #[cd, cx]).run P w = .ok r w' ∧ VRel w' (Mut N ρ) ρ (.int .i64 0) r ∧ HRel N base ρ h w' ∧ Adv ρ w ρ w' := by
    intro a hcd
    subst hcd
    have hf := hfirst w 0 rfl (Nat.zero_le _)
    simp only [Nat.zero_mul, List.take_zero] at hf
    refine ⟨.int .i64 0, w, ?_, .int _ _, H, .refl ρ w⟩
    cases a <;> simp [Builtin.copy_, run_underlying hu, hlen, hsz, hf, storeCells, goInt]
  split at ha
  · cases ha; cases hd; exact none_ none rfl
  · cases ha
    cases hd with
    | emp a => exact none_ a rfl
  · rename_i b g q n
    split at ha
    case h_2 => cases ha
    rename_i z es hb
    split at ha
    case isFalse => cases ha
    rename_i hc
    obtain ⟨rfl, hg, hqn, hone⟩ := hc
    cases ha
    rcases H.row hb with ⟨l, hl1, hl2, hl3, hr⟩ | ⟨hl1, rfl, _, _⟩
    · obtain ⟨cells, ty', hblk, hfit⟩ := hr.block
      have hfits := hr.fits
      have hsame : upd ρ b (.row false { l with cur := es.length }) = ρ := upd_same (by rw [hl1]; simp [← hl2])
      rcases VRel.slice_old hl1 (by omega) hd with ⟨rfl, _⟩ | ⟨a, rfl, rfl, hq1, hq2⟩
      · have hmin : Nat.min src.length n ≤ n := Nat.min_le_right _ _
        have htl : (src.take n).length = Nat.min src.length n := by rw [List.length_take, Nat.min_comm]
        have hf := hfirst w (Nat.min src.length n) rfl (Nat.min_le_left _ _)
        have hnl2 : (news.take (Nat.min src.length n * ei.size)).length = (src.take n).length * ei.size := by
          rw [htl, List.length_take, hnl]
          exact Nat.min_eq_left (Nat.mul_le_mul_right _ (Nat.min_le_left _ _))
        have hns2 : ∀ (i : Nat) (e : AV), (src.take n)[i]? = some e → e.cells.length = ei.size := fun i e hi => by
          rw [List.getElem?_take] at hi; split at hi
          · exact hns i e hi
          · cases hi
        have hnc2 : ∀ (i j : Nat) (e c : AV), (src.take n)[i]? = some e → e.cells[j]? = some c → VRel w (Mut N ρ) ρ c ((news.take (Nat.min src.length n * ei.size)).getD (i * ei.size + j) undef) := fun i j e c hi hj => by
          have hlt := mul_add_lt (s := ei.size) (j := j) (List.getElem?_eq_some_iff.1 hi).1 (by rw [← hns2 i e hi]; exact (List.getElem?_eq_some_iff.1 hj).1)
          rw [htl] at hlt
          have hi' : src[i]? = some e := by
            rw [List.getElem?_take] at hi; split at hi
            · exact hi
            · cases hi
          have := hnc i j e c hi' hj
          rw [List.getD_eq_getElem?_getD, List.getElem?_take, if_pos hlt, ← List.getD_eq_getElem?_getD]
          exact this
        have hone' := news_one (w := w) (ρ := ρ) (M := Mut N ρ) hpos hnl2 hns2 hnc2 hone
        have hmul : (q + (src.take n).length) * l.sz ≤ l.cap * l.sz := Nat.mul_le_mul_right _ (by rw [htl]; have := hmin; omega)
        rw [Nat.add_mul] at hmul
        have hst := run_storeCells_at P l.cb (l.co + q * l.sz) ty' (news.take (Nat.min src.length n * ei.size)) 0 cells w hblk (by rw [hnl2, ← hl3]; omega) hone'
        simp only [Nat.add_zero] at hst
        have key := H.overwrite hb hl1 hblk (q := q) (new := src.take n) (by omega) (by rw [htl]; have := hmin; omega) (news := news.take (Nat.min src.length n * ei.size)) (by rw [hnl2, hl3]) (by rw [hl3]; exact hns2) (by rw [hl3]; exact hnc2)
        have hlen2 : (es.take q ++ src.take n ++ es.drop (q + (src.take n).length)).length = es.length := by
          rw [over_length es _ q (by omega), if_pos (by rw [htl]; have := hmin; omega)]
        rw [hlen2, hsame] at key
        refine ⟨.int .i64 (Nat.min src.length n : Nat), _, ?_, .int _ _, key.1, key.2⟩
        simp only [Builtin.copy_, List.getElem?_toArray, List.getElem?_cons_zero, List.getElem?_cons_succ, Sem.run_bind, run_underlying hu, Result.andThen_ok, hlen, hsz, hf, hst, Sem.run_pure, goInt]
      · have htk : src.take 0 = [] := by simp
        simp only [htk, List.append_nil, List.length_nil, Nat.add_zero, List.take_append_drop]
        rw [set_self hb]
        have := none_ a rfl
        simpa using this
    · obtain ⟨⟨a, rfl⟩, rfl, rfl, rfl⟩ := VRel.slice_virt hl1 hd
      have htk : src.take 0 = [] := by simp
      simp only [htk, List.append_nil, List.take_nil, List.drop_nil]
      rw [set_self hb]
      have := none_ a rfl
      simpa using this
  · cases ha
theorem clear_run (hE : EnvOK P E) (H : HRel N base ρ h w) {t ty : TypeId} {x v : AV} {h' : Heap} {cx : Value} (ha : clearA E t h x = some (v, h')) (hx : VRel w (Mut N ρ) ρ x cx) :
    ∃ r w', (Builtin.clear_ #[t] ty #[cx]).run P w = .ok r w' ∧ VRel w' (Mut N ρ) ρ v r ∧ HRel N base ρ h' w' ∧ Adv ρ w ρ w' := by
  unfold clearA at ha
  split at ha
  case h_2 => cases ha
  rename_i e b g q n hk
  have hu := hE.kind hk
  simp only [kindOK] at hu
  split at ha
  case h_2 => cases ha
  rename_i ei z es hei hb
  split at ha
  case isFalse => cases ha
  rename_i hc
  obtain ⟨rfl, hg, hqn, hz1, hz2, hone⟩ := hc
  cases ha
  obtain ⟨zv, hz, hzs, hzr⟩ := zero_run hE hei
  have none_ : ∀ (a : Option Addr) (k : Nat), cx = .slice a 0 k → (Builtin.clear_ #[t] ty #[cx]).run P w = .ok (.tuple #[]) w := by
    intro a k hcx
    subst hcx
    cases a <;> simp [Builtin.clear_, run_underlying hu]
  rcases H.row hb with ⟨l, hl1, hl2, hl3, hr⟩ | ⟨hl1, rfl, _, _⟩
  · obtain ⟨cells, ty', hblk, hfit⟩ := hr.block
    have hfits := hr.fits
    have hpos := hr.pos
    have hsame : upd ρ b (.row false { l with cur := es.length }) = ρ := upd_same (by rw [hl1]; simp [← hl2])
    by_cases hn : n = 0
    · subst hn
      have e0 : es.take q ++ List.replicate 0 ei.zero ++ es.drop (q + 0) = es := by simp
      rw [e0, set_self hb]
      refine ⟨.tuple #[], w, ?_, .tup (by simp) (fun i c h => by simp at h), H, .refl ρ w⟩
      rcases VRel.slice_old hl1 (by omega) hx with ⟨rfl, _⟩ | ⟨a, rfl, _⟩
      · exact none_ _ _ rfl
      · exact none_ _ _ rfl
    · rcases VRel.slice_old hl1 (by omega) hx with ⟨rfl, _⟩ | ⟨a, rfl, rfl, hq1, hq2⟩
      case inr => exact absurd rfl hn
      have hzr' := hzr w (Mut N ρ) ρ
      have hzc : (Builtin.zeroCells zv.cells n).toList.length = n * ei.size := by simp [Builtin.zeroCells, hzs]
      have hzc' : (Builtin.zeroCells zv.cells n).size = n * ei.size := by simpa using hzc
      have hrep : ∀ (i : Nat) (x : AV), (List.replicate n ei.zero)[i]? = some x → x.cells.length = ei.size := fun i x hi => by
        rw [List.getElem?_replicate] at hi; split at hi <;> cases hi; exact hz1
      have hrel : ∀ (i j : Nat) (e c : AV), (List.replicate n ei.zero)[i]? = some e → e.cells[j]? = some c → VRel w (Mut N ρ) ρ c ((Builtin.zeroCells zv.cells n).toList.getD (i * ei.size + j) undef) := fun i j e c hi hj => by
        have := zeros_rel hzr' hz2 hz1 (by rw [← hl3]; exact hpos) n i j e c hi hj
        have e1 : ∀ (L : Array Value) (k : Nat), L.toList.getD k undef = L.getD k undef := fun L k => by simp [List.getD_eq_getElem?_getD, Array.getD_eq_getD_getElem?]
        rw [e1]
        simpa only [Builtin.zeroCells, hzs] using this
      have hone' := news_one (w := w) (ρ := ρ) (M := Mut N ρ) (new := List.replicate n ei.zero) (by rw [← hl3]; exact hpos) (by simpa using hzc) hrep hrel (by
        rw [List.all_eq_true]
        intro x hx
        rw [(List.mem_replicate.1 hx).2]; exact hone)
      have hmul : (q + n) * l.sz ≤ l.cap * l.sz := Nat.mul_le_mul_right _ (by omega)
      rw [Nat.add_mul] at hmul
      have hst := run_storeCells_at P l.cb (l.co + q * l.sz) ty' (Builtin.zeroCells zv.cells n).toList 0 cells w hblk (by rw [hzc, ← hl3]; omega) hone'
      simp only [Nat.add_zero] at hst
      have key := H.overwrite hb hl1 hblk (q := q) (new := List.replicate n ei.zero) (by omega) (by simp; omega) (news := (Builtin.zeroCells zv.cells n).toList) (by rw [hzc, hl3]; simp) (by rw [hl3]; exact hrep) (by rw [hl3]; exact hrel)
      have hlr : (List.replicate n ei.zero).length = n := by simp
      have hlen2 : (es.take q ++ List.replicate n ei.zero ++ es.drop (q + (List.replicate n ei.zero).length)).length = es.length := by
        rw [over_length es _ q (by omega), if_pos (by rw [hlr]; omega)]
      rw [hlen2, hsame, hlr] at key
      refine ⟨.tuple #[], _, ?_, .tup (by simp) (fun i c h => by simp at h), key.1, key.2⟩
      obtain ⟨m, rfl⟩ : ∃ m, n = m + 1 := ⟨n - 1, by omega⟩
      simp [Builtin.clear_, run_underlying hu, hz, hst]
  · obtain ⟨⟨a, rfl⟩, rfl, rfl, rfl⟩ := VRel.slice_virt hl1 hx
    have e0 : List.take 0 ([] : List AV) ++ List.replicate 0 ei.zero ++ List.drop (0 + 0) [] = [] := by simp
    rw [e0, set_self hb]
    exact ⟨.tuple #[], w, none_ _ _ rfl, .tup (by simp) (fun i c h => by simp at h), H, .refl ρ w⟩

/-! ### Conversions -/
theorem conv_run (hE : EnvOK P E) (H : HRel N base ρ h w) {s d : TypeId} {x v : AV} {h' : Heap} {cx : Value} (hc : convA E s d h x = some (v, h')) (hx : VRel w (Mut N ρ) ρ x cx) :
    ∃ r w', (convert s d cx).run P w = .ok r w' ∧ VRel w' (Mut N ρ) ρ v r ∧ HRel N base ρ h' w' ∧ Adv ρ w ρ w' := by
  unfold convA at hc
  split at hc
  · rename_i sk k k' n hks hkd
    have hd := hE.kind hkd
    simp only [kindOK] at hd
    rw [hx.int_inv]
    cases hc
    have hs : ∃ q, P.underlying s = some q := by
      have := hE.kind hks
      cases sk <;> simp only [kindOK] at this <;> first
        | exact ⟨_, this⟩
        | (obtain ⟨_, this, _⟩ := this; exact ⟨_, this⟩)
        | (obtain ⟨_, _, _, this⟩ := this; exact ⟨_, this⟩)
        | (obtain ⟨_, this⟩ := this; exact ⟨_, this⟩)
    obtain ⟨q, hq⟩ := hs
    refine ⟨.int k (k.wrap n), w, ?_, .int _ _, H, .refl ρ w⟩
    cases q <;> simp [convert, run_underlying hq, run_underlying hd, Conv.intToInt]
  · rename_i sk b hks hkd
    have hd := hE.kind hkd
    simp only [kindOK] at hd
    rw [hx.str_inv]
    cases hc
    have hs : ∃ q, P.underlying s = some q := by
      have := hE.kind hks
      cases sk <;> simp only [kindOK] at this <;> first
        | exact ⟨_, this⟩
        | (obtain ⟨_, this, _⟩ := this; exact ⟨_, this⟩)
        | (obtain ⟨_, _, _, this⟩ := this; exact ⟨_, this⟩)
        | (obtain ⟨_, this⟩ := this; exact ⟨_, this⟩)
    obtain ⟨q, hq⟩ := hs
    refine ⟨.string b, w, ?_, .str _, H, .refl ρ w⟩
    cases q <;> simp [convert, run_underlying hq, run_underlying hd]
  · rename_i sk e b hks hkd
    have hd := hE.kind hkd
    simp only [kindOK] at hd
    rw [hx.str_inv]
    split at hc
    case h_2 => cases hc
    rename_i ei hei
    have he := (hE.ti e _ hei).kind
    simp only [kindOK] at he
    split at hc
    case isFalse => cases hc
    cases hc
    have hs : ∃ q, P.underlying s = some q := by
      have := hE.kind hks
      cases sk <;> simp only [kindOK] at this <;> first
        | exact ⟨_, this⟩
        | (obtain ⟨_, this, _⟩ := this; exact ⟨_, this⟩)
        | (obtain ⟨_, _, _, this⟩ := this; exact ⟨_, this⟩)
        | (obtain ⟨_, this⟩ := this; exact ⟨_, this⟩)
    obtain ⟨q, hq⟩ := hs
    have hrun := Lib.run_convert_string_bytes w s d e b hq hd he
    obtain ⟨g1, g2⟩ := H.grow (w' := Lib.bytesWorld w e b) (by rw [Lib.bytesWorld_size]; omega) (fun k hk => Lib.bytesWorld_at_old w e b k hk) rfl rfl rfl
    refine ⟨_, _, hrun, ?_, g1, g2⟩
    refine .lst (sz := 1) (fun i j => .int .u8 (b.data.toList.getD i 0).toNat) (bytesA_length b) (grownCap_ge w b.size 0 e) (fun hm => ?_) (by rw [Lib.bytesWorld_size]; omega) (fun i e hi => by obtain ⟨_, _, rfl⟩ := bytesA_get hi; rfl) (fun i j e' c hi hj => ?_) (fun i j e' c hi hj => ?_)
    · rcases hm with hm | hm
      · have := H.ext_lt _ hm; omega
      · have := (H.own hm).2; omega
    · obtain ⟨q, hq, rfl⟩ := bytesA_get hi
      cases j with
      | succ j => simp [AV.cells] at hj
      | zero =>
        have hlt : i < b.size := by
          have := (Array.getElem?_eq_some_iff.1 hq).1
          exact this
        have := Lib.bytesWorld_cell w e b i hlt
        simpa using this
    · obtain ⟨q, hq, rfl⟩ := bytesA_get hi
      cases j with
      | succ j => simp [AV.cells] at hj
      | zero =>
        simp only [AV.cells, List.getElem?_cons_zero, Option.some.injEq] at hj; subst hj
        have : b.data.toList.getD i 0 = q := by simp [List.getD_eq_getElem?_getD, hq]
        simp only [this]
        exact .int _ _
  · rename_i e x hks hkd hne
    have hd := hE.kind hkd
    simp only [kindOK] at hd
    have hs := hE.kind hks
    simp only [kindOK] at hs
    split at hc
    case h_2 => cases hc
    rename_i ei hei
    have he := (hE.ti _ _ hei).kind
    simp only [kindOK] at he
    simp only [Option.bind_eq_some_iff, Option.map_eq_some_iff] at hc
    obtain ⟨es, hes, bs, hbs, hv⟩ := hc
    cases hv
    obtain ⟨a, cap, news, rfl, h1, h2, h3, h4⟩ := items_run H (by omega) hes hx
    have hb : ∀ {es : List AV} {bs : List UInt8}, es.mapM byteOf = some bs → es.length = bs.length ∧ ∀ (i : Nat) (e : AV), es[i]? = some e → ∃ n : Int, e = .int .u8 n ∧ bs[i]? = some (UInt8.ofNat n.toNat) := by
      intro es
      induction es with
      | nil => intro bs hb; simp at hb; subst hb; exact ⟨rfl, fun i e hi => by simp at hi⟩
      | cons x r ih =>
        intro bs hb
        simp only [List.mapM_cons, Option.bind_eq_bind, Option.bind_eq_some_iff, Option.pure_def, Option.some.injEq] at hb
        obtain ⟨b0, hb0, br, hbr, rfl⟩ := hb
        obtain ⟨i1, i2⟩ := ih hbr
        refine ⟨by simp [i1], fun i e hi => ?_⟩
        cases i with
        | zero =>
          simp only [List.getElem?_cons_zero, Option.some.injEq] at hi; subst hi
          cases x <;> simp only [byteOf] at hb0 <;> try (cases hb0; done)
          rename_i k n
          cases k <;> simp only [Option.some.injEq] at hb0 <;> try (cases hb0; done)
          subst hb0
          exact ⟨n, rfl, rfl⟩
        | succ i => simp only [List.getElem?_cons_succ] at hi ⊢; exact i2 i e hi
    obtain ⟨hbl, hbg⟩ := hb hbs
    have hnum : ∃ xs : List Int, xs.length = es.length ∧ (strOfNums xs) = ⟨bs.toArray⟩ ∧ ∀ i, i < es.length → news[i]? = some (.int .u8 (xs.getD i 0)) := by
      refine ⟨es.map fun e => match e with | .int _ n => n | _ => 0, by simp, ?_, fun i hi => ?_⟩
      · unfold strOfNums
        congr 1
        congr 1
        apply List.ext_getElem?
        intro i
        by_cases hi : i < es.length
        · obtain ⟨n, hn, hb⟩ := hbg i _ (List.getElem?_eq_getElem hi)
          simp [List.getElem?_eq_getElem hi, hn, hb]
        · rw [List.getElem?_eq_none (by simp; omega), List.getElem?_eq_none (by omega)]
      · obtain ⟨n, hn, hb⟩ := hbg i _ (List.getElem?_eq_getElem hi)
        have := h3 i 0 _ (.int .u8 n) (List.getElem?_eq_getElem hi) (by rw [hn]; rfl)
        have h5 := this.int_inv
        simp only [Nat.mul_one, Nat.add_zero] at h5
        have hlt : i < news.length := by omega
        rw [List.getElem?_eq_getElem hlt]
        rw [List.getD_eq_getElem?_getD, List.getElem?_eq_getElem hlt, Option.getD_some] at h5
        rw [h5]
        simp [List.getD_eq_getElem?_getD, List.getElem?_eq_getElem hi, hn]
    obtain ⟨xs, hxl, hxs, hxc⟩ := hnum
    refine ⟨.string ⟨bs.toArray⟩, w, ?_, .str _, H, .refl ρ w⟩
    by_cases hn0 : es = []
    · subst hn0
      have : xs = [] := List.eq_nil_of_length_eq_zero (by simpa using hxl)
      subst this
      rw [← hxs]
      cases a with
      | none => exact run_convert_bytes_nil w s _ hs he 0 cap d hd
      | some ad =>
        rw [run_convert_bytes_string w s d _ _ _ cap hs he hd]
        simp [Conv.bytesToString, loadCells, loadCellsFrom, strOfNums]
        rfl
    · obtain ⟨cb, off, rfl, h5⟩ := h4 hn0
      rw [← hxs]
      exact run_convert_bytes_arg w s _ hs he cb off es.length cap xs hxl (fun i hi => h5 i _ (hxc i hi)) d hd
  · cases hc
end
end Go.Abs
