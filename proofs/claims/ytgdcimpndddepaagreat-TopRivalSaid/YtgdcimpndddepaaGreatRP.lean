/- TopRival answers true. -/
import Derived.Test.YtgdcimpndddepaaGreatRO
import Derived.Test.YtgdcimpndddepaaGreatRS
/- TopRival: a valid job that has least codes; the whole. -/
open Go Go.Proofs Go.Abs
namespace Rival
theorem trains_cells (TL : List (List Nat)) : (trainsV TL).cells = [trainsV TL] ∧ (trainsV TL).solid = true ∧ (trainsV TL).one = true ∧ loadE false 1 (trainsV TL) 0 = some (trainsV TL) := by unfold trainsV; split <;> exact ⟨rfl, rfl, rfl, rfl⟩
set_option maxRecDepth 100000 in
set_option maxHeartbeats 8000000 in
theorem top_sol {l : List It} {w s : Int} {ks : List Int} (h0 : vJob l w = 0) {v : List Int} (hs : Sol l w v) (hl2 : ks.length < 2 ^ 50) (ho : Ord l (sortL l (List.range l.length))) : Gives (callL env 3 [jobV l w, planV s ks] []) fun r => r.1 = .bool true := by
  have hf := fine_of h0
  have hll := hf.len
  have hl : l.length < 2 ^ 62 := by omega
  apply gives_call
  obtain ⟨m, c4', hm⟩ := c4 l w hl ho
  obtain ⟨a, e, c5', he, x, va, vc, k1, k2, s1, s2, rfl⟩ := c5 l w hl
  obtain ⟨p1, p2, p3, p4⟩ := s1.cells
  obtain ⟨q1, q2, q3, q4⟩ := s2.cells
  rcases hm with ⟨h, _⟩ | ⟨_, v', hv', hr, c, hw, rfl⟩ | ⟨_, hn, _⟩
  · exact absurd h0 h
  · obtain rfl := hs.unique hf hv'
    rcases he with ⟨h, _⟩ | ⟨_, _, rfl⟩ | ⟨_, hn, _⟩
    · exact absurd h0 h
    · have hplan := hs.plan h0 hr
      have hsol := hs
      have hvn := codes_nat (ks := v) fun x _ => (hr x).1
      have hmx := mxV_rng v
      obtain ⟨S, hS⟩ := Int.eq_ofNat_of_zero_le hmx.1
      have hasked := hs.asked hf
      have hcn : c.length ≤ 32 ∧ ∀ i, i < c.length → nth 0 c i < l.length := by
        rcases hw with ⟨rfl, _⟩ | h
        · simp
        · exact ⟨h.len, h.lt⟩
      have hEnc : Enc S v (c.map Int.ofNat) := by
        refine ⟨by omega, by rw [hs.1]; exact hll, by simp; omega, fun k _ => by have := hr k; omega, fun k hk => ?_⟩
        rw [nth_map]
        have := hcn.2 k (by simpa using hk)
        omega
      have c7' := fun h => c7 l w s ks hl h
      have c11' := fun cs (hcs : v = cs.map Int.ofNat) h => c11 h0 hs hr hw (va := trV cs) (vc := trV c) (hcs ▸ slV_trV cs) (slV_trV c) h
      rw [hS] at c4' hplan c11'
      generalize hcs : v.map Int.toNat = cs at hvn
      have c11'' := c11' cs hvn
      subst hvn
      have c8' := fun h => c8 hEnc h
      have c9' := fun h => c9 hEnc h
      have c12' := fun h => c12 (s := S) (t := S) (slV_trV cs) (.lst (cs.map Int.ofNat)) (slV_trV c) (.lst (c.map Int.ofNat)) (by simp; have := hs.1; simp at this; omega) (by simp; have := hs.1; simp at this; omega) (by simp; omega) (by simp; omega) h
      obtain ⟨TL, mv, r6, r10, rsa⟩ := run_facts hplan
      have hup : upT l TL TL.length 0 = true := rsa.2 hasked
      rw [hup] at r10
      obtain ⟨t1, t2, t3, t4⟩ := trains_cells TL
      obtain ⟨u1, u2, u3, u4⟩ := (slV_trV cs).cells
      obtain ⟨w1, w2, w3, w4⟩ := (slV_trV c).cells
      simp only [pfV] at c11''
      by_cases hv : vPlan l w s ks = 0
      · obtain ⟨_, e1, e2, e3, e4⟩ := vPlan_zero.1 hv
        obtain ⟨s', rfl⟩ := Int.eq_ofNat_of_zero_le e1
        have hks := codes_nat (ks := ks) fun x hx => (isB_range (e4 x (by omega)).1).1
        generalize ks.map Int.toNat = ds at hks
        subst hks
        obtain ⟨TL2, mv2, z6, z10, zsa⟩ := run_facts hv
        obtain ⟨x1, x2, x3, x4⟩ := trains_cells TL2
        rw [hv] at c7'
        have hSs : Asked l (ds.map Int.ofNat) → ¬ ((s' : Nat) : Int) < (S : Int) := fun ha => by
          have hle := least_le hf hs (fun x hx => (e4 x hx).1) ha
          have : mxV (cs.map Int.ofNat) ≤ (s' : Int) := mxV_le (by omega) fun x hx => by
            have hx' : x < l.length := by rw [← hs.1]; exact hx
            have h1 := hle x hx'
            have h2 := (e4 x hx').2
            have h3 := hr x
            rw [stepsV_in h3]
            have h4 : (nth 0 (cs.map Int.ofNat) x).toNat < 2 ^ s' := by
              have h5 : ((2 ^ s' : Nat) : Int) = 2 ^ s' := by simp
              simp only [Int.toNat_natCast] at h2
              omega
            have := lng_le 12 _ s' h4
            simp only
            omega
          omega
        have hle2 : Asked l (ds.map Int.ofNat) → ∀ i, i < (ds.map Int.ofNat).length → nth 0 (cs.map Int.ofNat) i ≤ nth 0 (ds.map Int.ofNat) i := fun ha i hi => least_le hf hs (fun x hx => (e4 x hx).1) ha i (by rw [← e3]; exact hi)
        have hlen2 : (cs.map Int.ofNat).length = (ds.map Int.ofNat).length := by rw [e3]; exact hs.1
        have hd96 : (ds.map Int.ofNat).length ≤ 96 := by rw [e3]; exact hll
        simp only [jobV, planV, proofV, sortedV] at c4' c5' c7' c8' c9' c11'' c12' r6 r10 z6 z10
        cases hb : upT l TL2 TL2.length 0
        · rw [hb] at z10
          simp (disch := omega) [Tryz.f3, jobV, planV, proofV, sortedV, c4', c5', z6, z10, c7', c8', c9', c11'', c12', r6, r10, p1, p2, p3, q1, q2, q3, t1, t2, t3, t4, u1, u2, u3, u4, w1, w2, w3, w4, x1, x2, x3, x4]
        · have ha := zsa.1 hb
          rw [hb] at z10
          have hSs' := hSs ha
          have hle' := hle2 ha
          have hlen3 : cs.length = ds.length := by simpa using hlen2
          have d1 : ¬ s' < S := by omega
          simp (maxSteps := 3000000) (disch := omega) [Tryz.f3, jobV, planV, proofV, sortedV, c4', c5', z6, z10, c7', c8', c9', c11'', c12', r6, r10, p1, p2, p3, q1, q2, q3, t1, t2, t3, t4, u1, u2, u3, u4, w1, w2, w3, w4, x1, x2, x3, x4, d1, hlen3]
          generalize hx : loopL env _ _ _ = X
          apply gives_cut hx
          clear hx
          refine cmp_loop hlen2 hd96 hle' _ rfl rfl _ (ds.map Int.ofNat).length 0 _ (by omega) ?_ ?_ ?_ (fun sl' => ?_)
          · simp
          · simp
          · simp
          · simp
      · have c6' := fun h => c6b (l := l) (w := w) (s := s) (ks := ks) hl hv h
        simp only [jobV, planV, proofV, sortedV] at c4' c5' c6' c7' c8' c9' c11'' c12' r6 r10
        simp (disch := omega) [Tryz.f3, jobV, planV, proofV, sortedV, c4', c5', c6', c7', c8', c9', c11'', c12', r6, r10, p1, p2, p3, q1, q2, q3, t1, t2, t3, t4, u1, u2, u3, u4, w1, w2, w3, w4, hv]
    · exact absurd hs (hn v)
  · exact absurd hs (hn v)
theorem bk_lt {l : List It} {x : Nat} (hx : x < l.length) : bk l x = (nth default l x).b := by
  unfold bk
  rw [Nat.mod_eq_of_lt hx, nth_getD]
theorem ord_sort (l : List It) : Ord l (sortL l (List.range l.length)) := by
  obtain ⟨h1, h2⟩ := sortL_spec l (List.range l.length)
  have hlen := sortL_len l (List.range l.length)
  simp at hlen
  have hlt : ∀ i, i < (sortL l (List.range l.length)).length → nth 0 (sortL l (List.range l.length)) i < l.length := fun i hi => by
    have hm : nth 0 (sortL l (List.range l.length)) i ∈ sortL l (List.range l.length) := by
      rw [nth_getD, List.getD_eq_getElem?_getD, List.getElem?_eq_getElem hi]
      exact List.getElem_mem hi
    simpa using h1.mem_iff.1 hm
  refine ⟨h1, fun i j hij hj => ?_⟩
  have := h2 i j hij (by simp; omega)
  rw [← nth_getD, ← nth_getD, bk_lt (hlt i (by omega)), bk_lt (hlt j hj)] at this
  exact this
/-- TopRival answers true. -/
theorem topRival_ok (l : List It) (w s : Int) (ks : List Int) (hl : l.length < 2 ^ 50) (hk : ks.length < 2 ^ 50) : Gives (callL env 3 [jobV l w, planV s ks] []) fun r => r.1 = .bool true := by
  have ho := ord_sort l
  by_cases h0 : vJob l w = 0
  · by_cases hs : ∃ v, Sol l w v
    · obtain ⟨v, hs⟩ := hs
      exact top_sol h0 hs hk ho
    · exact top_none h0 (fun v hv => hs ⟨v, hv⟩) ho
  · exact top_bad (by omega) h0 ho
end Rival
