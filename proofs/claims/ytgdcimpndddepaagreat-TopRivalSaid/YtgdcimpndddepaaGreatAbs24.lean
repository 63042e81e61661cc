/- The limit: what calls and loops come to, however deep. -/
import Derived.Test.YtgdcimpndddepaaGreatAbs23
namespace Go.Abs
noncomputable section
variable {P : Program} {E : Env} {ops : Array Oper}

def Evt (p : Nat → Prop) : Prop := ∃ n, ∀ m, n ≤ m → p m
theorem Evt.and {p q : Nat → Prop} (h : Evt p) (k : Evt q) : Evt fun m => p m ∧ q m := by
  obtain ⟨a, ha⟩ := h
  obtain ⟨b, hb⟩ := k
  exact ⟨Nat.max a b, fun m hm => ⟨ha m (Nat.le_trans (Nat.le_max_left a b) hm), hb m (Nat.le_trans (Nat.le_max_right a b) hm)⟩⟩
theorem Evt.imp {p q : Nat → Prop} (h : Evt p) (k : ∀ m, p m → q m) : Evt q := by
  obtain ⟨a, ha⟩ := h
  exact ⟨a, fun m hm => k m (ha m hm)⟩
theorem Evt.all {p : Nat → Prop} (h : ∀ m, p m) : Evt p := ⟨0, fun m _ => h m⟩
/-- A sequence of oracles comes to an oracle. -/
def CallTo (c : Nat → CallO) (call : CallO) : Prop := ∀ f args h r, call f args h = some r → Evt fun m => c m f args h = some r
def LoopTo (l : Nat → LoopO) (loop : LoopO) : Prop := ∀ c F h r, loop c F h = some r → Evt fun m => l m c F h = some r
variable {c : Nat → CallO} {l : Nat → LoopO} {call : CallO} {loop : LoopO}

theorem callN_to (hc : CallTo c call) {f : FuncId} {args : List AV} {h : Heap} {r : AV × Heap} (hr : callN E call f args h = some r) : Evt fun m => callN E (c m) f args h = some r := by
  unfold callN at hr ⊢
  split at hr
  · exact .all fun _ => hr
  · split at hr
    · exact hc f args h r hr
    · cases hcl : args.all (closed? depth) <;> simp only [hcl, cond_true, cond_false, Option.bind_eq_some_iff, Option.map_eq_some_iff] at hr ⊢
      · obtain ⟨as, has, r1, hr1, v, hv, rfl⟩ := hr
        exact (hc _ _ _ _ hr1).imp fun m hm => ⟨as, has, r1, hm, v, hv, rfl⟩
      · obtain ⟨r1, hr1, v, hv, rfl⟩ := hr
        exact (hc _ _ _ _ hr1).imp fun m hm => ⟨r1, hm, v, hv, rfl⟩
    · simp only [Option.bind_eq_some_iff, Option.map_eq_some_iff] at hr
      obtain ⟨h1, hh1, as, has, r1, hr1, v, hv, rfl⟩ := hr
      exact (hc _ _ _ _ hr1).imp fun m hm => by simp only [hh1, has, Option.bind_some, hm, hv, Option.map_some]
theorem act_to (hc : CallTo c call) {o : Oper} {F : Frm} {h : Heap} {p : Nat} {ins : Heap → Ent → Heap} {r : AV × Heap} (hr : act E call ops o F h p ins = some r) : Evt fun m => act E (c m) ops o F h p ins = some r := by
  unfold act at hr ⊢
  split at hr
  · cases hr
  · exact .all fun _ => hr
  · split at hr
    · split at hr
      · exact callN_to hc hr
      · cases hr
    · exact .all fun _ => hr
theorem stepS_to (hc : CallTo c call) {o : Oper} {F : Frm} {h : Heap} {r : Frm × Heap} (hr : stepS E call ops o F h = some r) : Evt fun m => stepS E (c m) ops o F h = some r := by
  unfold stepS at hr ⊢
  split at hr
  · exact .all fun _ => hr
  · unfold step at hr ⊢
    simp only [Option.bind_eq_some_iff, Option.map_eq_some_iff] at hr
    obtain ⟨a, ha, F', hF, rfl⟩ := hr
    exact (act_to hc ha).imp fun m hm => by simp only [hm, Option.bind_some, hF, Option.map_some]
theorem runS_to (hc : CallTo c call) : ∀ {l : List Oper} {F : Frm} {h : Heap} {r : Frm × Heap}, runS E call ops l F h = some r → Evt fun m => runS E (c m) ops l F h = some r
  | [], F, h, r, hr => .all fun _ => hr
  | o :: l, F, h, r, hr => by
    simp only [runS] at hr
    cases hs : stepS E call ops o F h with
    | none => simp [hs] at hr
    | some s =>
      simp only [hs] at hr
      exact ((stepS_to hc hs).and (runS_to hc hr)).imp fun m hm => by simp only [runS, hm.1, hm.2]
theorem runD_to (hc : CallTo c call) {L : Nat} : ∀ {l : List DOp} {pd : List Pend} {F : Frm} {h : Heap} {r : Frm × Heap}, runD E call ops L l pd F h = some r → Evt fun m => runD E (c m) ops L l pd F h = some r
  | [], pd, F, h, r, hr => .all fun _ => hr
  | d :: l, pd, F, h, r, hr => by
    obtain ⟨o, F', h', pd', ho, hs, hr⟩ := runD_cons.1 hr
    have ih := runD_to hc hr
    cases hs with
    | rd hcl ha hF => exact ((act_to hc ha).and ih).imp fun m hm => runD_cons.2 ⟨o, _, _, _, ho, .rd hcl hm.1 hF, hm.2⟩
    | al hcl hg ha hF => exact ((act_to hc ha).and ih).imp fun m hm => runD_cons.2 ⟨o, _, _, _, ho, .al hcl hg hm.1 hF, hm.2⟩
    | wr hcl ha hk hF => exact ((act_to hc ha).and ih).imp fun m hm => runD_cons.2 ⟨o, _, _, _, ho, .wr hcl hm.1 hk hF, hm.2⟩
theorem regionD_to (hc : CallTo c call) {F : Frm} {h : Heap} {r : Frm × Heap} (hr : regionD E call ops F h = some r) : Evt fun m => regionD E (c m) ops F h = some r := by
  unfold regionD at hr ⊢
  simp only at hr ⊢
  cases hok : okD ops (orderOf ops) <;> simp only [hok, cond_true, cond_false] at hr ⊢
  · cases hr
  · exact runD_to hc hr
theorem exec_to (hc : CallTo c call) (hl : LoopTo l loop) : ∀ (x : Code) {F : Frm} {h : Heap} {r : Out}, exec E call loop x F h = some r → Evt fun m => exec E (c m) (l m) x F h = some r := by
  intro x
  induction x with
  | region id ops draw =>
    intro F h r hr
    cases draw with
    | false =>
      simp only [exec] at hr ⊢
      cases hs : runS E call ops ops.toList F h with
      | none => simp [hs] at hr
      | some s =>
        simp only [hs] at hr
        exact (runS_to hc hs).imp fun m hm => by simp only [hm]; exact hr
    | true =>
      simp only [exec] at hr ⊢
      cases hs : regionD E call ops F h with
      | none => simp [hs] at hr
      | some s =>
        simp only [hs] at hr
        exact (regionD_to hc hs).imp fun m hm => by simp only [hm]; exact hr
  | seq a b iha ihb =>
    intro F h r hr
    simp only [exec] at hr ⊢
    cases hs : exec E call loop a F h with
    | none => simp [hs] at hr
    | some s =>
      have ia := iha hs
      cases s with
      | normal F1 h1 =>
        simp only [hs] at hr
        exact (ia.and (ihb hr)).imp fun m hm => by simp only [hm.1, hm.2]
      | exit i F1 h1 =>
        simp only [hs] at hr
        exact ia.imp fun m hm => by simp only [hm]; exact hr
      | ret F1 h1 =>
        simp only [hs] at hr
        exact ia.imp fun m hm => by simp only [hm]; exact hr
  | cond k t e iht ihe =>
    intro F h r hr
    simp only [exec] at hr ⊢
    split at hr
    · exact (iht hr).imp fun m hm => hm
    · exact (ihe hr).imp fun m hm => hm
    · cases hr
  | block id x ih =>
    intro F h r hr
    simp only [exec] at hr ⊢
    cases hs : exec E call loop x F h with
    | none => simp [hs] at hr
    | some s =>
      rw [hs] at hr
      exact (ih hs).imp fun m hm => by simp only [hm]; exact hr
  | loop x _ =>
    intro F h r hr
    exact hl x F h r hr
  | _ => intro F h r hr; exact .all fun _ => hr
theorem body_to (hc : CallTo c call) (hl : LoopTo l loop) : CallTo (fun m => body E (c m) (l m)) (body E call loop) := by
  intro f args h r hr
  unfold body at hr ⊢
  cases hf : E.fn f with
  | none => simp [hf] at hr
  | some fn =>
    simp only [hf] at hr ⊢
    cases hb : fn.body with
    | none => simp [hb] at hr
    | some x =>
      simp only [hb] at hr ⊢
      cases ho : exec E call loop x (entry fn args) h with
      | none => simp [ho, leave] at hr
      | some o =>
        rw [ho] at hr
        exact (exec_to hc hl x ho).imp fun m hm => by rw [hm]; exact hr
theorem round_to (hc : CallTo c call) (hl : LoopTo l loop) : LoopTo (fun m => round E (c m) (l m)) (round E call loop) := by
  intro x F h r hr
  unfold round at hr ⊢
  cases hs : exec E call loop x F h with
  | none => simp [hs] at hr
  | some s =>
    have ia := exec_to hc hl x hs
    cases s with
    | normal F1 h1 =>
      simp only [hs] at hr
      exact (ia.and (hl _ _ _ _ hr)).imp fun m hm => by simp only [hm.1, hm.2]
    | exit i F1 h1 =>
      simp only [hs] at hr
      exact ia.imp fun m hm => by simp only [hm]; exact hr
    | ret F1 h1 =>
      simp only [hs] at hr
      exact ia.imp fun m hm => by simp only [hm]; exact hr

/-! ### More depth changes nothing -/
theorem ev_succ : ∀ n, (∀ f args h r, (ev E n).1 f args h = some r → (ev E (n + 1)).1 f args h = some r) ∧ (∀ x F h r, (ev E n).2 x F h = some r → (ev E (n + 1)).2 x F h = some r)
  | 0 => ⟨fun f args h r hr => (by cases hr), fun x F h r hr => (by cases hr)⟩
  | n + 1 => by
    obtain ⟨i1, i2⟩ := ev_succ n
    have hc : CallTo (fun _ => (ev E (n + 1)).1) (ev E n).1 := fun f args h r hr => .all fun _ => i1 f args h r hr
    have hl : LoopTo (fun _ => (ev E (n + 1)).2) (ev E n).2 := fun x F h r hr => .all fun _ => i2 x F h r hr
    refine ⟨fun f args h r hr => ?_, fun x F h r hr => ?_⟩
    · obtain ⟨k, hk⟩ := body_to hc hl f args h r hr
      exact hk k (Nat.le_refl k)
    · obtain ⟨k, hk⟩ := round_to hc hl x F h r hr
      exact hk k (Nat.le_refl k)
theorem ev_le {n m : Nat} (h : n ≤ m) : (∀ f args h r, (ev E n).1 f args h = some r → (ev E m).1 f args h = some r) ∧ (∀ x F h r, (ev E n).2 x F h = some r → (ev E m).2 x F h = some r) := by
  induction h with
  | refl => exact ⟨fun _ _ _ _ h => h, fun _ _ _ _ h => h⟩
  | step _ ih => exact ⟨fun f args h r hr => (ev_succ _).1 f args h r (ih.1 f args h r hr), fun x F h r hr => (ev_succ _).2 x F h r (ih.2 x F h r hr)⟩
open Classical in
noncomputable def callL (E : Env) : CallO := fun f args h => if h : ∃ r n, (ev E n).1 f args h = some r then some h.choose else none
open Classical in
noncomputable def loopL (E : Env) : LoopO := fun x F h => if h : ∃ r n, (ev E n).2 x F h = some r then some h.choose else none
theorem callL_of {f : FuncId} {args : List AV} {h : Heap} {r : AV × Heap} {n : Nat} (hr : (ev E n).1 f args h = some r) : callL E f args h = some r := by
  have hex : ∃ r n, (ev E n).1 f args h = some r := ⟨r, n, hr⟩
  unfold callL
  rw [dif_pos hex]
  obtain ⟨m, hm⟩ := hex.choose_spec
  have h1 := (ev_le (Nat.le_max_left n m)).1 _ _ _ _ hr
  have h2 := (ev_le (Nat.le_max_right n m)).1 _ _ _ _ hm
  rw [h1] at h2
  exact h2.symm
theorem loopL_of {x : Code} {F : Frm} {h : Heap} {r : Out} {n : Nat} (hr : (ev E n).2 x F h = some r) : loopL E x F h = some r := by
  have hex : ∃ r n, (ev E n).2 x F h = some r := ⟨r, n, hr⟩
  unfold loopL
  rw [dif_pos hex]
  obtain ⟨m, hm⟩ := hex.choose_spec
  have h1 := (ev_le (Nat.le_max_left n m)).2 _ _ _ _ hr
  have h2 := (ev_le (Nat.le_max_right n m)).2 _ _ _ _ hm
  rw [h1] at h2
  exact h2.symm
theorem callL_to : CallTo (fun n => (ev E n).1) (callL E) := fun f args h r hr => by
  unfold callL at hr
  split at hr
  · rename_i hex
    cases hr
    obtain ⟨m, hm⟩ := hex.choose_spec
    exact ⟨m, fun k hk => (ev_le hk).1 _ _ _ _ hm⟩
  · cases hr
theorem loopL_to : LoopTo (fun n => (ev E n).2) (loopL E) := fun x F h r hr => by
  unfold loopL at hr
  split at hr
  · rename_i hex
    cases hr
    obtain ⟨m, hm⟩ := hex.choose_spec
    exact ⟨m, fun k hk => (ev_le hk).2 _ _ _ _ hm⟩
  · cases hr
/-- To run a function: run its body. -/
theorem callL_body {f : FuncId} {args : List AV} {h : Heap} {r : AV × Heap} (hr : body E (callL E) (loopL E) f args h = some r) : callL E f args h = some r := by
  obtain ⟨n, hn⟩ := body_to callL_to loopL_to f args h r hr
  exact callL_of (n := n + 1) (hn n (Nat.le_refl n))
/-- To run a loop: run a round. -/
theorem loopL_round {x : Code} {F : Frm} {h : Heap} {r : Out} (hr : round E (callL E) (loopL E) x F h = some r) : loopL E x F h = some r := by
  obtain ⟨n, hn⟩ := round_to callL_to loopL_to x F h r hr
  exact loopL_of (n := n + 1) (hn n (Nat.le_refl n))
theorem callL_sound (hP : ProgOK P E) : CallSound P (callL E) := fun f args h r hr => by
  obtain ⟨n, hn⟩ := callL_to f args h r hr
  exact (ev_sound hP n).1 f args h r (hn n (Nat.le_refl n))
end
end Go.Abs
