/- Abstract values for the model's values, the relation between them and memory, and what of it stays when memory grows. -/
import Derived.Calls
import Derived.Orders
import Derived.Defers
import Derived.Below
import Derived.KernelRfl
namespace Go.Abs
noncomputable section
open Go.RowKit (Below)

/-- An abstract value. A slice is 'lst' (immutable contents, by value), 'ref' (a part of a row of the abstract heap), 'nil' or 'emp' (no capacity). -/
inductive AV where
  | bool (b : Bool)
  | int (k : IntKind) (n : Int)
  | str (s : ByteArray)
  | unk
  | nilptr
  | ptr (b g i o : Nat)
  | iptr (e : AV) (o : Nat)
  | nil
  | emp
  | lst (es : List AV)
  | ref (b g s n : Nat)
  | agg (cs : List AV)
  | tup (vs : List AV)
  | func (f : Nat) (cap : List AV)
  | nilfunc
  | map (b : Nat)
  | nilmap
  | iface (t : Nat) (v : AV)
  | niliface
  deriving Inhabited

def AV.cells : AV → List AV
  | .agg cs => cs
  | v => [v]

structure RowLoc where
  cur : Nat
  cb : Nat
  co : Nat
  cap : Nat
  sz : Nat

/-- Where an abstract row or map lies: 'ro': nobody may write it for now. -/
inductive Loc where
  | row (ro : Bool) (l : RowLoc)
  | virt
  | map (ro : Bool) (r : Nat)

abbrev RMap := Nat → Option Loc
def RMap.empty : RMap := fun _ => none

def Loc.block : Loc → Option Nat
  | .row _ l => some l.cb
  | .virt => none
  | .map _ r => some r

def Loc.owns : Loc → Nat → Prop
  | .row false l, k => l.cb = k
  | .map false r, k => r = k
  | _, _ => False

/-- Blocks that the holder of ρ may write. -/
def Own (ρ : RMap) (k : Nat) : Prop := ∃ b loc, ρ b = some loc ∧ loc.owns k
def Mut (N : Nat → Prop) (ρ : RMap) (k : Nat) : Prop := N k ∨ Own ρ k

inductive VRel (w : World) (M : Nat → Prop) : RMap → AV → Value → Prop
  | bool {ρ} (b : Bool) : VRel w M ρ (.bool b) (.bool b)
  | int {ρ} (k : IntKind) (n : Int) : VRel w M ρ (.int k n) (.int k n)
  | str {ρ} (s : ByteArray) : VRel w M ρ (.str s) (.string s)
  | unk {ρ} (v : Value) : VRel w M ρ .unk v
  | nilptr {ρ} : VRel w M ρ .nilptr (.pointer none)
  | ptr {ρ : RMap} {b i o : Nat} {ro : Bool} {l : RowLoc} (h : ρ b = some (.row ro l)) : VRel w M ρ (.ptr b l.cur i o) (.pointer (some ⟨l.cb, l.co + i * l.sz + o, none⟩))
  | ptrOld {ρ : RMap} {b g i o : Nat} {ro : Bool} {l : RowLoc} (a : Addr) (h : ρ b = some (.row ro l)) (hg : g < l.cur) : VRel w M ρ (.ptr b g i o) (.pointer (some a))
  | iptr {ρ : RMap} {e : AV} {o cb base : Nat} (val : Nat → Value) (hM : ¬ M cb) (hlt : cb < w.heap.size)
      (hc : ∀ (j : Nat) (c : AV), e.cells[j]? = some c → w.cell? ⟨cb, base + j, none⟩ = some (val j))
      (hv : ∀ (j : Nat) (c : AV), e.cells[j]? = some c → VRel w M RMap.empty c (val j)) : VRel w M ρ (.iptr e o) (.pointer (some ⟨cb, base + o, none⟩))
  | nil {ρ} : VRel w M ρ .nil (.slice none 0 0)
  | emp {ρ} (a : Option Addr) : VRel w M ρ .emp (.slice a 0 0)
  | lst0 {ρ} (a : Option Addr) (cap : Nat) : VRel w M ρ (.lst []) (.slice a 0 cap)
  | lst {ρ : RMap} {sz : Nat} {es : List AV} {cb off n cap : Nat} (val : Nat → Nat → Value) (hn : es.length = n) (hcap : n ≤ cap) (hM : ¬ M cb) (hlt : cb < w.heap.size)
      (hs : ∀ (i : Nat) (e : AV), es[i]? = some e → e.cells.length = sz)
      (hc : ∀ (i j : Nat) (e c : AV), es[i]? = some e → e.cells[j]? = some c → w.cell? ⟨cb, off + i * sz + j, none⟩ = some (val i j))
      (hv : ∀ (i j : Nat) (e c : AV), es[i]? = some e → e.cells[j]? = some c → VRel w M RMap.empty c (val i j)) : VRel w M ρ (.lst es) (.slice (some ⟨cb, off, none⟩) n cap)
  | ref {ρ : RMap} {b s n : Nat} {ro : Bool} {l : RowLoc} (h : ρ b = some (.row ro l)) (hn : s + n ≤ l.cur) (hc : l.cur ≤ l.cap) :
      VRel w M ρ (.ref b l.cur s n) (.slice (some ⟨l.cb, l.co + s * l.sz, none⟩) n (l.cap - s))
  | refEnd {ρ : RMap} {b s : Nat} {ro : Bool} {l : RowLoc} (a : Option Addr) (h : ρ b = some (.row ro l)) (hs : s = l.cap) (hc : s = l.cur) : VRel w M ρ (.ref b l.cur s 0) (.slice a 0 0)
  | refVirt {ρ : RMap} {b : Nat} (a : Option Addr) (h : ρ b = some .virt) : VRel w M ρ (.ref b 0 0 0) (.slice a 0 0)
  | refOld {ρ : RMap} {b g s n : Nat} {ro : Bool} {l : RowLoc} (a : Option Addr) (cap : Nat) (h : ρ b = some (.row ro l)) (hg : g < l.cur) (hc : n ≤ cap) (ha : n = 0 ∨ a.isSome = true) : VRel w M ρ (.ref b g s n) (.slice a n cap)
  | agg {ρ : RMap} {cs : List AV} {vs : Array Value} (hn : cs.length = vs.size) (hv : ∀ (i : Nat) (c : AV), cs[i]? = some c → VRel w M ρ c (vs.getD i undef)) : VRel w M ρ (.agg cs) (.agg vs)
  | tup {ρ : RMap} {cs : List AV} {vs : Array Value} (hn : cs.length = vs.size) (hv : ∀ (i : Nat) (c : AV), cs[i]? = some c → VRel w M ρ c (vs.getD i undef)) : VRel w M ρ (.tup cs) (.tuple vs)
  | func {ρ : RMap} {f : Nat} {cs : List AV} {vs : Array Value} (hn : cs.length = vs.size) (hv : ∀ (i : Nat) (c : AV), cs[i]? = some c → VRel w M ρ c (vs.getD i undef)) : VRel w M ρ (.func f cs) (.func (.func f) #[] vs)
  | nilfunc {ρ} : VRel w M ρ .nilfunc .nilFunc
  | map {ρ : RMap} {b : Nat} {ro : Bool} {r : Nat} (h : ρ b = some (.map ro r)) : VRel w M ρ (.map b) (.map (some r))
  | nilmap {ρ} : VRel w M ρ .nilmap (.map none)
  | iface {ρ : RMap} {t : Nat} {v : AV} {c : Value} (h : VRel w M ρ v c) : VRel w M ρ (.iface t v) (.iface t c)
  | niliface {ρ} : VRel w M ρ .niliface .nilIface

/-- How a place may move on. -/
inductive LocLe : Loc → Option Loc → Prop
  | same (loc : Loc) : LocLe loc (some loc)
  | grown {ro : Bool} {l l' : RowLoc} (h : l.cur < l'.cur) : LocLe (.row false l) (some (.row ro l'))
  | laid {ro : Bool} {l' : RowLoc} (h : 0 < l'.cur) : LocLe .virt (some (.row ro l'))
  | frozen (l : RowLoc) : LocLe (.row false l) (some (.row true l))

def RMapLe (ρ ρ' : RMap) : Prop := ∀ b loc, ρ b = some loc → LocLe loc (ρ' b)
theorem RMapLe.refl (ρ : RMap) : RMapLe ρ ρ := fun _ loc h => by rw [h]; exact .same loc
theorem LocLe.trans {a b : Loc} {c : Option Loc} (h : LocLe a (some b)) (k : LocLe b c) : LocLe a c := by
  cases h with
  | same => exact k
  | grown h => cases k with
    | same => exact .grown h
    | grown k => exact .grown (Nat.lt_trans h k)
    | frozen => exact .grown h
  | laid h => cases k with
    | same => exact .laid h
    | grown k => exact .laid (Nat.lt_trans h k)
    | frozen => exact .laid h
  | frozen => cases k with
    | same => exact .frozen _
theorem RMapLe.trans {a b c : RMap} (h : RMapLe a b) (k : RMapLe b c) : RMapLe a c := fun x loc hx => by
  have h1 := h x loc hx
  cases hb : b x with
  | none => rw [hb] at h1; cases h1
  | some l => rw [hb] at h1; exact h1.trans (k x l hb)

theorem cell_lt {w : World} {a : Addr} {v : Value} (h : w.cell? a = some v) : a.block < w.heap.size := World.block_lt_of_cell? w a h

/-- A relation that holds goes on to hold. -/
theorem VRel.mono {w w' : World} {M M' : Nat → Prop} (hw : ∀ k, k < w.heap.size → ¬ M k → w'.heap[k]? = w.heap[k]?) (hsz : w.heap.size ≤ w'.heap.size)
    (hM : ∀ k, k < w.heap.size → M' k → M k) {ρ : RMap} {v : AV} {c : Value} (h : VRel w M ρ v c) : ∀ {ρ' : RMap}, RMapLe ρ ρ' → VRel w' M' ρ' v c := by
  have hcell : ∀ (a : Addr) (u : Value), ¬ M a.block → w.cell? a = some u → w'.cell? a = some u := fun a u hm hc => by
    rw [World.cell?_of_block (w := w) (hw _ (cell_lt hc) hm)]; exact hc
  induction h with
  | bool b => exact fun _ => .bool b
  | int k n => exact fun _ => .int k n
  | str s => exact fun _ => .str s
  | unk v => exact fun _ => .unk v
  | nilptr => exact fun _ => .nilptr
  | @ptr ρ b i o ro l h =>
    intro ρ' hle
    have h1 := hle _ _ h
    generalize hx : ρ' b = x at h1
    cases h1 with
    | same => exact .ptr hx
    | grown hg => exact .ptrOld _ hx hg
    | frozen => exact .ptr hx
  | @ptrOld ρ b g i o ro l a h hg =>
    intro ρ' hle
    have h1 := hle _ _ h
    generalize hx : ρ' b = x at h1
    cases h1 with
    | same => exact .ptrOld a hx hg
    | grown hg' => exact .ptrOld a hx (Nat.lt_trans hg hg')
    | frozen => exact .ptrOld a hx hg
  | iptr val hm hlt hc hv ih =>
    exact fun _ => .iptr val (fun hk => hm (hM _ hlt hk)) (Nat.lt_of_lt_of_le hlt hsz) (fun j c hj => hcell _ _ hm (hc j c hj)) (fun j c hj => ih j c hj (RMapLe.refl _))
  | nil => exact fun _ => .nil
  | emp a => exact fun _ => .emp a
  | lst0 a cap => exact fun _ => .lst0 a cap
  | lst val hn hcap hm hlt hs hc hv ih =>
    exact fun _ => .lst val hn hcap (fun hk => hm (hM _ hlt hk)) (Nat.lt_of_lt_of_le hlt hsz) hs (fun i j e c hi hj => hcell _ _ hm (hc i j e c hi hj)) (fun i j e c hi hj => ih i j e c hi hj (RMapLe.refl _))
  | @ref ρ b s n ro l h hn hc =>
    intro ρ' hle
    have h1 := hle _ _ h
    generalize hx : ρ' b = x at h1
    cases h1 with
    | same => exact .ref hx hn hc
    | grown hg => exact .refOld _ _ hx hg (by omega) (.inr rfl)
    | frozen => exact .ref hx hn hc
  | @refEnd ρ b s ro l a h hs hc =>
    intro ρ' hle
    have h1 := hle _ _ h
    generalize hx : ρ' b = x at h1
    cases h1 with
    | same => exact .refEnd a hx hs hc
    | grown hg => exact .refOld _ _ hx hg (by omega) (.inl rfl)
    | frozen => exact .refEnd a hx hs hc
  | @refVirt ρ b a h =>
    intro ρ' hle
    have h1 := hle _ _ h
    generalize hx : ρ' b = x at h1
    cases h1 with
    | same => exact .refVirt a hx
    | laid hg => exact .refOld _ _ hx hg (by omega) (.inl rfl)
  | @refOld ρ b g s n ro l a cap h hg hc ha =>
    intro ρ' hle
    have h1 := hle _ _ h
    generalize hx : ρ' b = x at h1
    cases h1 with
    | same => exact .refOld a cap hx hg hc ha
    | grown hg' => exact .refOld a cap hx (Nat.lt_trans hg hg') hc ha
    | frozen => exact .refOld a cap hx hg hc ha
  | agg hn hv ih => exact fun hle => .agg hn fun i c hi => ih i c hi hle
  | tup hn hv ih => exact fun hle => .tup hn fun i c hi => ih i c hi hle
  | func hn hv ih => exact fun hle => .func hn fun i c hi => ih i c hi hle
  | nilfunc => exact fun _ => .nilfunc
  | @map ρ b ro r h =>
    intro ρ' hle
    have h1 := hle _ _ h
    generalize hx : ρ' b = x at h1
    cases h1 with
    | same => exact .map hx
  | nilmap => exact fun _ => .nilmap
  | iface h ih => exact fun hle => .iface (ih hle)
  | niliface => exact fun _ => .niliface

end
end Go.Abs
