/- TopRival: items and jobs. -/
import Derived.Test.YtgdcimpndddepaaGreatAbs26
import Derived.Sort.Defs
import Derived.Lib.BitFns
import Derived.Test.YtgdcimpndddepaaGreatChecked
/- TopRival: items, jobs; what slices.SortFunc and awake come to (as given functions of the evaluator). -/
open Go Go.Proofs Go.Abs
namespace Rival
/-- An item of a job. -/
structure It where
  t : Int
  b : Int
  r : Int
  l : Int
  deriving Inhabited, DecidableEq
def It.av (x : It) : AV := .agg [.int .i64 x.t, .int .i64 x.b, .int .i64 x.r, .int .i64 x.l]
def its (l : List It) : List AV := l.map It.av
def jobV (l : List It) (w : Int) : AV := .agg [.lst (its l), .int .i64 w]
/-- Whole numbers as a slice. -/
def ints (l : List Int) : List AV := l.map (.int .i64)
/-- The block of an item. -/
def bk (l : List It) (x : Nat) : Int := (l.getD (x % l.length) default).b
def ltB (l : List It) (x y : Nat) : Bool := decide (bk l x - bk l y < 0)
def sortL (l : List It) (d : List Nat) : List Nat := (Go.Sort.pdq (ltB l) d.toArray 0 d.length (Lib.bitLen d.length) true true).toList
structure SortIn (args : List AV) (h : Heap) (b c : Nat) (l : List It) (w : Int) (d : List Nat) : Prop where
  args : args = [.ref b d.length 0 d.length, .func 51 [.ptr c 1 0 0]]
  row : h[b]? = some (.row false 1 (ints (d.map Int.ofNat)))
  job : h[c]? = some (.row false 2 [jobV l w])
  ok : ∀ x ∈ d, x < l.length
  blocks : ∀ x ∈ l, 0 ≤ x.b ∧ x.b ≤ 31
  small : d.length < 4611686018427387904
open Classical in
/-- What slices.SortFunc comes to. -/
noncomputable def sortN (args : List AV) (h : Heap) : Option (AV × Heap) :=
  if e : ∃ t : Nat × Nat × List It × Int × List Nat, SortIn args h t.1 t.2.1 t.2.2.1 t.2.2.2.1 t.2.2.2.2 then some (.tup [], h.set e.choose.1 (.row false 1 (ints ((sortL e.choose.2.2.1 e.choose.2.2.2.2).map Int.ofNat)))) else none
/-- What awake comes to. -/
def awakeN (args : List AV) (h : Heap) : Option (AV × Heap) :=
  match args with
  | [] => some (.bool true, h)
  | _ => none
noncomputable def natR (f : FuncId) : Option (List AV → Heap → Option (AV × Heap)) := bif Nat.beq f 50 then some sortN else bif Nat.beq f 13 then some awakeN else none
def cmR (f : Nat) : CM := bif ([4, 5, 6, 8, 9, 14, 15, 16, 17, 31, 32, 39] : List Nat).any (Nat.beq f) then .frz else bif ([7, 10, 11, 12, 18, 20, 21, 22, 23, 24, 25, 26, 27, 29, 30, 33, 34, 36, 37, 38, 40, 43, 44, 45, 46, 47, 52, 53, 54, 55, 56, 61, 63, 64, 66, 67, 69, 70, 81, 82, 89, 101, 110] : List Nat).any (Nat.beq f) then .pure else .full
def cm0 (f : Nat) : CM := bif Nat.beq f 13 then .pure else cmR f
noncomputable def env : Env := { envOf Tryz.prog cmR (fun _ => false) with nat := natR }
noncomputable def env0 : Env := envOf Tryz.prog cm0 (fun _ => false)
theorem nat_pure {f : FuncId} (hm : cmR f = .pure) : env.nat f = none := by
  show natR f = none
  unfold natR
  cases h1 : Nat.beq f 50
  · cases h2 : Nat.beq f 13
    · rfl
    · obtain rfl := Nat.eq_of_beq_eq_true h2
      cases hm
  · obtain rfl := Nat.eq_of_beq_eq_true h1
    cases hm
theorem nat_frz {f : FuncId} (hm : cmR f = .frz) : env.nat f = none := by
  show natR f = none
  unfold natR
  cases h1 : Nat.beq f 50
  · cases h2 : Nat.beq f 13
    · rfl
    · obtain rfl := Nat.eq_of_beq_eq_true h2
      cases hm
  · obtain rfl := Nat.eq_of_beq_eq_true h1
    cases hm
end Rival
