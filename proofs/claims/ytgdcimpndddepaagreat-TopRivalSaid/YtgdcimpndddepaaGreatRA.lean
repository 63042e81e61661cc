/- TopRival: which jobs are valid; codes. -/
import Derived.Test.YtgdcimpndddepaaGreatRN
/- TopRival: the types and functions it reaches. -/
open Go Go.Proofs Go.Abs
namespace Rival
theorem ti3 : tiOf Tryz.prog 3 = some ⟨(.int Go.IntKind.i64), 1, 8, (.int Go.IntKind.i64 (0)), true⟩ := by kernel_rfl
theorem ti4 : tiOf Tryz.prog 4 = some ⟨.bool, 1, 1, (.bool false), true⟩ := by kernel_rfl
theorem ti5 : tiOf Tryz.prog 5 = some ⟨(.int Go.IntKind.u8), 1, 1, (.int Go.IntKind.u8 (0)), true⟩ := by kernel_rfl
theorem ti9 : tiOf Tryz.prog 9 = some ⟨.str, 1, 16, (.str ⟨#[]⟩), true⟩ := by kernel_rfl
theorem ti22 : tiOf Tryz.prog 22 = some ⟨(.slice 60), 1, 24, .nil, true⟩ := by kernel_rfl
theorem ti24 : tiOf Tryz.prog 24 = some ⟨(.struct [⟨0, 22, 1, false⟩, ⟨1, 3, 1, false⟩]), 2, 32, (.agg [.nil, (.int Go.IntKind.i64 (0))]), true⟩ := by kernel_rfl
theorem ti25 : tiOf Tryz.prog 25 = some ⟨(.slice 3), 1, 24, .nil, true⟩ := by kernel_rfl
theorem ti27 : tiOf Tryz.prog 27 = some ⟨(.struct [⟨0, 3, 1, false⟩, ⟨1, 25, 1, false⟩]), 2, 32, (.agg [(.int Go.IntKind.i64 (0)), .nil]), true⟩ := by kernel_rfl
theorem ti29 : tiOf Tryz.prog 29 = some ⟨(.struct [⟨0, 27, 2, false⟩, ⟨2, 25, 1, false⟩]), 3, 56, (.agg [(.int Go.IntKind.i64 (0)), .nil, .nil]), true⟩ := by kernel_rfl
theorem ti30 : tiOf Tryz.prog 30 = some ⟨(.int Go.IntKind.i64), 1, 8, (.int Go.IntKind.i64 (0)), true⟩ := by kernel_rfl
theorem ti33 : tiOf Tryz.prog 33 = some ⟨(.slice 25), 1, 24, .nil, true⟩ := by kernel_rfl
theorem ti35 : tiOf Tryz.prog 35 = some ⟨(.struct [⟨0, 33, 1, false⟩, ⟨1, 3, 1, false⟩]), 2, 32, (.agg [.nil, (.int Go.IntKind.i64 (0))]), true⟩ := by kernel_rfl
theorem ti39 : tiOf Tryz.prog 39 = some ⟨(.slice 5), 1, 24, .nil, true⟩ := by kernel_rfl
theorem ti53 : tiOf Tryz.prog 53 = some ⟨(.ptr 56), 1, 8, .nilptr, true⟩ := by kernel_rfl
theorem ti56 : tiOf Tryz.prog 56 = some ⟨(.struct [⟨0, 24, 2, false⟩, ⟨2, 27, 2, false⟩, ⟨4, 33, 1, false⟩, ⟨5, 33, 1, false⟩, ⟨6, 3, 1, false⟩, ⟨7, 3, 1, false⟩]), 8, 128, (.agg [.nil, (.int Go.IntKind.i64 (0)), (.int Go.IntKind.i64 (0)), .nil, .nil, .nil, (.int Go.IntKind.i64 (0)), (.int Go.IntKind.i64 (0))]), true⟩ := by kernel_rfl
theorem ti60 : tiOf Tryz.prog 60 = some ⟨(.struct [⟨0, 3, 1, false⟩, ⟨1, 3, 1, false⟩, ⟨2, 3, 1, false⟩, ⟨3, 3, 1, false⟩]), 4, 32, (.agg [(.int Go.IntKind.i64 (0)), (.int Go.IntKind.i64 (0)), (.int Go.IntKind.i64 (0)), (.int Go.IntKind.i64 (0))]), true⟩ := by kernel_rfl
theorem ti62 : tiOf Tryz.prog 62 = some ⟨(.int Go.IntKind.u64), 1, 8, (.int Go.IntKind.u64 (0)), true⟩ := by kernel_rfl
theorem ti63 : tiOf Tryz.prog 63 = some ⟨(.slice 4), 1, 24, .nil, true⟩ := by kernel_rfl
theorem ti96 : tiOf Tryz.prog 96 = some ⟨.func, 1, 8, .nilfunc, true⟩ := by kernel_rfl
theorem ti114 : tiOf Tryz.prog 114 = some ⟨(.int Go.IntKind.i64), 1, 8, (.int Go.IntKind.i64 (0)), true⟩ := by kernel_rfl
theorem ti122 : tiOf Tryz.prog 122 = some ⟨(.int Go.IntKind.u32), 1, 4, (.int Go.IntKind.u32 (0)), true⟩ := by kernel_rfl
theorem ti124 : tiOf Tryz.prog 124 = some ⟨(.int Go.IntKind.u64), 1, 8, (.int Go.IntKind.u64 (0)), true⟩ := by kernel_rfl
theorem ti128 : tiOf Tryz.prog 128 = some ⟨(.int Go.IntKind.u64), 1, 8, (.int Go.IntKind.u64 (0)), true⟩ := by kernel_rfl
theorem ti132 : tiOf Tryz.prog 132 = some ⟨(.ptr 3), 1, 8, .nilptr, true⟩ := by kernel_rfl
theorem fn3 : fnOf Tryz.prog 3 = some Tryz.f3 := by kernel_rfl
theorem fn4 : fnOf Tryz.prog 4 = some Tryz.f4 := by kernel_rfl
theorem fn5 : fnOf Tryz.prog 5 = some Tryz.f5 := by kernel_rfl
theorem fn6 : fnOf Tryz.prog 6 = some Tryz.f6 := by kernel_rfl
theorem fn7 : fnOf Tryz.prog 7 = some Tryz.f7 := by kernel_rfl
theorem fn8 : fnOf Tryz.prog 8 = some Tryz.f8 := by kernel_rfl
theorem fn9 : fnOf Tryz.prog 9 = some Tryz.f9 := by kernel_rfl
theorem fn10 : fnOf Tryz.prog 10 = some Tryz.f10 := by kernel_rfl
theorem fn11 : fnOf Tryz.prog 11 = some Tryz.f11 := by kernel_rfl
theorem fn12 : fnOf Tryz.prog 12 = some Tryz.f12 := by kernel_rfl
theorem fn14 : fnOf Tryz.prog 14 = some Tryz.f14 := by kernel_rfl
theorem fn15 : fnOf Tryz.prog 15 = some Tryz.f15 := by kernel_rfl
theorem fn16 : fnOf Tryz.prog 16 = some Tryz.f16 := by kernel_rfl
theorem fn17 : fnOf Tryz.prog 17 = some Tryz.f17 := by kernel_rfl
theorem fn18 : fnOf Tryz.prog 18 = some Tryz.f18 := by kernel_rfl
theorem fn19 : fnOf Tryz.prog 19 = some Tryz.f19 := by kernel_rfl
theorem fn20 : fnOf Tryz.prog 20 = some Tryz.f20 := by kernel_rfl
theorem fn21 : fnOf Tryz.prog 21 = some Tryz.f21 := by kernel_rfl
theorem fn22 : fnOf Tryz.prog 22 = some Tryz.f22 := by kernel_rfl
theorem fn23 : fnOf Tryz.prog 23 = some Tryz.f23 := by kernel_rfl
theorem fn24 : fnOf Tryz.prog 24 = some Tryz.f24 := by kernel_rfl
theorem fn25 : fnOf Tryz.prog 25 = some Tryz.f25 := by kernel_rfl
theorem fn26 : fnOf Tryz.prog 26 = some Tryz.f26 := by kernel_rfl
theorem fn27 : fnOf Tryz.prog 27 = some Tryz.f27 := by kernel_rfl
theorem fn30 : fnOf Tryz.prog 30 = some Tryz.f30 := by kernel_rfl
theorem fn31 : fnOf Tryz.prog 31 = some Tryz.f31 := by kernel_rfl
theorem fn32 : fnOf Tryz.prog 32 = some Tryz.f32 := by kernel_rfl
theorem fn33 : fnOf Tryz.prog 33 = some Tryz.f33 := by kernel_rfl
theorem fn34 : fnOf Tryz.prog 34 = some Tryz.f34 := by kernel_rfl
theorem fn35 : fnOf Tryz.prog 35 = some Tryz.f35 := by kernel_rfl
theorem fn36 : fnOf Tryz.prog 36 = some Tryz.f36 := by kernel_rfl
theorem fn37 : fnOf Tryz.prog 37 = some Tryz.f37 := by kernel_rfl
theorem fn38 : fnOf Tryz.prog 38 = some Tryz.f38 := by kernel_rfl
theorem fn39 : fnOf Tryz.prog 39 = some Tryz.f39 := by kernel_rfl
theorem fn40 : fnOf Tryz.prog 40 = some Tryz.f40 := by kernel_rfl
theorem fn41 : fnOf Tryz.prog 41 = some Tryz.f41 := by kernel_rfl
theorem fn42 : fnOf Tryz.prog 42 = some Tryz.f42 := by kernel_rfl
theorem fn43 : fnOf Tryz.prog 43 = some Tryz.f43 := by kernel_rfl
theorem fn44 : fnOf Tryz.prog 44 = some Tryz.f44 := by kernel_rfl
theorem fn45 : fnOf Tryz.prog 45 = some Tryz.f45 := by kernel_rfl
theorem fn46 : fnOf Tryz.prog 46 = some Tryz.f46 := by kernel_rfl
theorem fn47 : fnOf Tryz.prog 47 = some Tryz.f47 := by kernel_rfl
theorem fn50 : fnOf Tryz.prog 50 = some Tryz.f50 := by kernel_rfl
theorem fn51 : fnOf Tryz.prog 51 = some Tryz.f51 := by kernel_rfl
theorem fn52 : fnOf Tryz.prog 52 = some Tryz.f52 := by kernel_rfl
theorem fn53 : fnOf Tryz.prog 53 = some Tryz.f53 := by kernel_rfl
theorem fn54 : fnOf Tryz.prog 54 = some Tryz.f54 := by kernel_rfl
theorem fn55 : fnOf Tryz.prog 55 = some Tryz.f55 := by kernel_rfl
theorem fn56 : fnOf Tryz.prog 56 = some Tryz.f56 := by kernel_rfl
theorem fn57 : fnOf Tryz.prog 57 = some Tryz.f57 := by kernel_rfl
theorem fn65 : fnOf Tryz.prog 65 = some Tryz.f65 := by kernel_rfl
theorem fn66 : fnOf Tryz.prog 66 = some Tryz.f66 := by kernel_rfl
theorem fn73 : fnOf Tryz.prog 73 = some Tryz.f73 := by kernel_rfl
theorem fn74 : fnOf Tryz.prog 74 = some Tryz.f74 := by kernel_rfl
theorem fn75 : fnOf Tryz.prog 75 = some Tryz.f75 := by kernel_rfl
theorem fn76 : fnOf Tryz.prog 76 = some Tryz.f76 := by kernel_rfl
theorem fn77 : fnOf Tryz.prog 77 = some Tryz.f77 := by kernel_rfl
theorem fn78 : fnOf Tryz.prog 78 = some Tryz.f78 := by kernel_rfl
theorem fn79 : fnOf Tryz.prog 79 = some Tryz.f79 := by kernel_rfl
theorem fn80 : fnOf Tryz.prog 80 = some Tryz.f80 := by kernel_rfl
theorem fn81 : fnOf Tryz.prog 81 = some Tryz.f81 := by kernel_rfl
theorem fn82 : fnOf Tryz.prog 82 = some Tryz.f82 := by kernel_rfl
theorem fn88 : fnOf Tryz.prog 88 = some Tryz.f88 := by kernel_rfl
theorem fn89 : fnOf Tryz.prog 89 = some Tryz.f89 := by kernel_rfl
theorem fn90 : fnOf Tryz.prog 90 = some Tryz.f90 := by kernel_rfl
theorem fn91 : fnOf Tryz.prog 91 = some Tryz.f91 := by kernel_rfl
theorem fn92 : fnOf Tryz.prog 92 = some Tryz.f92 := by kernel_rfl
theorem fn104 : fnOf Tryz.prog 104 = some Tryz.f104 := by kernel_rfl
end Rival

/- TopRival: rules by which simp runs the code; whole numbers, bytes, items as slices. -/
open Go Go.Proofs Go.Abs
namespace Rival
theorem envti (t : TypeId) : env.ti t = tiOf Tryz.prog t := by kernel_rfl
theorem envfn (t : TypeId) : env.fn t = fnOf Tryz.prog t := by kernel_rfl
attribute [simp] envti envfn
theorem ofN (a : Nat) (ha : a < 2 ^ 62) : (BitVec.ofInt 64 (a : Int)).toNat = a := by
  simp [BitVec.toNat_ofInt]; omega
theorem wrapN (a : Nat) (ha : a < 2 ^ 62) : IntKind.i64.wrap (a : Int) = a := wrap64 (by omega) (by omega)
section
variable {E : Env} (t : TypeId)
theorem bin_andN (a b : Nat) (ha : a < 2 ^ 62) (hb : b < 2 ^ 62) : binA E .and t (.int .i64 a) (.int .i64 b) = some (.int .i64 ((a &&& b : Nat) : Int)) := by
  have h3 : a &&& b ≤ a := Nat.and_le_left
  rw [bin_and]
  show some (AV.int .i64 (IntKind.i64.wrap (((BitVec.ofInt 64 (a : Int) &&& BitVec.ofInt 64 (b : Int)).toNat : Nat) : Int))) = _
  rw [BitVec.toNat_and, ofN a ha, ofN b hb, wrapN _ (by omega)]
theorem bin_orN (a b : Nat) (ha : a < 2 ^ 62) (hb : b < 2 ^ 62) : binA E .or t (.int .i64 a) (.int .i64 b) = some (.int .i64 ((a ||| b : Nat) : Int)) := by
  have h3 : a ||| b < 2 ^ 62 := Nat.or_lt_two_pow ha hb
  rw [bin_or]
  show some (AV.int .i64 (IntKind.i64.wrap (((BitVec.ofInt 64 (a : Int) ||| BitVec.ofInt 64 (b : Int)).toNat : Nat) : Int))) = _
  rw [BitVec.toNat_or, ofN a ha, ofN b hb, wrapN _ h3]
theorem bin_xorN (a b : Nat) (ha : a < 2 ^ 62) (hb : b < 2 ^ 62) : binA E .xor t (.int .i64 a) (.int .i64 b) = some (.int .i64 ((a ^^^ b : Nat) : Int)) := by
  have h3 : a ^^^ b < 2 ^ 62 := Nat.xor_lt_two_pow ha hb
  rw [bin_xor]
  show some (AV.int .i64 (IntKind.i64.wrap (((BitVec.ofInt 64 (a : Int) ^^^ BitVec.ofInt 64 (b : Int)).toNat : Nat) : Int))) = _
  rw [BitVec.toNat_xor, ofN a ha, ofN b hb, wrapN _ h3]
theorem bin_shrN (a b : Nat) (hb : b < 64) : binA E .shr t (.int .i64 a) (.int .i64 b) = some (.int .i64 ((a >>> b : Nat) : Int)) := by
  rw [bin_shr, if_neg (by omega)]
  have h1 : min (b : Int).toNat IntKind.i64.bits = b := by simp [IntKind.bits]; omega
  rw [h1, Nat.shiftRight_eq_div_pow]
  congr 2
  have h2 : ((2 : Int) ^ b) = ((2 ^ b : Nat) : Int) := by simp
  rw [h2]
  exact (Int.fdiv_eq_ediv_of_nonneg _ (Int.natCast_nonneg _)).trans (by simp)

end
theorem callE {f : FuncId} (hm : cmR f = .pure) {args : List AV} {r : AV × Heap} {v : AV} (hcl : args.all (closed? depth) = true) (hc : callL env f args [] = some r) (hs : snap .any depth r.2 r.1 = some v) (h : Heap) : callN env (callL env) f args h = some (v, h) := by
  have h1 : env.nat f = none := nat_pure hm
  have h2 : env.cm f = .pure := hm
  unfold callN
  simp only [h1, h2, hcl, cond_true, hc, Option.bind_some, hs, Option.map_some]
theorem closed_int (k : IntKind) (n : Int) : closed? depth (.int k n) = true := rfl
theorem wrap8 (n : Nat) : IntKind.u8.wrap (n : Int) = ((n % 256 : Nat) : Int) := by
  simp [IntKind.wrap, IntKind.bits, IntKind.signed]
theorem conv_int {s d : TypeId} {k0 k : IntKind} {sk : TK} (hs : kd env s = some sk) (hd : kd env d = some (.int k)) (n : Int) (h : Heap) : convA env s d h (.int k0 n) = some (.int k (k.wrap n), h) := by
  simp only [convA, hs, hd]
attribute [simp] ti3 ti4 ti5 ti9 ti22 ti24 ti25 ti27 ti29 ti30 ti33 ti35 ti39 ti53 ti56 ti60 ti62 ti63 ti96 ti114 ti122 ti124 ti128 ti132
attribute [simp] fn3 fn4 fn5 fn6 fn7 fn8 fn9 fn10 fn11 fn12 fn14 fn15 fn16 fn17 fn18 fn19 fn20 fn21 fn22 fn23 fn24 fn25 fn26 fn27 fn30 fn31 fn32 fn33 fn34 fn35 fn36 fn37 fn38 fn39 fn40 fn41 fn42 fn43 fn44 fn45 fn46 fn47 fn50 fn51 fn52 fn53 fn54 fn55 fn56 fn57 fn65 fn66 fn73 fn74 fn75 fn76 fn77 fn78 fn79 fn80 fn81 fn82 fn88 fn89 fn90 fn91 fn92 fn104
attribute [simp] kd entry loadP storeP setE builtinA lenA fieldAddrA fieldA partA fillA fillS sub splice TK.isAgg TK.isInt snoc unA
theorem get_app (h t : Heap) (k : Nat) : (h ++ t)[h.length + k]? = t[k]? := by
  rw [List.getElem?_append_right (by omega)]; congr 1; omega
theorem get_app0 (h t : Heap) : (h ++ t)[h.length]? = t[0]? := get_app h t 0
theorem set_app (h t : Heap) (k : Nat) (e : Ent) : (h ++ t).set (h.length + k) e = h ++ t.set k e := by
  rw [List.set_append_right _ _ (by omega)]; congr 2; omega
theorem set_app0 (h t : Heap) (e : Ent) : (h ++ t).set h.length e = h ++ t.set 0 e := set_app h t 0 e
attribute [simp] get_app get_app0 set_app set_app0
theorem cells_bool (b : Bool) : AV.cells (.bool b) = [.bool b] := rfl
theorem one_bool (b : Bool) : AV.one (.bool b) = true := rfl
theorem solid_bool (b : Bool) : AV.solid (.bool b) = true := rfl
theorem cells_int (k : IntKind) (n : Int) : AV.cells (.int k n) = [.int k n] := rfl
theorem one_int (k : IntKind) (n : Int) : AV.one (.int k n) = true := rfl
theorem solid_int (k : IntKind) (n : Int) : AV.solid (.int k n) = true := rfl
theorem cells_ptr (b g i o : Nat) : AV.cells (.ptr b g i o) = [.ptr b g i o] := rfl
theorem one_ptr (b g i o : Nat) : AV.one (.ptr b g i o) = true := rfl
theorem solid_ptr (b g i o : Nat) : AV.solid (.ptr b g i o) = true := rfl
theorem cells_ref (b g s n : Nat) : AV.cells (.ref b g s n) = [.ref b g s n] := rfl
theorem one_ref (b g s n : Nat) : AV.one (.ref b g s n) = true := rfl
theorem solid_ref (b g s n : Nat) : AV.solid (.ref b g s n) = true := rfl
theorem cells_nil  : AV.cells (.nil) = [.nil] := rfl
theorem one_nil  : AV.one (.nil) = true := rfl
theorem solid_nil  : AV.solid (.nil) = true := rfl
theorem cells_lst (es : List AV) : AV.cells (.lst es) = [.lst es] := rfl
theorem one_lst (es : List AV) : AV.one (.lst es) = true := rfl
theorem solid_lst (es : List AV) : AV.solid (.lst es) = true := rfl
theorem cells_iptr (e : AV) (o : Nat) : AV.cells (.iptr e o) = [.iptr e o] := rfl
theorem one_iptr (e : AV) (o : Nat) : AV.one (.iptr e o) = true := rfl
theorem solid_iptr (e : AV) (o : Nat) : AV.solid (.iptr e o) = true := rfl
theorem cells_emp  : AV.cells (.emp) = [.emp] := rfl
theorem one_emp  : AV.one (.emp) = true := rfl
theorem solid_emp  : AV.solid (.emp) = true := rfl
theorem cells_agg (cs : List AV) : AV.cells (.agg cs) = cs := rfl
theorem solid_agg (cs : List AV) : AV.solid (.agg cs) = true := rfl
attribute [simp] cells_bool one_bool solid_bool cells_int one_int solid_int cells_ptr one_ptr solid_ptr cells_ref one_ref solid_ref cells_nil one_nil solid_nil cells_lst one_lst solid_lst cells_iptr one_iptr solid_iptr cells_emp one_emp solid_emp cells_agg solid_agg
theorem k3 : kd env 3 = some (.int Go.IntKind.i64) := by simp [kd]
theorem k4 : kd env 4 = some .bool := by simp [kd]
theorem k5 : kd env 5 = some (.int Go.IntKind.u8) := by simp [kd]
theorem k9 : kd env 9 = some .str := by simp [kd]
theorem k22 : kd env 22 = some (.slice 60) := by simp [kd]
theorem k25 : kd env 25 = some (.slice 3) := by simp [kd]
theorem k30 : kd env 30 = some (.int Go.IntKind.i64) := by simp [kd]
theorem k33 : kd env 33 = some (.slice 25) := by simp [kd]
theorem k39 : kd env 39 = some (.slice 5) := by simp [kd]
theorem k53 : kd env 53 = some (.ptr 56) := by simp [kd]
theorem k62 : kd env 62 = some (.int Go.IntKind.u64) := by simp [kd]
theorem k63 : kd env 63 = some (.slice 4) := by simp [kd]
theorem k96 : kd env 96 = some .func := by simp [kd]
theorem k114 : kd env 114 = some (.int Go.IntKind.i64) := by simp [kd]
theorem k122 : kd env 122 = some (.int Go.IntKind.u32) := by simp [kd]
theorem k124 : kd env 124 = some (.int Go.IntKind.u64) := by simp [kd]
theorem k128 : kd env 128 = some (.int Go.IntKind.u64) := by simp [kd]
theorem k132 : kd env 132 = some (.ptr 3) := by simp [kd]
theorem tmodN {a b : Int} (h : 0 ≤ a) : a.tmod b = a % b := Int.tmod_eq_emod_of_nonneg h
theorem tdivN {a b : Int} (h : 0 ≤ a) : a.tdiv b = a / b := Int.tdiv_eq_ediv_of_nonneg h
theorem ints_length (l : List Int) : (ints l).length = l.length := by simp [ints]
attribute [simp] ints_length
theorem ints_all (l : List Int) : (ints l).all (fun e => e.cells.length == 1) = true := by simp [ints]
theorem nth_getD {α : Type} (d : α) : ∀ (l : List α) (i : Nat), nth d l i = l.getD i d
  | [], i => by simp [nth]
  | a :: l, 0 => by simp
  | a :: l, i + 1 => by rw [nth_succ, nth_getD d l i]; simp
theorem wrapI {x : Int} (h1 : -9223372036854775808 ≤ x) (h2 : x ≤ 9223372036854775807) : IntKind.i64.wrap x = x := wrap64 h1 h2
theorem decT {p : Prop} [Decidable p] (h : p) : decide p = true := by simpa using h
theorem decF {p : Prop} [Decidable p] (h : ¬ p) : decide p = false := by simpa using h
theorem load_int (k : IntKind) (n : Int) : loadE false 1 (.int k n) 0 = some (.int k n) := rfl
theorem load_agg1 (cs : List AV) (o : Nat) : loadE false 1 (.agg cs) o = cs[o]? := rfl
attribute [simp] load_agg1 load_int
/-- Is there room behind an append? -/
def roomIf (n k bytes : Nat) (r : AV × Heap) : Option (AV × Heap) := if k = 0 ∨ (n + k) * bytes ≤ 140737488355328 ∧ n + k ≤ 140737488355328 then some r else none
theorem roomIf_ok (n k bytes : Nat) (r : AV × Heap) (h1 : (n + k) * bytes ≤ 140737488355328) (h2 : n + k ≤ 140737488355328) : roomIf n k bytes r = some r := by
  unfold roomIf
  rw [if_pos (.inr ⟨h1, h2⟩)]
def allOne (l : List AV) : Bool := l.all (fun e => e.cells.all AV.one)
theorem allOne_nil : allOne [] = true := rfl
theorem allOne_cons (a : AV) (l : List AV) : allOne (a :: l) = (a.cells.all AV.one && allOne l) := rfl
def appR (sz bytes : Nat) (h : Heap) (b n : Nat) (new : List AV) : Option (AV × Heap) := match h[b]? with
  | some (.row false z es) => if z = sz ∧ es.length = n ∧ allOne new = true then roomIf n new.length bytes (.ref b (n + new.length) 0 (n + new.length), h.set b (.row false z (es ++ new))) else none
  | _ => none
set_option maxRecDepth 100000 in
theorem append_ref {t e : TypeId} {ei : TI} (ht : kd env t = some (.slice e)) (he : env.ti e = some ei) (hs : ei.size ≠ 0) (h : Heap) (p b n : Nat) (ins : Heap → Ent → Heap) (x : AV) :
    appendA env t t h p ins (.ref b n 0 n) x = (newsA h ei.size x).bind fun new => appR ei.size ei.bytes h b n new := by
  have hi : TK.isInt (.slice e) = false := rfl
  unfold appendA appR allOne
  simp only [ht, he, hi, Bool.false_eq_true, if_false, hs, Nat.zero_add, Nat.le_refl, true_and]
  congr 1
  funext new
  cases hb : h[b]? with
  | none => rfl
  | some ent =>
    cases ent with
    | row ro z es =>
      cases ro
      · simp only
        by_cases c : z = ei.size ∧ es.length = n ∧ (new.all fun e => e.cells.all AV.one) = true
        · rw [if_pos c, if_pos c]
          obtain ⟨rfl, rfl, _⟩ := c
          by_cases hk : new.length = 0
          · obtain rfl : new = [] := List.eq_nil_of_length_eq_zero hk
            simp [roomIf]
          · have : ¬ es.length + new.length ≤ es.length := by omega
            simp only [this, if_false, roomIf, hk, false_or, List.take_length]
        · rw [if_neg c, if_neg c]
      · rfl
    | _ => rfl
theorem news_ref (h : Heap) (sz b g s n : Nat) : newsA h sz (.ref b g s n) = items h sz (.ref b g s n) := rfl
theorem news_ints (h : Heap) (l : List Int) : newsA h 1 (.lst (ints l)) = some (ints l) := by
  have h1 : newsA h 1 (.lst (ints l)) = if (ints l).all (fun e => e.cells.length == 1) = true then some (ints l) else none := rfl
  rw [h1, ints_all, if_pos rfl]
theorem ints_one (l : List Int) : allOne (ints l) = true := by simp [allOne, ints]
theorem ints_append (a b : List Int) : ints (a ++ b) = ints a ++ ints b := by simp [ints]
theorem ints_cons (x : Int) (b : List Int) : ints (x :: b) = .int .i64 x :: ints b := rfl
theorem ints_nil : ints [] = [] := rfl
theorem ints_snoc (a : List Int) (x : Int) : ints a ++ [.int .i64 x] = ints (a ++ [x]) := by simp [ints]
theorem ints_app (a b : List Int) : ints a ++ ints b = ints (a ++ b) := by simp [ints]
/-- Bytes. -/
def byts (l : List Nat) : List AV := l.map (fun (n : Nat) => AV.int .u8 n)
theorem byts_length (l : List Nat) : (byts l).length = l.length := by simp [byts]
theorem byts_all (l : List Nat) : (byts l).all (fun e => e.cells.length == 1) = true := by simp [byts]
attribute [simp] news_ref news_ints allOne_nil allOne_cons ints_one roomIf_ok items appR ints_snoc ints_app byts_length
section
variable {E : Env} {call : CallO} {loop : LoopO} {F : Frm} {h : Heap} {Q : Out → Prop}
noncomputable def seqK (E : Env) (call : CallO) (loop : LoopO) (b : Code) : Out → Option Out
  | .normal F h => exec E call loop b F h
  | r => some r
def blkK (id : Nat) : Out → Option Out
  | .exit i F h => if i = id then some (.normal F h) else some (.exit i F h)
  | r => some r
noncomputable def rndK (loop : LoopO) (c : Code) : Out → Option Out
  | .normal F h => loop c F h
  | r => some r
theorem gives_seq {a b : Code} (hg : Gives (exec E call loop a F h) fun o => Gives (seqK E call loop b o) Q) : Gives (exec E call loop (.seq a b) F h) Q := by
  obtain ⟨o, h1, h2⟩ := gives_iff.1 hg
  have : exec E call loop (.seq a b) F h = seqK E call loop b o := by
    simp only [exec, h1]
    cases o <;> rfl
  rw [this]; exact h2
theorem gives_block {id : Nat} {c : Code} (hg : Gives (exec E call loop c F h) fun o => Gives (blkK id o) Q) : Gives (exec E call loop (.block id c) F h) Q := by
  obtain ⟨o, h1, h2⟩ := gives_iff.1 hg
  have : exec E call loop (.block id c) F h = blkK id o := by
    simp only [exec, h1]
    cases o <;> try rfl
    simp [blkK]
  rw [this]; exact h2
theorem gives_round {c : Code} (hg : Gives (exec E call loop c F h) fun o => Gives (rndK loop c o) Q) : Gives (round E call loop c F h) Q := by
  obtain ⟨o, h1, h2⟩ := gives_iff.1 hg
  have : round E call loop c F h = rndK loop c o := by
    simp only [round, h1]
    cases o <;> rfl
  rw [this]; exact h2
end
def sq0 : Code → Code
  | .seq a _ => a
  | c => c
def sq1 : Code → Code
  | .seq _ b => b
  | c => c
def blk : Code → Code
  | .block _ c => c
  | c => c
attribute [simp] sq0 sq1 blk
theorem loadP_iptr (h : Heap) (isA : Bool) (size : Nat) (e : AV) (o : Nat) : loadP h isA size (.iptr e o) = loadE isA size e o := rfl
attribute [simp] loadP_iptr
theorem gives_code {E : Env} {call : CallO} {loop : LoopO} {F : Frm} {h : Heap} {Q : Out → Prop} {c c' : Code} (hc : c = c') (hg : Gives (exec E call loop c' F h) Q) : Gives (exec E call loop c F h) Q := by rw [hc]; exact hg
/-- Slots that stay as they are. -/
def Keep (ks : List Nat) (sl sl' : List (Nat × AV)) : Prop := ∀ t ∈ ks, getS sl' (.tup []) t = getS sl (.tup []) t
theorem Keep.trans {ks : List Nat} {a b c : List (Nat × AV)} (h : Keep ks a b) (g : Keep ks b c) : Keep ks a c := fun t ht => (g t ht).trans (h t ht)
theorem Keep.refl (ks : List Nat) (a : List (Nat × AV)) : Keep ks a a := fun _ _ => rfl
theorem Keep.get {ks : List Nat} {sl sl' : List (Nat × AV)} (h : Keep ks sl sl') {t : Nat} {v : AV} (hg : getS sl (.tup []) t = v) (ht : t ∈ ks) : getS sl' (.tup []) t = v := (h t ht).trans hg
theorem nth_drop {α : Type} (d : α) (l : List α) (i n : Nat) : nth d (l.drop i) n = nth d l (i + n) := by
  rw [nth_getD, nth_getD, List.getD_eq_getElem?_getD, List.getD_eq_getElem?_getD, List.getElem?_drop]
theorem gives_codeL {E : Env} {F : Frm} {h : Heap} {Q : Out → Prop} {c c' : Code} (hc : c = c') (hg : Gives (loopL E c' F h) Q) : Gives (loopL E c F h) Q := by rw [hc]; exact hg
end Rival

/- TopRival: items; which jobs are valid. -/
open Go Go.Proofs Go.Abs
namespace Rival
theorem its_length (l : List It) : (its l).length = l.length := by simp [its]
attribute [simp] its_length
theorem its_all (l : List It) : (its l).all (fun e => e.cells.length == 4) = true := by simp [its, It.av]
theorem index_ints (l : List Int) (i : Int) (h : Heap) (h0 : 0 ≤ i) (h1 : i < l.length) : indexAddrA env 25 h (.lst (ints l)) (.int .i64 i) = some (.iptr (.int .i64 (nth 0 l i.toNat)) 0) := by
  unfold indexAddrA
  have h2 : i.toNat < l.length := by omega
  simp only [kd, envti, ti25, ti3, Option.map_some, ints_length, h0, h1, ints_all, and_self, if_true]
  simp [ints, h2, nth_getD, List.getD_eq_getElem?_getD]
theorem index_its (l : List It) (i : Int) (h : Heap) (h0 : 0 ≤ i) (h1 : i < l.length) : indexAddrA env 22 h (.lst (its l)) (.int .i64 i) = some (.iptr (nth default l i.toNat).av 0) := by
  unfold indexAddrA
  have h2 : i.toNat < l.length := by omega
  simp only [kd, envti, ti22, ti60, Option.map_some, its_length, h0, h1, its_all, and_self, if_true]
  simp [its, h2, nth_getD, List.getD_eq_getElem?_getD]
theorem load_it (p : It) : loadE true 4 p.av 0 = some p.av := rfl
theorem load_it0 (p : It) : loadE false 1 p.av 0 = some (.int .i64 p.t) := rfl
theorem load_it1 (p : It) : loadE false 1 p.av 1 = some (.int .i64 p.b) := rfl
theorem load_it2 (p : It) : loadE false 1 p.av 2 = some (.int .i64 p.r) := rfl
theorem load_it3 (p : It) : loadE false 1 p.av 3 = some (.int .i64 p.l) := rfl
theorem cells_it (p : It) : p.av.cells = [.int .i64 p.t, .int .i64 p.b, .int .i64 p.r, .int .i64 p.l] := rfl
theorem solid_it (p : It) : p.av.solid = true := rfl
attribute [simp] cells_it solid_it load_it load_it0 load_it1 load_it2 load_it3
def inB (n lo hi : Int) : Bool := decide (lo ≤ n) && decide (n ≤ hi)
theorem in_ok (n lo hi : Int) : Gives (callL env 44 [.int .i64 n, .int .i64 lo, .int .i64 hi] []) fun r => r.1 = .bool (inB n lo hi) := by
  apply gives_call
  by_cases h1 : lo ≤ n <;> simp [Tryz.f44, inB, h1]
theorem c44 (n lo hi : Int) (h : Heap) : callN env (callL env) 44 [.int .i64 n, .int .i64 lo, .int .i64 hi] h = some (.bool (inB n lo hi), h) := by
  obtain ⟨r, hr, h1⟩ := gives_iff.1 (in_ok n lo hi)
  exact callE rfl rfl hr (by rw [h1]; rfl) h
theorem in47_ok (n lo hi : Int) : Gives (callL env 47 [.int .i64 n, .int .i64 lo, .int .i64 hi] []) fun r => r.1 = .bool (inB n lo hi) := by
  apply gives_call
  by_cases h1 : lo ≤ n <;> simp [Tryz.f47, inB, h1]
theorem c47 (n lo hi : Int) (h : Heap) : callN env (callL env) 47 [.int .i64 n, .int .i64 lo, .int .i64 hi] h = some (.bool (inB n lo hi), h) := by
  obtain ⟨r, hr, h1⟩ := gives_iff.1 (in47_ok n lo hi)
  exact callE rfl rfl hr (by rw [h1]; rfl) h
attribute [simp] c44 c47
def It.ok (x : It) : Bool := inB x.t 0 15 && inB x.b 0 31 && inB x.r 0 12 && inB x.l 1 400
/-- The first error of a list of items from a place on. -/
def vIt (l : List It) : Nat → Nat → Int
  | 0, _ => 0
  | k + 1, i => if (nth default l i).ok = false then 2 else if 0 < i ∧ (nth default l i).r < (nth default l (i - 1)).r then 12 else vIt l k (i + 1)
def vJob (l : List It) (w : Int) : Int := if 96 < l.length then 3 else if inB w 0 12 = false then 2 else vIt l l.length 0
theorem pl30_0 : plainD env (dr Tryz.f30 0) = true := by kernel_rfl
theorem pl20_0 : plainD env (dr Tryz.f20 0) = true := by kernel_rfl
set_option maxHeartbeats 2000000 in
set_option maxRecDepth 100000 in
theorem valid_loop (l : List It) (w : Int) (hl : l.length ≤ 96) (Q : Out → Prop) : ∀ (k i : Nat) (sl : List (Nat × AV)) (tl : Heap), i + k = l.length → getS sl (.tup []) 1 = .ptr 0 1 0 0 → getS sl (.tup []) 14 = .lst (its l) → getS sl (.tup []) 15 = .int .i64 l.length → getS sl (.tup []) 16 = .int .i64 i →
    (∀ sl' h', vIt l k i = 0 → Q (.exit 0 ⟨58, .tup [], sl', []⟩ h')) → (∀ sl' h', getS sl' (.tup []) 2 = .int .i64 (vIt l k i) → Q (.ret ⟨58, .tup [], sl', []⟩ h')) →
    Gives (loopL env (lp Tryz.f30 0) ⟨58, .tup [], sl, []⟩ (.row false 2 [jobV l w] :: tl)) Q := by
  have p := pl30_0
  simp [dr, drs, Tryz.f30] at p
  intro k
  induction k with
  | zero =>
    intro i sl tl hi h1 h14 h15 h16 q1 q2
    refine gives_loop ?_
    simp (disch := omega) [lp, Tryz.f30, loops, h15, h16, decF]
    exact q1 _ _ rfl
  | succ k ih =>
    intro i sl tl hi h1 h14 h15 h16 q1 q2
    refine gives_loop ?_
    cases c1 : inB (nth default l i).t 0 15
    · have hok : (nth default l i).ok = false := by simp [It.ok, c1]
      simp (disch := omega) [lp, Tryz.f30, loops, h1, h14, h15, h16, decT, index_its, c1]
      exact q2 _ _ (by simp [vIt, hok])
    cases c2 : inB (nth default l i).b 0 31
    · have hok : (nth default l i).ok = false := by simp [It.ok, c1, c2]
      simp (disch := omega) [lp, Tryz.f30, loops, h1, h14, h15, h16, decT, index_its, c1, c2]
      exact q2 _ _ (by simp [vIt, hok])
    cases c3 : inB (nth default l i).r 0 12
    · have hok : (nth default l i).ok = false := by simp [It.ok, c1, c2, c3]
      simp (disch := omega) [lp, Tryz.f30, loops, h1, h14, h15, h16, decT, index_its, c1, c2, c3]
      exact q2 _ _ (by simp [vIt, hok])
    cases c4 : inB (nth default l i).l 1 400
    · have hok : (nth default l i).ok = false := by simp [It.ok, c1, c2, c3, c4]
      simp (disch := omega) [lp, Tryz.f30, loops, h1, h14, h15, h16, decT, index_its, c1, c2, c3, c4]
      exact q2 _ _ (by simp [vIt, hok])
    have hok : (nth default l i).ok = true := by simp [It.ok, c1, c2, c3, c4]
    by_cases c8 : 0 < i
    · have e1 : ((i : Int) - 1).toNat = i - 1 := by omega
      by_cases c9 : (nth default l i).r < (nth default l (i - 1)).r
      · simp (disch := omega) [lp, Tryz.f30, loops, h1, h14, h15, h16, decT, index_its, regionD_plain p, c1, c2, c3, c4, c8, c9, wrapI, e1, jobV]
        exact q2 _ _ (by simp [vIt, hok, c8, c9])
      · have hv : vIt l (k + 1) i = vIt l k (i + 1) := by simp only [vIt, hok, Bool.true_eq_false, if_false, c9, and_false]
        simp (disch := omega) [lp, Tryz.f30, loops, h1, h14, h15, h16, decT, index_its, regionD_plain p, c1, c2, c3, c4, c8, c9, wrapI, e1, jobV]
        exact ih (i + 1) _ _ (by omega) (by simp [h1]) (by simp [h14]) (by simp [h15]) (by simp) (fun sl' h' h => q1 sl' h' (by rw [hv, h])) (fun sl' h' h => q2 sl' h' (by rw [hv, h]))
    · have hv : vIt l (k + 1) i = vIt l k (i + 1) := by simp only [vIt, hok, Bool.true_eq_false, if_false, c8, false_and]
      simp (disch := omega) [lp, Tryz.f30, loops, h1, h14, h15, h16, decT, index_its, regionD_plain p, c1, c2, c3, c4, c8, wrapI]
      exact ih (i + 1) _ _ (by omega) (by simp [h1]) (by simp [h14]) (by simp [h15]) (by simp) (fun sl' h' h => q1 sl' h' (by rw [hv, h])) (fun sl' h' h => q2 sl' h' (by rw [hv, h]))
set_option maxHeartbeats 2000000 in
set_option maxRecDepth 100000 in
theorem valid_ok (l : List It) (w : Int) (hl : l.length < 2 ^ 62) : Gives (callL env 30 [jobV l w] []) fun r => r.1 = .int .i64 (vJob l w) := by
  apply gives_call
  by_cases h1 : 96 < l.length
  · simp (disch := omega) [Tryz.f30, jobV, decT, vJob, h1]
  · cases h2 : inB w 0 12
    · simp (disch := omega) [Tryz.f30, jobV, decT, decF, vJob, h1, h2]
    · simp (disch := omega) [Tryz.f30, jobV, decT, decF, vJob, h1, h2]
      generalize hx : loopL env _ _ _ = L
      apply gives_cut hx
      refine (valid_loop l w (by omega) _ l.length 0 _ _ (by omega) (by simp) (by simp) (by simp) (by simp) (fun sl' h' h => ?_) (fun sl' h' h => ?_))
      · simp [h]
      · simp [h]
set_option maxHeartbeats 4000000 in
set_option maxRecDepth 100000 in
theorem rvalid_loop (l : List It) (w : Int) (hl : l.length ≤ 96) (Q : Out → Prop) : ∀ (k i : Nat) (sl : List (Nat × AV)) (tl : Heap), i + k = l.length → getS sl (.tup []) 1 = .ptr 0 1 0 0 → getS sl (.tup []) 3 = .int .i64 i →
    (∀ sl' h', vIt l k i = 0 → Q (.exit 0 ⟨81, .tup [], sl', []⟩ h')) → (∀ sl' h', getS sl' (.tup []) 2 = .int .i64 (vIt l k i) → Q (.ret ⟨81, .tup [], sl', []⟩ h')) →
    Gives (loopL env (lp Tryz.f20 0) ⟨81, .tup [], sl, []⟩ (.row false 2 [jobV l w] :: tl)) Q := by
  have p := pl20_0
  simp [dr, drs, Tryz.f20] at p
  intro k
  induction k with
  | zero =>
    intro i sl tl hi h1 h3 q1 q2
    refine gives_loop ?_
    simp (disch := omega) [lp, Tryz.f20, loops, h1, h3, decF, jobV]
    exact q1 _ _ rfl
  | succ k ih =>
    intro i sl tl hi h1 h3 q1 q2
    refine gives_loop ?_
    by_cases c1 : (nth default l i).t < 0
    · have hok : (nth default l i).ok = false := by simp [It.ok, inB]; omega
      simp (disch := omega) [lp, Tryz.f20, loops, h1, h3, decT, index_its, regionD_plain p, jobV, c1]
      exact q2 _ _ (by simp [vIt, hok])
    by_cases c2 : 16 ≤ (nth default l i).t
    · have hok : (nth default l i).ok = false := by simp [It.ok, inB]; omega
      simp (disch := omega) [lp, Tryz.f20, loops, h1, h3, decT, index_its, regionD_plain p, jobV, c1, c2]
      exact q2 _ _ (by simp [vIt, hok])
    by_cases c3 : (nth default l i).b < 0
    · have hok : (nth default l i).ok = false := by simp [It.ok, inB]; omega
      simp (disch := omega) [lp, Tryz.f20, loops, h1, h3, decT, index_its, regionD_plain p, jobV, c1, c2, c3]
      exact q2 _ _ (by simp [vIt, hok])
    by_cases c4 : 32 ≤ (nth default l i).b
    · have hok : (nth default l i).ok = false := by simp [It.ok, inB]; omega
      simp (disch := omega) [lp, Tryz.f20, loops, h1, h3, decT, index_its, regionD_plain p, jobV, c1, c2, c3, c4]
      exact q2 _ _ (by simp [vIt, hok])
    by_cases c5 : (nth default l i).r < 0
    · have hok : (nth default l i).ok = false := by simp [It.ok, inB]; omega
      simp (disch := omega) [lp, Tryz.f20, loops, h1, h3, decT, index_its, regionD_plain p, jobV, c1, c2, c3, c4, c5]
      exact q2 _ _ (by simp [vIt, hok])
    by_cases c6 : 13 ≤ (nth default l i).r
    · have hok : (nth default l i).ok = false := by simp [It.ok, inB]; omega
      simp (disch := omega) [lp, Tryz.f20, loops, h1, h3, decT, index_its, regionD_plain p, jobV, c1, c2, c3, c4, c5, c6]
      exact q2 _ _ (by simp [vIt, hok])
    by_cases c7 : (nth default l i).l < 1
    · have hok : (nth default l i).ok = false := by simp [It.ok, inB]; omega
      simp (disch := omega) [lp, Tryz.f20, loops, h1, h3, decT, index_its, regionD_plain p, jobV, c1, c2, c3, c4, c5, c6, c7]
      exact q2 _ _ (by simp [vIt, hok])
    by_cases c8 : 400 < (nth default l i).l
    · have hok : (nth default l i).ok = false := by simp [It.ok, inB]; omega
      simp (disch := omega) [lp, Tryz.f20, loops, h1, h3, decT, index_its, regionD_plain p, jobV, c1, c2, c3, c4, c5, c6, c7, c8]
      exact q2 _ _ (by simp [vIt, hok])
    have hok : (nth default l i).ok = true := by simp [It.ok, inB]; omega
    by_cases d1 : 0 < i
    · have e1 : ((i : Int) - 1).toNat = i - 1 := by omega
      by_cases d2 : (nth default l i).r < (nth default l (i - 1)).r
      · simp (disch := omega) [lp, Tryz.f20, loops, h1, h3, decT, index_its, regionD_plain p, c1, c2, c3, c4, c5, c6, c7, c8, d1, d2, wrapI, e1, jobV]
        exact q2 _ _ (by simp [vIt, hok, d1, d2])
      · have hv : vIt l (k + 1) i = vIt l k (i + 1) := by simp only [vIt, hok, Bool.true_eq_false, if_false, d2, and_false]
        simp (disch := omega) [lp, Tryz.f20, loops, h1, h3, decT, index_its, regionD_plain p, c1, c2, c3, c4, c5, c6, c7, c8, d1, d2, wrapI, e1, jobV]
        exact ih (i + 1) _ _ (by omega) (by simp [h1]) (by simp) (fun sl' h' h => q1 sl' h' (by rw [hv, h])) (fun sl' h' h => q2 sl' h' (by rw [hv, h]))
    · have hv : vIt l (k + 1) i = vIt l k (i + 1) := by simp only [vIt, hok, Bool.true_eq_false, if_false, d1, false_and]
      simp (disch := omega) [lp, Tryz.f20, loops, h1, h3, decT, index_its, regionD_plain p, c1, c2, c3, c4, c5, c6, c7, c8, d1, wrapI, jobV]
      exact ih (i + 1) _ _ (by omega) (by simp [h1]) (by simp) (fun sl' h' h => q1 sl' h' (by rw [hv, h])) (fun sl' h' h => q2 sl' h' (by rw [hv, h]))
set_option maxHeartbeats 2000000 in
set_option maxRecDepth 100000 in
theorem rvalid_ok (l : List It) (w : Int) (hl : l.length < 2 ^ 62) : Gives (callL env 20 [jobV l w] []) fun r => r.1 = .int .i64 (vJob l w) := by
  apply gives_call
  by_cases h1 : 96 < l.length
  · simp (disch := omega) [Tryz.f20, jobV, decT, vJob, h1]
  · by_cases h2 : w < 0
    · have h4 : inB w 0 12 = false := by simp [inB]; omega
      simp (disch := omega) [Tryz.f20, jobV, decT, decF, vJob, h1, h2, h4]
    · by_cases h3 : 12 < w
      · have h4 : inB w 0 12 = false := by simp [inB]; omega
        simp (disch := omega) [Tryz.f20, jobV, decT, decF, vJob, h1, h2, h3, h4]
      have h4 : inB w 0 12 = true := by simp [inB]; omega
      simp (disch := omega) [Tryz.f20, jobV, decT, decF, vJob, h1, h2, h3, h4]
      generalize hx : loopL env _ _ _ = L
      apply gives_cut hx
      refine (rvalid_loop l w (by omega) _ l.length 0 _ _ (by omega) (by simp) (by simp) (fun sl' h' h => ?_) (fun sl' h' h => ?_))
      · simp [h]
      · simp [h]
theorem closed_job (l : List It) (w : Int) : closed? depth (jobV l w) = true := by simp [closed?, depth, jobV]
theorem c30 (l : List It) (w : Int) (hl : l.length < 2 ^ 62) (h : Heap) : callN env (callL env) 30 [jobV l w] h = some (.int .i64 (vJob l w), h) := by
  obtain ⟨r, hr, h1⟩ := gives_iff.1 (valid_ok l w hl)
  exact callE rfl (by simp [closed_job]) hr (by rw [h1]; rfl) h
theorem c20 (l : List It) (w : Int) (hl : l.length < 2 ^ 62) (h : Heap) : callN env (callL env) 20 [jobV l w] h = some (.int .i64 (vJob l w), h) := by
  obtain ⟨r, hr, h1⟩ := gives_iff.1 (rvalid_ok l w hl)
  exact callE rfl (by simp [closed_job]) hr (by rw [h1]; rfl) h
end Rival

/- TopRival: codes. -/
open Go Go.Proofs Go.Abs
namespace Rival
def onesN : Nat → Nat → Nat
  | 0, _ => 0
  | k + 1, w => if w = 0 then 0 else onesN k (w &&& (w - 1)) + 1
theorem andlow (w : Nat) (hw : w < 2 ^ 62) : IntKind.i64.wrap ((w % 2 ^ IntKind.i64.bits &&& (w - 1) % 2 ^ IntKind.i64.bits : Nat) : Int) = ((w &&& (w - 1) : Nat) : Int) := by
  have h1 : w % 2 ^ IntKind.i64.bits = w := Nat.mod_eq_of_lt (by simp [IntKind.bits]; omega)
  have h2 : (w - 1) % 2 ^ IntKind.i64.bits = w - 1 := Nat.mod_eq_of_lt (by simp [IntKind.bits]; omega)
  have h3 : w &&& (w - 1) ≤ w := Nat.and_le_left
  rw [h1, h2, wrap64 (by omega) (by omega)]
theorem ones_loop (h : Heap) : ∀ (k w : Nat), w ≤ k → w < 2 ^ 62 → ∀ (n : Int) (sl : List (Nat × AV)), 0 ≤ n → n + k < 2 ^ 62 → getS sl (.tup []) 0 = .int .i64 w → getS sl (.tup []) 3 = .int .i64 n →
    Gives (loopL env (lp Tryz.f56 0) ⟨13, .tup [], sl, []⟩ h) fun out => ∃ sl', out = .exit 0 ⟨13, .tup [], sl', []⟩ h ∧ getS sl' (.tup []) 3 = .int .i64 (n + onesN k w) := by
  intro k
  induction k with
  | zero =>
    intro w hw hlt n sl hn hnk h0 h3
    obtain rfl : w = 0 := by omega
    refine gives_loop ?_
    simp [lp, Tryz.f56, loops, h0, h3, onesN]
  | succ k ih =>
    intro w hw hlt n sl hn hnk h0 h3
    refine gives_loop ?_
    by_cases hz : w = 0
    · subst hz
      simp [lp, Tryz.f56, loops, h0, h3, onesN]
    · have hw0 : (w : Int) ≠ 0 := by omega
      have hle : w &&& (w - 1) ≤ w - 1 := Nat.and_le_right
      have e1 : IntKind.i64.wrap (n + 1) = n + 1 := wrap64 (by omega) (by omega)
      have e2 : IntKind.i64.wrap ((w : Int) - 1) = ((w - 1 : Nat) : Int) := by rw [wrap64 (by omega) (by omega)]; omega
      simp [lp, Tryz.f56, loops, h0, h3, onesN, hz, e1, e2, andlow w hlt]
      refine gives_imp (ih (w &&& (w - 1)) (by omega) (by omega) (n + 1) _ (by omega) (by omega) (by simp) (by simp)) ?_
      rintro r ⟨sl', rfl, h'⟩
      exact ⟨sl', rfl, by rw [h']; congr 1; omega⟩
theorem ones_ok (w : Nat) (hw : w < 65536) : callL env 56 [.int .i64 w] [] = some (.int .i64 (onesN 65536 w), []) := by
  apply callL_body
  simp [fn56, Tryz.f56, entry]
  generalize hl : loopL env _ _ _ = L
  have hg : Gives L fun out => ∃ sl', out = .exit 0 ⟨13, .tup [], sl', []⟩ [] ∧ getS sl' (.tup []) 3 = .int .i64 (0 + onesN 65536 w) := by
    rw [← hl]
    exact ones_loop [] 65536 w (by omega) (by omega) 0 _ (by omega) (by omega) (by simp) (by simp)
  obtain ⟨r, rfl, sl', rfl, h3⟩ := gives_iff.1 hg
  simp [h3]

def formB (r w : Int) : Bool := inB r 0 12 && inB w 0 12
theorem form_ok (r w : Int) : Gives (callL env 54 [.int .i64 r, .int .i64 w] []) fun x => x.1 = .bool (formB r w) := by
  apply gives_call
  cases h1 : inB r 0 12 <;> simp [Tryz.f54, formB, h1]
theorem c54 (r w : Int) (h : Heap) : callN env (callL env) 54 [.int .i64 r, .int .i64 w] h = some (.bool (formB r w), h) := by
  obtain ⟨x, hr, h1⟩ := gives_iff.1 (form_ok r w)
  exact callE rfl rfl hr (by rw [h1]; rfl) h
theorem form43_ok (r w : Int) : Gives (callL env 43 [.int .i64 r, .int .i64 w] []) fun x => x.1 = .bool (formB r w) := by
  apply gives_call
  by_cases h1 : 0 ≤ r
  · by_cases h2 : r < 13
    · have h3 : inB r 0 12 = true := by simp [inB]; omega
      by_cases h4 : 0 ≤ w
      · simp [Tryz.f43, formB, h1, h2, h4, inB]; omega
      · simp [Tryz.f43, formB, h1, h2, h3, h4, inB]
    · have h3 : inB r 0 12 = false := by simp [inB]; omega
      simp [Tryz.f43, formB, h1, h2, h3]
  · have h3 : inB r 0 12 = false := by simp [inB]; omega
    simp [Tryz.f43, formB, h1, h3]
theorem c43 (r w : Int) (h : Heap) : callN env (callL env) 43 [.int .i64 r, .int .i64 w] h = some (.bool (formB r w), h) := by
  obtain ⟨x, hr, h1⟩ := gives_iff.1 (form43_ok r w)
  exact callE rfl rfl hr (by rw [h1]; rfl) h
theorem shl1 (r : Nat) (hr : r ≤ 12) : binA env .shl 3 (.int .i64 1) (.int .i64 r) = some (.int .i64 ((2 ^ r : Nat) : Int)) := by
  match r, hr with
  | 0, _ | 1, _ | 2, _ | 3, _ | 4, _ | 5, _ | 6, _ | 7, _ | 8, _ | 9, _ | 10, _ | 11, _ | 12, _ => rfl
theorem pow_le (r : Nat) (hr : r ≤ 12) : 1 ≤ 2 ^ r ∧ 2 ^ r ≤ 4096 := by
  match r, hr with
  | 0, _ | 1, _ | 2, _ | 3, _ | 4, _ | 5, _ | 6, _ | 7, _ | 8, _ | 9, _ | 10, _ | 11, _ | 12, _ => decide
theorem missed_ok (r : Nat) (hr : r ≤ 12) : Gives (callL env 55 [.int .i64 r] []) fun x => x.1 = .int .i64 ((2 ^ r - 1 : Nat) : Int) := by
  apply gives_call
  have := pow_le r hr
  have e := shl1 r hr
  have e2 : IntKind.i64.wrap (((2 ^ r : Nat) : Int) - 1) = ((2 ^ r - 1 : Nat) : Int) := by rw [wrap64 (by omega) (by omega)]; omega
  generalize 2 ^ r = y at e e2 ⊢
  simp [Tryz.f55, e, e2, -bin_shl]
theorem c55 (r : Nat) (hr : r ≤ 12) (h : Heap) : callN env (callL env) 55 [.int .i64 r] h = some (.int .i64 ((2 ^ r - 1 : Nat) : Int), h) := by
  obtain ⟨x, hr, h1⟩ := gives_iff.1 (missed_ok r hr)
  exact callE rfl rfl hr (by rw [h1]; rfl) h
theorem c56 (w : Nat) (hw : w < 65536) (h : Heap) : callN env (callL env) 56 [.int .i64 w] h = some (.int .i64 (onesN 65536 w), h) := callE rfl rfl (ones_ok w hw) rfl h
attribute [simp] c54 c43
def isB (k r w : Int) : Bool := formB r w && inB k 0 4095 && decide (k.toNat &&& (2 ^ r.toNat - 1) = 2 ^ r.toNat - 1) && decide ((onesN 65536 (k.toNat >>> r.toNat) : Int) ≤ w)
theorem is_ok (k r w : Int) : Gives (callL env 40 [.int .i64 k, .int .i64 r, .int .i64 w] []) fun x => x.1 = .bool (isB k r w) := by
  apply gives_call
  cases h1 : formB r w
  · simp [Tryz.f40, isB, h1]
  cases h2 : inB k 0 4095
  · simp [Tryz.f40, isB, h1, h2]
  have hr : 0 ≤ r ∧ r ≤ 12 := by simp [formB, inB] at h1; omega
  have hk : 0 ≤ k ∧ k ≤ 4095 := by simpa [inB] using h2
  obtain ⟨r, rfl⟩ := Int.eq_ofNat_of_zero_le hr.1
  obtain ⟨k, rfl⟩ := Int.eq_ofNat_of_zero_le hk.1
  have c := c55 r (by omega)
  have := pow_le r (by omega)
  have e1 := bin_andN (E := env) 3 k (2 ^ r - 1) (by omega) (by omega)
  have e2 := bin_shrN (E := env) 3 k r (by omega)
  have e3 : k >>> r < 65536 := Nat.lt_of_le_of_lt (Nat.shiftRight_le k r) (by omega)
  have c2 := c56 _ e3
  have hb : isB k r w = (decide (k &&& (2 ^ r - 1) = 2 ^ r - 1) && decide ((onesN 65536 (k >>> r) : Int) ≤ w)) := by simp [isB, h1, h2]
  rw [hb]
  clear hb
  generalize 2 ^ r - 1 = y at c e1 ⊢
  generalize k >>> r = z at e2 c2 ⊢
  generalize hx : k &&& y = x at e1 ⊢
  by_cases h3 : x = y
  · simp [Tryz.f40, h1, h2, c, e1, e2, c2, -bin_shr, -bin_and, h3]
  · have h3' : decide ((x : Int) = y) = false := decF (by omega)
    simp [Tryz.f40, h1, h2, c, e1, e2, c2, -bin_shr, -bin_and, h3, h3']
theorem c40 (k r w : Int) (h : Heap) : callN env (callL env) 40 [.int .i64 k, .int .i64 r, .int .i64 w] h = some (.bool (isB k r w), h) := by
  obtain ⟨x, hr, h1⟩ := gives_iff.1 (is_ok k r w)
  exact callE rfl rfl hr (by rw [h1]; rfl) h
attribute [simp] c40
end Rival

/- TopRival: codes, the other way. -/
open Go Go.Proofs Go.Abs
namespace Rival
def popS : Nat → Nat → Nat
  | 0, _ => 0
  | k + 1, z => if z = 0 then 0 else z % 2 + popS k (z / 2)
theorem popS_le : ∀ k z, popS k z ≤ k
  | 0, _ => by simp [popS]
  | k + 1, z => by
    have := popS_le k (z / 2)
    unfold popS
    split <;> omega
def allIn (c n : Nat) : Bool := Nat.rec (motive := fun _ => Bool) true (fun v ih => Bool.and ih (Nat.beq (popS 13 (Nat.add c v)) (onesN 65536 (Nat.add c v)))) n
theorem allIn_spec (c : Nat) : ∀ n, allIn c n = true → ∀ v, v < n → popS 13 (c + v) = onesN 65536 (c + v)
  | 0, _, v, hv => absurd hv (by omega)
  | n + 1, h, v, hv => by
    have h' : Bool.and (allIn c n) (Nat.beq (popS 13 (c + n)) (onesN 65536 (c + n))) = true := h
    obtain ⟨h1, h2⟩ : allIn c n = true ∧ Nat.beq (popS 13 (c + n)) (onesN 65536 (c + n)) = true := by simpa using h'
    by_cases e : v = n
    · subst e; exact Nat.eq_of_beq_eq_true h2
    · exact allIn_spec c n h1 v (by omega)
def allOut (n : Nat) : Bool := Nat.rec (motive := fun _ => Bool) true (fun v ih => Bool.and ih (allIn (Nat.mul 64 v) 64)) n
theorem allOut_spec : ∀ n, allOut n = true → ∀ v, v < n → allIn (64 * v) 64 = true
  | 0, _, v, hv => absurd hv (by omega)
  | n + 1, h, v, hv => by
    have h' : Bool.and (allOut n) (allIn (64 * n) 64) = true := h
    obtain ⟨h1, h2⟩ : allOut n = true ∧ allIn (64 * n) 64 = true := by simpa using h'
    by_cases e : v = n
    · subst e; exact h2
    · exact allOut_spec n h1 v (by omega)
theorem pop_ones (v : Nat) (hv : v < 4096) : popS 13 v = onesN 65536 v := by
  have h := allIn_spec (64 * (v / 64)) 64 (allOut_spec 64 (by kernel_rfl) (v / 64) (by omega)) (v % 64) (by omega)
  rwa [Nat.div_add_mod] at h
theorem pl21_0 : plainD env (dr Tryz.f21 0) = true := by kernel_rfl
set_option maxRecDepth 100000 in
theorem pop_loop (h : Heap) (Q : Out → Prop) : ∀ (k z n : Nat) (sl : List (Nat × AV)), z < 2 ^ k → n + k < 2 ^ 62 → k < 60 → getS sl (.tup []) 8 = .int .i64 z → getS sl (.tup []) 7 = .int .i64 n →
    (∀ sl', Keep [2] sl sl' → getS sl' (.tup []) 7 = .int .i64 ((n + popS k z : Nat) : Int) → Q (.exit 0 ⟨45, .tup [], sl', []⟩ h)) →
    Gives (loopL env (lp Tryz.f21 0) ⟨45, .tup [], sl, []⟩ h) Q := by
  intro k
  induction k with
  | zero =>
    intro z n sl hz hn hk h8 h7 q
    obtain rfl : z = 0 := by omega
    refine gives_loop ?_
    simp [lp, Tryz.f21, loops, h8, h7]
    exact q _ (fun t ht => by simp at ht; subst ht; simp) (by simp [h7, popS])
  | succ k ih =>
    intro z n sl hz hn hk h8 h7 q
    refine gives_loop ?_
    have hz' : z < 2 ^ k * 2 := by rw [Nat.pow_succ] at hz; exact hz
    have hp : 2 ^ k ≤ 2 ^ 60 := Nat.pow_le_pow_right (by omega) (by omega)
    by_cases h0 : z = 0
    · subst h0
      simp [lp, Tryz.f21, loops, h8, h7]
      exact q _ (fun t ht => by simp at ht; subst ht; simp) (by simp [h7, popS])
    · have e1 : (z : Int).tmod 2 = ((z % 2 : Nat) : Int) := by rw [tmodN (by omega)]; omega
      have e2 : (z : Int).tdiv 2 = ((z / 2 : Nat) : Int) := by rw [tdivN (by omega)]; omega
      have e3 : IntKind.i64.wrap ((n : Int) + ((z % 2 : Nat) : Int)) = ((n + z % 2 : Nat) : Int) := by rw [wrapI (by omega) (by omega)]; omega
      have e4 : IntKind.i64.wrap ((z / 2 : Nat) : Int) = ((z / 2 : Nat) : Int) := wrapI (by omega) (by omega)
      have e5 : 0 < z := by omega
      have e6 : n + z % 2 + popS k (z / 2) = n + popS (k + 1) z := by simp only [popS, h0, if_false]; omega
      generalize hy : z % 2 = y at e1 e3 e6
      generalize hx : z / 2 = x at e2 e4 e6
      simp [lp, Tryz.f21, loops, h8, h7, e1, e2, e3, e4, e5]
      refine ih x (n + y) _ (by omega) (by omega) (by omega) ?_ ?_ (fun sl' hk h' => q sl' (fun t ht => ?_) (by rw [h', e6]))
      · simp
      · simp
      · have := hk t ht
        simp at ht
        subst ht
        simpa using this
end Rival

/- TopRival: codes, the other way: r12.Is. -/
open Go Go.Proofs Go.Abs
namespace Rival
theorem pl21_1 : plainD env (dr Tryz.f21 0) = true := by kernel_rfl
set_option maxHeartbeats 2000000 in
set_option maxRecDepth 100000 in
theorem ris_ok (k r w : Int) : Gives (callL env 21 [.int .i64 k, .int .i64 r, .int .i64 w] []) fun x => x.1 = .bool (isB k r w) := by
  have p := pl21_1
  simp [dr, drs, Tryz.f21] at p
  apply gives_call
  cases h1 : formB r w
  · simp [Tryz.f21, isB, h1, regionD_plain p]
  by_cases h2 : k < 0
  · have h4 : inB k 0 4095 = false := by simp [inB]; omega
    simp [Tryz.f21, isB, h1, regionD_plain p, h2, h4]
  by_cases h3 : 4096 ≤ k
  · have h4 : inB k 0 4095 = false := by simp [inB]; omega
    simp [Tryz.f21, isB, h1, regionD_plain p, h2, h3, h4]
  have h4 : inB k 0 4095 = true := by simp [inB]; omega
  have hr : 0 ≤ r ∧ r ≤ 12 := by simp [formB, inB] at h1; omega
  obtain ⟨r, rfl⟩ := Int.eq_ofNat_of_zero_le hr.1
  obtain ⟨k, rfl⟩ := Int.eq_ofNat_of_zero_le (by omega : 0 ≤ k)
  have hy := pow_le r (by omega)
  have e1 := shl1 r (by omega)
  have e2 := bin_shrN (E := env) 3 k r (by omega)
  have e3 : k >>> r < 4096 := Nat.lt_of_le_of_lt (Nat.shiftRight_le k r) (by omega)
  have hb : isB k r w = (decide (k % 2 ^ r = 2 ^ r - 1) && decide ((onesN 65536 (k >>> r) : Int) ≤ w)) := by simp [isB, h1, h4, Nat.and_two_pow_sub_one_eq_mod]
  rw [hb]
  clear hb
  generalize 2 ^ r = y at e1 hy ⊢
  generalize k >>> r = z at e2 e3 ⊢
  have e4 : (k : Int).tmod y = ((k % y : Nat) : Int) := by rw [tmodN (by omega)]; omega
  have e5 : IntKind.i64.wrap ((y : Int) - 1) = ((y - 1 : Nat) : Int) := by rw [wrapI (by omega) (by omega)]; omega
  have e6 : ¬ (y : Int) = 0 := by omega
  have e7 : ¬ y = 0 := by omega
  have hk : k < 4096 := by omega
  clear h2 h3
  have h2 : ¬ (k : Int) < 0 := by omega
  have h3 : ¬ (4096 : Int) ≤ k := by omega
  have h3' : ¬ 4096 ≤ k := by omega
  generalize k % y = x at e4 ⊢
  generalize y - 1 = u at e5 ⊢
  by_cases c : x = u
  · subst c
    simp [Tryz.f21, h1, regionD_plain p, h2, h3, h3', e1, e2, e4, e5, e6, e7, -bin_shl, -bin_shr]
    generalize hx : loopL env _ _ _ = L
    apply gives_cut hx
    refine pop_loop [] _ 13 z 0 _ (by omega) (by omega) (by omega) (by simp) (by simp) (fun sl' hk h' => ?_)
    have hw : getS sl' (.tup []) 2 = .int .i64 w := hk.get (by simp) (by simp)
    rw [pop_ones z e3] at h'
    simp [h', hw]
  · have c' : decide ((x : Int) = u) = false := decF (by omega)
    simp [Tryz.f21, h1, regionD_plain p, h2, h3, h3', e1, e2, e4, e5, e6, e7, c, c', -bin_shl, -bin_shr]
theorem c21 (k r w : Int) (h : Heap) : callN env (callL env) 21 [.int .i64 k, .int .i64 r, .int .i64 w] h = some (.bool (isB k r w), h) := by
  obtain ⟨x, hr, h1⟩ := gives_iff.1 (ris_ok k r w)
  exact callE rfl rfl hr (by rw [h1]; rfl) h
attribute [simp] c21
end Rival
