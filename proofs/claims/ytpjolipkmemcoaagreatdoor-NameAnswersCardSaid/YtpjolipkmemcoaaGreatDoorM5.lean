/-
  Texts put together: Tab, E1, E2, E3, E4, E5, E6. No condition.
-/
import Derived.Test.YtpjolipkmemcoaaGreatDoorM3
import Derived.Test.YtpjolipkmemcoaaGreatDoorM4
import Derived.Lib.Hide
/-
  The table of the types that the code names. No condition.
-/
namespace Go.Proofs.YtpjolipkmemcoaaGreatDoor
open Go.RowKit

def tab : Tab := [
  (9, ⟨.string, 1, 16, (.string { data := #[] })⟩),
  (3, ⟨.int .i64, 1, 8, (.int .i64 0)⟩),
  (22, ⟨.slice 9, 1, 24, (.slice none 0 0)⟩),
  (5, ⟨.int .u8, 1, 1, (.int .u8 0)⟩),
  (94, ⟨.int .u32, 1, 4, (.int .u32 0)⟩),
  (21, ⟨.int .i32, 1, 4, (.int .i32 0)⟩),
  (56, ⟨.slice 5, 1, 24, (.slice none 0 0)⟩),
  (98, ⟨.int .u64, 1, 8, (.int .u64 0)⟩),
  (122, ⟨.int .u64, 1, 8, (.int .u64 0)⟩),
  (58, ⟨.struct [(0, 1, 55), (1, 1, 56)], 2, 32, (.agg #[.pointer none, .slice none 0 0])⟩),
  (4, ⟨.bool, 1, 1, (.bool false)⟩),
  (90, ⟨.int .u64, 1, 8, (.int .u64 0)⟩),
  (55, ⟨.pointer 58, 1, 8, (.pointer none)⟩),
  (73, ⟨.array 256 4, 256, 256, (.agg (([.bool false, .bool false, .bool false, .bool false, .bool false, .bool false, .bool false, .bool false, .bool false, .bool false, .bool false, .bool false, .bool false, .bool false, .bool false, .bool false, .bool false, .bool false, .bool false, .bool false, .bool false, .bool false, .bool false, .bool false, .bool false, .bool false, .bool false, .bool false, .bool false, .bool false, .bool false, .bool false, .bool false, .bool false, .bool false, .bool false, .bool false, .bool false, .bool false, .bool false, .bool false, .bool false, .bool false, .bool false, .bool false, .bool false, .bool false, .bool false, .bool false, .bool false, .bool false, .bool false, .bool false, .bool false, .bool false, .bool false, .bool false, .bool false, .bool false, .bool false, .bool false, .bool false, .bool false, .bool false].append [.bool false, .bool false, .bool false, .bool false, .bool false, .bool false, .bool false, .bool false, .bool false, .bool false, .bool false, .bool false, .bool false, .bool false, .bool false, .bool false, .bool false, .bool false, .bool false, .bool false, .bool false, .bool false, .bool false, .bool false, .bool false, .bool false, .bool false, .bool false, .bool false, .bool false, .bool false, .bool false, .bool false, .bool false, .bool false, .bool false, .bool false, .bool false, .bool false, .bool false, .bool false, .bool false, .bool false, .bool false, .bool false, .bool false, .bool false, .bool false, .bool false, .bool false, .bool false, .bool false, .bool false, .bool false, .bool false, .bool false, .bool false, .bool false, .bool false, .bool false, .bool false, .bool false, .bool false, .bool false]).append ([.bool false, .bool false, .bool false, .bool false, .bool false, .bool false, .bool false, .bool false, .bool false, .bool false, .bool false, .bool false, .bool false, .bool false, .bool false, .bool false, .bool false, .bool false, .bool false, .bool false, .bool false, .bool false, .bool false, .bool false, .bool false, .bool false, .bool false, .bool false, .bool false, .bool false, .bool false, .bool false, .bool false, .bool false, .bool false, .bool false, .bool false, .bool false, .bool false, .bool false, .bool false, .bool false, .bool false, .bool false, .bool false, .bool false, .bool false, .bool false, .bool false, .bool false, .bool false, .bool false, .bool false, .bool false, .bool false, .bool false, .bool false, .bool false, .bool false, .bool false, .bool false, .bool false, .bool false, .bool false].append [.bool false, .bool false, .bool false, .bool false, .bool false, .bool false, .bool false, .bool false, .bool false, .bool false, .bool false, .bool false, .bool false, .bool false, .bool false, .bool false, .bool false, .bool false, .bool false, .bool false, .bool false, .bool false, .bool false, .bool false, .bool false, .bool false, .bool false, .bool false, .bool false, .bool false, .bool false, .bool false, .bool false, .bool false, .bool false, .bool false, .bool false, .bool false, .bool false, .bool false, .bool false, .bool false, .bool false, .bool false, .bool false, .bool false, .bool false, .bool false, .bool false, .bool false, .bool false, .bool false, .bool false, .bool false, .bool false, .bool false, .bool false, .bool false, .bool false, .bool false, .bool false, .bool false, .bool false, .bool false])).toArray)⟩),
  (115, ⟨.struct [(0, 1, 5), (1, 1, 5)], 2, 2, (.agg #[.int .u8 0, .int .u8 0])⟩),
  (2, ⟨.int .i64, 1, 8, (.int .i64 0)⟩),
  (120, ⟨.array 65 5, 65, 65, (.agg ([.int .u8 0, .int .u8 0, .int .u8 0, .int .u8 0, .int .u8 0, .int .u8 0, .int .u8 0, .int .u8 0, .int .u8 0, .int .u8 0, .int .u8 0, .int .u8 0, .int .u8 0, .int .u8 0, .int .u8 0, .int .u8 0, .int .u8 0, .int .u8 0, .int .u8 0, .int .u8 0, .int .u8 0, .int .u8 0, .int .u8 0, .int .u8 0, .int .u8 0, .int .u8 0, .int .u8 0, .int .u8 0, .int .u8 0, .int .u8 0, .int .u8 0, .int .u8 0].append [.int .u8 0, .int .u8 0, .int .u8 0, .int .u8 0, .int .u8 0, .int .u8 0, .int .u8 0, .int .u8 0, .int .u8 0, .int .u8 0, .int .u8 0, .int .u8 0, .int .u8 0, .int .u8 0, .int .u8 0, .int .u8 0, .int .u8 0, .int .u8 0, .int .u8 0, .int .u8 0, .int .u8 0, .int .u8 0, .int .u8 0, .int .u8 0, .int .u8 0, .int .u8 0, .int .u8 0, .int .u8 0, .int .u8 0, .int .u8 0, .int .u8 0, .int .u8 0, .int .u8 0]).toArray)⟩),
  (126, ⟨.pointer 3, 1, 8, (.pointer none)⟩),
  (97, ⟨.array 24 5, 24, 24, (.agg #[.int .u8 0, .int .u8 0, .int .u8 0, .int .u8 0, .int .u8 0, .int .u8 0, .int .u8 0, .int .u8 0, .int .u8 0, .int .u8 0, .int .u8 0, .int .u8 0, .int .u8 0, .int .u8 0, .int .u8 0, .int .u8 0, .int .u8 0, .int .u8 0, .int .u8 0, .int .u8 0, .int .u8 0, .int .u8 0, .int .u8 0, .int .u8 0])⟩),
  (43, ⟨.other, 1, 8, .nilFunc⟩),
  (91, ⟨.other, 1, 8, (.pointer none)⟩),
  (116, ⟨.array 16 115, 32, 32, (.agg #[.int .u8 0, .int .u8 0, .int .u8 0, .int .u8 0, .int .u8 0, .int .u8 0, .int .u8 0, .int .u8 0, .int .u8 0, .int .u8 0, .int .u8 0, .int .u8 0, .int .u8 0, .int .u8 0, .int .u8 0, .int .u8 0, .int .u8 0, .int .u8 0, .int .u8 0, .int .u8 0, .int .u8 0, .int .u8 0, .int .u8 0, .int .u8 0, .int .u8 0, .int .u8 0, .int .u8 0, .int .u8 0, .int .u8 0, .int .u8 0, .int .u8 0, .int .u8 0])⟩),
  (119, ⟨.array 20 98, 20, 160, (.agg #[.int .u64 0, .int .u64 0, .int .u64 0, .int .u64 0, .int .u64 0, .int .u64 0, .int .u64 0, .int .u64 0, .int .u64 0, .int .u64 0, .int .u64 0, .int .u64 0, .int .u64 0, .int .u64 0, .int .u64 0, .int .u64 0, .int .u64 0, .int .u64 0, .int .u64 0, .int .u64 0])⟩),
  (131, ⟨.array 32 5, 32, 32, (.agg #[.int .u8 0, .int .u8 0, .int .u8 0, .int .u8 0, .int .u8 0, .int .u8 0, .int .u8 0, .int .u8 0, .int .u8 0, .int .u8 0, .int .u8 0, .int .u8 0, .int .u8 0, .int .u8 0, .int .u8 0, .int .u8 0, .int .u8 0, .int .u8 0, .int .u8 0, .int .u8 0, .int .u8 0, .int .u8 0, .int .u8 0, .int .u8 0, .int .u8 0, .int .u8 0, .int .u8 0, .int .u8 0, .int .u8 0, .int .u8 0, .int .u8 0, .int .u8 0])⟩),
  (132, ⟨.array 64 5, 64, 64, (.agg #[.int .u8 0, .int .u8 0, .int .u8 0, .int .u8 0, .int .u8 0, .int .u8 0, .int .u8 0, .int .u8 0, .int .u8 0, .int .u8 0, .int .u8 0, .int .u8 0, .int .u8 0, .int .u8 0, .int .u8 0, .int .u8 0, .int .u8 0, .int .u8 0, .int .u8 0, .int .u8 0, .int .u8 0, .int .u8 0, .int .u8 0, .int .u8 0, .int .u8 0, .int .u8 0, .int .u8 0, .int .u8 0, .int .u8 0, .int .u8 0, .int .u8 0, .int .u8 0, .int .u8 0, .int .u8 0, .int .u8 0, .int .u8 0, .int .u8 0, .int .u8 0, .int .u8 0, .int .u8 0, .int .u8 0, .int .u8 0, .int .u8 0, .int .u8 0, .int .u8 0, .int .u8 0, .int .u8 0, .int .u8 0, .int .u8 0, .int .u8 0, .int .u8 0, .int .u8 0, .int .u8 0, .int .u8 0, .int .u8 0, .int .u8 0, .int .u8 0, .int .u8 0, .int .u8 0, .int .u8 0, .int .u8 0, .int .u8 0, .int .u8 0, .int .u8 0])⟩),
  (29, ⟨.other, 1, 8, .nilFunc⟩),
  (66, ⟨.other, 1, 8, .nilFunc⟩),
  (77, ⟨.pointer 73, 1, 8, (.pointer none)⟩),
  (105, ⟨.int .i64, 1, 8, (.int .i64 0)⟩),
  (79, ⟨.pointer 5, 1, 8, (.pointer none)⟩),
  (113, ⟨.array 256 5, 256, 256, (.agg (([.int .u8 0, .int .u8 0, .int .u8 0, .int .u8 0, .int .u8 0, .int .u8 0, .int .u8 0, .int .u8 0, .int .u8 0, .int .u8 0, .int .u8 0, .int .u8 0, .int .u8 0, .int .u8 0, .int .u8 0, .int .u8 0, .int .u8 0, .int .u8 0, .int .u8 0, .int .u8 0, .int .u8 0, .int .u8 0, .int .u8 0, .int .u8 0, .int .u8 0, .int .u8 0, .int .u8 0, .int .u8 0, .int .u8 0, .int .u8 0, .int .u8 0, .int .u8 0, .int .u8 0, .int .u8 0, .int .u8 0, .int .u8 0, .int .u8 0, .int .u8 0, .int .u8 0, .int .u8 0, .int .u8 0, .int .u8 0, .int .u8 0, .int .u8 0, .int .u8 0, .int .u8 0, .int .u8 0, .int .u8 0, .int .u8 0, .int .u8 0, .int .u8 0, .int .u8 0, .int .u8 0, .int .u8 0, .int .u8 0, .int .u8 0, .int .u8 0, .int .u8 0, .int .u8 0, .int .u8 0, .int .u8 0, .int .u8 0, .int .u8 0, .int .u8 0].append [.int .u8 0, .int .u8 0, .int .u8 0, .int .u8 0, .int .u8 0, .int .u8 0, .int .u8 0, .int .u8 0, .int .u8 0, .int .u8 0, .int .u8 0, .int .u8 0, .int .u8 0, .int .u8 0, .int .u8 0, .int .u8 0, .int .u8 0, .int .u8 0, .int .u8 0, .int .u8 0, .int .u8 0, .int .u8 0, .int .u8 0, .int .u8 0, .int .u8 0, .int .u8 0, .int .u8 0, .int .u8 0, .int .u8 0, .int .u8 0, .int .u8 0, .int .u8 0, .int .u8 0, .int .u8 0, .int .u8 0, .int .u8 0, .int .u8 0, .int .u8 0, .int .u8 0, .int .u8 0, .int .u8 0, .int .u8 0, .int .u8 0, .int .u8 0, .int .u8 0, .int .u8 0, .int .u8 0, .int .u8 0, .int .u8 0, .int .u8 0, .int .u8 0, .int .u8 0, .int .u8 0, .int .u8 0, .int .u8 0, .int .u8 0, .int .u8 0, .int .u8 0, .int .u8 0, .int .u8 0, .int .u8 0, .int .u8 0, .int .u8 0, .int .u8 0]).append ([.int .u8 0, .int .u8 0, .int .u8 0, .int .u8 0, .int .u8 0, .int .u8 0, .int .u8 0, .int .u8 0, .int .u8 0, .int .u8 0, .int .u8 0, .int .u8 0, .int .u8 0, .int .u8 0, .int .u8 0, .int .u8 0, .int .u8 0, .int .u8 0, .int .u8 0, .int .u8 0, .int .u8 0, .int .u8 0, .int .u8 0, .int .u8 0, .int .u8 0, .int .u8 0, .int .u8 0, .int .u8 0, .int .u8 0, .int .u8 0, .int .u8 0, .int .u8 0, .int .u8 0, .int .u8 0, .int .u8 0, .int .u8 0, .int .u8 0, .int .u8 0, .int .u8 0, .int .u8 0, .int .u8 0, .int .u8 0, .int .u8 0, .int .u8 0, .int .u8 0, .int .u8 0, .int .u8 0, .int .u8 0, .int .u8 0, .int .u8 0, .int .u8 0, .int .u8 0, .int .u8 0, .int .u8 0, .int .u8 0, .int .u8 0, .int .u8 0, .int .u8 0, .int .u8 0, .int .u8 0, .int .u8 0, .int .u8 0, .int .u8 0, .int .u8 0].append [.int .u8 0, .int .u8 0, .int .u8 0, .int .u8 0, .int .u8 0, .int .u8 0, .int .u8 0, .int .u8 0, .int .u8 0, .int .u8 0, .int .u8 0, .int .u8 0, .int .u8 0, .int .u8 0, .int .u8 0, .int .u8 0, .int .u8 0, .int .u8 0, .int .u8 0, .int .u8 0, .int .u8 0, .int .u8 0, .int .u8 0, .int .u8 0, .int .u8 0, .int .u8 0, .int .u8 0, .int .u8 0, .int .u8 0, .int .u8 0, .int .u8 0, .int .u8 0, .int .u8 0, .int .u8 0, .int .u8 0, .int .u8 0, .int .u8 0, .int .u8 0, .int .u8 0, .int .u8 0, .int .u8 0, .int .u8 0, .int .u8 0, .int .u8 0, .int .u8 0, .int .u8 0, .int .u8 0, .int .u8 0, .int .u8 0, .int .u8 0, .int .u8 0, .int .u8 0, .int .u8 0, .int .u8 0, .int .u8 0, .int .u8 0, .int .u8 0, .int .u8 0, .int .u8 0, .int .u8 0, .int .u8 0, .int .u8 0, .int .u8 0, .int .u8 0])).toArray)⟩)]

set_option maxRecDepth 100000 in
theorem tab_ok : TabOk Tryz.prog tab :=
  ⟨⟨by kernel_rfl, by kernel_rfl, by kernel_rfl⟩,
   ⟨by kernel_rfl, by kernel_rfl, by kernel_rfl⟩,
   ⟨by kernel_rfl, by kernel_rfl, by kernel_rfl⟩,
   ⟨by kernel_rfl, by kernel_rfl, by kernel_rfl⟩,
   ⟨by kernel_rfl, by kernel_rfl, by kernel_rfl⟩,
   ⟨by kernel_rfl, by kernel_rfl, by kernel_rfl⟩,
   ⟨by kernel_rfl, by kernel_rfl, by kernel_rfl⟩,
   ⟨by kernel_rfl, by kernel_rfl, by kernel_rfl⟩,
   ⟨by kernel_rfl, by kernel_rfl, by kernel_rfl⟩,
   ⟨by kernel_rfl, by kernel_rfl, by kernel_rfl⟩,
   ⟨by kernel_rfl, by kernel_rfl, by kernel_rfl⟩,
   ⟨by kernel_rfl, by kernel_rfl, by kernel_rfl⟩,
   ⟨by kernel_rfl, by kernel_rfl, by kernel_rfl⟩,
   ⟨by kernel_rfl, by kernel_rfl, by kernel_rfl⟩,
   ⟨by kernel_rfl, by kernel_rfl, by kernel_rfl⟩,
   ⟨by kernel_rfl, by kernel_rfl, by kernel_rfl⟩,
   ⟨by kernel_rfl, by kernel_rfl, by kernel_rfl⟩,
   ⟨by kernel_rfl, by kernel_rfl, by kernel_rfl⟩,
   ⟨by kernel_rfl, by kernel_rfl, by kernel_rfl⟩,
   ⟨by kernel_rfl, by kernel_rfl, by kernel_rfl⟩,
   ⟨by kernel_rfl, by kernel_rfl, by kernel_rfl⟩,
   ⟨by kernel_rfl, by kernel_rfl, by kernel_rfl⟩,
   ⟨by kernel_rfl, by kernel_rfl, by kernel_rfl⟩,
   ⟨by kernel_rfl, by kernel_rfl, by kernel_rfl⟩,
   ⟨by kernel_rfl, by kernel_rfl, by kernel_rfl⟩,
   ⟨by kernel_rfl, by kernel_rfl, by kernel_rfl⟩,
   ⟨by kernel_rfl, by kernel_rfl, by kernel_rfl⟩,
   ⟨by kernel_rfl, by kernel_rfl, by kernel_rfl⟩,
   ⟨by kernel_rfl, by kernel_rfl, by kernel_rfl⟩,
   ⟨by kernel_rfl, by kernel_rfl, by kernel_rfl⟩,
   ⟨by kernel_rfl, by kernel_rfl, by kernel_rfl⟩, trivial⟩
theorem mixed : Tryz.prog.follows .mixedOrders = true := by kernel_rfl
end Go.Proofs.YtpjolipkmemcoaaGreatDoor

/-
  Levels and terms as pure values; small lemmas for contracts. No condition.
-/
namespace Go.Proofs.YtpjolipkmemcoaaGreatDoor
open Go.RowKit Go.Shelf

mutual
def lvA : Lv → AV
  | .mk k n xs => .agg [.i k, .i n, .sl .no 3 (lvAs xs)]
def lvAs : List Lv → List AV
  | [] => []
  | l :: ls => lvA l :: lvAs ls
end
theorem lvAs_map : ∀ ls : List Lv, lvAs ls = ls.map lvA
  | [] => rfl
  | l :: ls => by rw [lvAs, lvAs_map ls]; rfl
/-- a level, written out once -/
def lvX (l : Lv) : AV := .agg [.i l.kind, .i l.n, .sl .no 3 (l.args.map lvA)]
theorem lvA_eq (l : Lv) : lvA l = lvX l := by cases l; simp [lvA, lvX, Lv.kind, Lv.n, Lv.args, lvAs_map]
mutual
def tmA : Tm → AV
  | .mk k n nm ls xs => .agg [.i k, .i n, .str nm, .sl .no 3 (ls.map lvA), .sl .no 5 (tmAs xs)]
def tmAs : List Tm → List AV
  | [] => []
  | l :: ls => tmA l :: tmAs ls
end
theorem tmAs_map : ∀ ls : List Tm, tmAs ls = ls.map tmA
  | [] => rfl
  | l :: ls => by rw [tmAs, tmAs_map ls]; rfl
def tmX (t : Tm) : AV := .agg [.i t.kind, .i t.n, .str t.name, .sl .no 3 (t.levels.map lvA), .sl .no 5 (t.args.map tmA)]
theorem tmA_eq (t : Tm) : tmA t = tmX t := by cases t; simp [tmA, tmX, Tm.kind, Tm.n, Tm.name, Tm.levels, Tm.args, tmAs_map]

theorem Lv.nodes_eq (l : Lv) : l.nodes = Lv.nodesL l.args + 1 := by cases l; rfl
theorem Tm.nodes_eq (t : Tm) : t.nodes = Lv.nodesL t.levels + Tm.nodesL t.args + 1 := by cases t; rfl
theorem lvEq_parts (a b : Lv) : lvEq a b = (decide (a.kind = b.kind) && decide (a.n = b.n) && lvEqL a.args b.args) := by cases a; cases b; rfl
theorem tmEq_parts (a b : Tm) : tmEq a b = (decide (a.kind = b.kind) && decide (a.n = b.n) && decide (a.name = b.name) && lvEqL a.levels b.levels && tmEqL a.args b.args) := by cases a; cases b; rfl
theorem ret_b {p q : Bool} (h : p = q) : Le (.b p) (.b q) := by rw [h]; exact Le.refl _
theorem ret_i {p q : Int} (h : p = q) : Le (.i p) (.i q) := by rw [h]; exact Le.refl _
theorem take_next {α : Type} {xs ys : List α} {k : Nat} (h1 : k < xs.length) (h2 : k < ys.length) (h : xs.take k = ys.take k) (he : xs[k] = ys[k]) : xs.take (k + 1) = ys.take (k + 1) := by
  rw [List.take_succ_eq_append_getElem h1, List.take_succ_eq_append_getElem h2, h, he]
theorem in64_of {n : Int} (h : -9223372036854775808 ≤ n) (k : n ≤ 9223372036854775807) : in64 n := ⟨h, k⟩
/-- an element of a slice of levels -/
theorem lvAt {ls : List Lv} {k : Nat} (h : k < ls.length) : (ls.map lvA)[k]? = some (lvX ls[k]) := by simp [h, lvA_eq]
theorem tmAt' {ls : List Tm} {k : Nat} (h : k < ls.length) : (ls.map tmA)[k]? = some (tmX ls[k]) := by simp [h, tmA_eq]

/-! the ways part -/
theorem ifB_dec {p : Prop} [Decidable p] {A B : Prop} (h1 : p → A) (h2 : ¬p → B) : ifB (decide p) A B := by
  by_cases h : p
  · rw [decide_eq_true h]; exact h1 h
  · rw [decide_eq_false h]; exact h2 h
theorem ifB_t {p : Prop} [Decidable p] {A B : Prop} (h : p) (h1 : A) : ifB (decide p) A B := by rw [decide_eq_true h]; exact h1
theorem ifB_f {p : Prop} [Decidable p] {A B : Prop} (h : ¬p) (h1 : B) : ifB (decide p) A B := by rw [decide_eq_false h]; exact h1
theorem ifB_bool {q : Bool} {A B : Prop} (h1 : q = true → A) (h2 : q = false → B) : ifB q A B := by
  cases q
  · exact h2 rfl
  · exact h1 rfl
/-- a function that answers a value and leaves the objects -/
def Ans (P : Program) (f : FuncId) (args : List AV) (r : AV) : Prop := ∀ (H : Heap) (Q : AV → Heap → Prop), Q r H → Con P f args H Q
theorem ent {P : Program} {f : FuncId} {fn : Func} {c : Code} (hf : P.funcs[f]? = some fn) (hname : (fn.name == "runtime.NumGoroutine") = false) (hb : fn.body = some c) : ∀ args w, (callFunc f args).run P w = .ok (.enter f args) w := enters_of hf hname hb

/-! objects behind pointers -/
/-- the object at b is another one -/
def Heap.upd (H : Heap) (b : Nat) (y : AObj) : Heap := H.map fun p => if p.1 = b then (b, y) else p
theorem Heap.upd_keys (H : Heap) (b : Nat) (y : AObj) : (H.upd b y).keys = H.keys := by
  unfold Heap.upd Heap.keys
  rw [List.map_map]
  apply List.map_congr_left
  intro p _
  simp only [Function.comp]
  split <;> simp_all
theorem Heap.upd_upd (H : Heap) (b : Nat) (y z : AObj) : (H.upd b y).upd b z = H.upd b z := by
  unfold Heap.upd
  rw [List.map_map]
  apply List.map_congr_left
  intro p _
  simp only [Function.comp]
  by_cases h : p.1 = b <;> simp [h]
theorem Heap.mem_upd {H : Heap} {b : Nat} {x y : AObj} (h : (b, x) ∈ H) : (b, y) ∈ H.upd b y := List.mem_map.2 ⟨_, h, by simp⟩
theorem Heap.mem_upd_ne {H : Heap} {b c : Nat} {x y : AObj} (h : (c, x) ∈ H) (hne : c ≠ b) : (c, x) ∈ H.upd b y := List.mem_map.2 ⟨_, h, by simp [hne]⟩
theorem Heap.upd_none {H : Heap} {b : Nat} {y : AObj} (h : b ∉ H.keys) : H.upd b y = H := by
  unfold Heap.upd
  conv => rhs; rw [← List.map_id H]
  apply List.map_congr_left
  intro p hp
  rw [if_neg]
  · rfl
  · rintro rfl; exact h (Heap.mem_keys hp)
theorem Heap.at_upd {b : Nat} {x : AObj} (y : AObj) : ∀ {H : Heap}, (b, x) ∈ H → H.keys.Nodup → Heap.At b x y H (H.upd b y)
  | p :: H, h, hn => by
    simp only [Heap.keys, List.map_cons, List.nodup_cons] at hn
    rcases List.mem_cons.1 h with h | h
    · subst h
      have e : Heap.upd ((b, x) :: H) b y = (b, y) :: H := by
        show (if b = b then (b, y) else (b, x)) :: Heap.upd H b y = _
        rw [if_pos rfl, Heap.upd_none hn.1]
      rw [e]; exact .here
    · have hne : p.1 ≠ b := fun e => hn.1 (by rw [e]; exact Heap.mem_keys h)
      have e : Heap.upd (p :: H) b y = p :: Heap.upd H b y := by
        show (if p.1 = b then (b, y) else p) :: Heap.upd H b y = _
        rw [if_neg hne]
      rw [e]; exact .there (Heap.at_upd y h hn.2)
theorem Heap.upd_self {H : Heap} {b : Nat} {x : AObj} (h : (b, x) ∈ H) (hn : H.keys.Nodup) : H.upd b x = H := by
  have := Heap.at_upd x h hn
  exact at_same this
where at_same : ∀ {b : Nat} {x : AObj} {H H' : Heap}, Heap.At b x x H H' → H' = H
  | _, _, _, _, .here => rfl
  | _, _, _, _, .there h => by rw [at_same h]
theorem Heap.nodup_upd {H : Heap} (b : Nat) (y : AObj) (hn : H.keys.Nodup) : (H.upd b y).keys.Nodup := by rw [Heap.upd_keys]; exact hn
theorem sub_eq {H H' : Heap} (h : H = H') : H.Sublist H' := by rw [h]; exact List.Sublist.refl _
/-- a list's sum so far -/
theorem nodesL_snoc {ls : List Lv} {k : Nat} (h : k < ls.length) : Lv.nodesL (ls.take (k + 1)) = Lv.nodesL (ls.take k) + ls[k].nodes := by
  induction ls generalizing k with
  | nil => simp at h
  | cons a ls ih =>
    cases k with
    | zero => simp [Lv.nodesL]
    | succ k => simp [Lv.nodesL, ih (by simpa using h)]; omega
theorem nodesTL_snoc {ls : List Tm} {k : Nat} (h : k < ls.length) : Tm.nodesL (ls.take (k + 1)) = Tm.nodesL (ls.take k) + ls[k].nodes := by
  induction ls generalizing k with
  | nil => simp at h
  | cons a ls ih =>
    cases k with
    | zero => simp [Tm.nodesL]
    | succ k => simp [Tm.nodesL, ih (by simpa using h)]; omega
theorem Wf.args {l : Lv} (h : Wf (lvX l)) : l.args.length ≤ 9223372036854775807 := by
  have := Wf.len (h.cell (x := .sl .no 3 (l.args.map lvA)) (by simp))
  simpa using this
theorem Wf.targs {t : Tm} (h : Wf (tmX t)) : t.args.length ≤ 9223372036854775807 := by
  have := Wf.len (h.cell (x := .sl .no 5 (t.args.map tmA)) (by simp))
  simpa using this
theorem Wf.tlevels {t : Tm} (h : Wf (tmX t)) : t.levels.length ≤ 9223372036854775807 := by
  have := Wf.len (h.cell (x := .sl .no 3 (t.levels.map lvA)) (by simp))
  simpa using this
theorem Wf.tname {t : Tm} (h : Wf (tmX t)) : t.name.length ≤ 1125899906842624 := (h.cell (x := .str t.name) (by simp)).str
end Go.Proofs.YtpjolipkmemcoaaGreatDoor

/-
  SameLevel. No condition.
-/
namespace Go.Proofs.YtpjolipkmemcoaaGreatDoor
open Go.RowKit

end Go.Proofs.YtpjolipkmemcoaaGreatDoor

/-
  The program's levels: wide, count, Nodes, node, all, Right. No condition.
-/
namespace Go.Proofs.YtpjolipkmemcoaaGreatDoor
open Go.RowKit


/-- what is left of so many -/
def left (n : Int) (k : Nat) : Int := max (n - k) (-1)




theorem lvFitL_all (n : Int) : ∀ ls : List Lv, lvFitL n ls = ls.all (lvFit n)
  | [] => rfl
  | l :: ls => by rw [lvFitL, lvFitL_all n ls]; rfl
theorem lvFit_parts (n : Int) (l : Lv) : lvFit n l = (lvNode n l.kind l.n l.args.length && l.args.all (lvFit n)) := by
  cases l; rw [lvFit, lvFitL_all]; rfl
theorem all_take {α : Type} {f : α → Bool} {xs : List α} {k : Nat} (h : k < xs.length) (h1 : (xs.take k).all f = true) (h2 : f xs[k] = true) : (xs.take (k + 1)).all f = true := by
  rw [List.take_succ_eq_append_getElem h, List.all_append, h1]; simp [h2]
theorem all_no {α : Type} {f : α → Bool} {xs : List α} {k : Nat} (h : k < xs.length) (h2 : f xs[k] = false) : xs.all f = false := by
  rw [List.all_eq_false]; exact ⟨xs[k], List.getElem_mem h, by simp [h2]⟩


end Go.Proofs.YtpjolipkmemcoaaGreatDoor

/-
  The reference's levels: LevelNodes, right, Right. No condition.
-/
namespace Go.Proofs.YtpjolipkmemcoaaGreatDoor
open Go.RowKit

/-- what a counting loop carries: so many so far, or too many -/
def CntRel (most sum : Nat) (m : Int) : Prop := 0 ≤ m ∧ min m (most + 1) = min (sum : Int) (most + 1) ∧ m ≤ 2 * most + 2



end Go.Proofs.YtpjolipkmemcoaaGreatDoor

/-
  SameTerm, Nodes, SameTexts, SameBytes. No condition.
-/
namespace Go.Proofs.YtpjolipkmemcoaaGreatDoor
open Go.RowKit

theorem lvEqL_at {xs ys : List Lv} {k : Nat} (h : k < xs.length) (h' : k < ys.length) (hg : lvEq xs[k] ys[k] = false) : lvEqL xs ys = false := by
  cases hh : lvEqL xs ys with
  | false => rfl
  | true =>
    have he := (lvEqL_iff _ _).1 hh
    have h6 : xs[k] = ys[k] := by simp only [he]
    rw [(lvEq_iff _ _).2 h6] at hg; cases hg
theorem tmEqL_at {xs ys : List Tm} {k : Nat} (h : k < xs.length) (h' : k < ys.length) (hg : tmEq xs[k] ys[k] = false) : tmEqL xs ys = false := by
  cases hh : tmEqL xs ys with
  | false => rfl
  | true =>
    have he := (tmEqL_iff _ _).1 hh
    have h6 : xs[k] = ys[k] := by simp only [he]
    rw [(tmEq_iff _ _).2 h6] at hg; cases hg
theorem lvEqL_len {xs ys : List Lv} (h : ¬ xs.length = ys.length) : lvEqL xs ys = false := by
  cases hh : lvEqL xs ys with
  | false => rfl
  | true => exact absurd (congrArg List.length ((lvEqL_iff _ _).1 hh)) h
theorem tmEqL_len {xs ys : List Tm} (h : ¬ xs.length = ys.length) : tmEqL xs ys = false := by
  cases hh : tmEqL xs ys with
  | false => rfl
  | true => exact absurd (congrArg List.length ((tmEqL_iff _ _).1 hh)) h

end Go.Proofs.YtpjolipkmemcoaaGreatDoor

/-
  Nodes of a term, SameTexts, SameBytes, Lengths. No condition.
-/
namespace Go.Proofs.YtpjolipkmemcoaaGreatDoor
open Go.RowKit

mutual
/-- what Nodes counts -/
def Tm.big : Tm → Nat
  | .mk _ _ nm ls xs => 1 + nm.length / 16 + Lv.nodesL ls + Tm.bigL xs
def Tm.bigL : List Tm → Nat
  | [] => 0
  | t :: ts => t.big + Tm.bigL ts
end
theorem Tm.big_eq (t : Tm) : t.big = 1 + t.name.length / 16 + Lv.nodesL t.levels + Tm.bigL t.args := by cases t; rfl
theorem bigL_snoc {ls : List Tm} {k : Nat} (h : k < ls.length) : Tm.bigL (ls.take (k + 1)) = Tm.bigL (ls.take k) + ls[k].big := by
  induction ls generalizing k with
  | nil => simp at h
  | cons a ls ih =>
    cases k with
    | zero => simp [Tm.bigL]
    | succ k => simp [Tm.bigL, ih (by simpa using h)]; omega
theorem bigL_le : ∀ (ls : List Tm) (k : Nat), Tm.bigL (ls.take k) ≤ Tm.bigL ls := by
  intro ls
  induction ls with
  | nil => intro k; simp [Tm.bigL]
  | cons a ls ih => intro k; cases k with
    | zero => simp [Tm.bigL]
    | succ k => simp [Tm.bigL, ih k]
/-- a count so far, or too many -/
def Cnt (most sum : Nat) (m : Int) : Prop := 0 ≤ m ∧ min m (most + 1) = min (sum : Int) (most + 1) ∧ m ≤ 2 * most + 2 + 140737488355328


/-- texts, bytes -/
def stsX (ss : List (List UInt8)) : AV := .sl .no 1 (ss.map .str)
def byX (bs : List UInt8) : AV := .sl .no 1 (bs.map byteV)
theorem stAt {ss : List (List UInt8)} {k : Nat} (h : k < ss.length) : (ss.map AV.str)[k]? = some (.str ss[k]) := by simp [h]
theorem byAt {ss : List UInt8} {k : Nat} (h : k < ss.length) : (ss.map byteV)[k]? = some (byteV ss[k]) := by simp [h]
theorem Wf.sts {ss : List (List UInt8)} (h : Wf (stsX ss)) : ss.length ≤ 9223372036854775807 := by
  have := Wf.len (h : Wf (.sl .no 1 (ss.map .str)))
  simpa using this
theorem Wf.bytes {o : Own} {ss : List UInt8} (h : Wf (.sl o 1 (ss.map byteV))) : ss.length ≤ 9223372036854775807 := by
  have := Wf.len h
  simpa using this
theorem u8_eq {a b : UInt8} (h : (a.toNat : Int) = b.toNat) : a = b := by
  have : a.toNat = b.toNat := by omega
  exact UInt8.toNat_inj.1 this

set_option maxRecDepth 100000 in
theorem SameTexts_con (a b : List (List UInt8)) : Ans Tryz.prog 15 [stsX a, stsX b] (.b (decide (a = b))) := by
  intro H Q hq
  refine con_of_awp (esc := fun _ => false) tab_ok mixed Tryz.func15 rfl (ent Tryz.func15 (by kernel_rfl) rfl) (by kernel_rfl) ?_
  intro hw hn
  have hlen := (hw (stsX a) (by simp)).sts
  have fin : ∀ q : Bool, q = decide (a = b) → ∃ r H', Le (.b q) r ∧ List.Sublist H' H ∧ Q r H' := fun q h => ⟨_, H, ret_b h, List.Sublist.refl _, hq⟩
  refine ifB_dec (fun h1 => ?_) (fun h1 => ?_)
  · simp only [List.length_map] at h1
    refine ⟨Nat, fun k => ⟨[(0, .g (stsX a)), (1, .g (stsX b)), (4, .g (.b false)), (5, .g (.i k))], [], H⟩, fun k => k ≤ a.length ∧ a.take k = b.take k, fun k => a.length - k, ⟨0, ⟨Nat.zero_le _, rfl⟩, ?_⟩, ?_⟩
    · (constructor <;> repeat' (first | exact trivial | exact ⟨rfl, rfl⟩ | exact ⟨rfl, LeL.refl _⟩ | exact Le.refl _ | exact List.Sublist.refl _ | (show Le (AV.i _) (AV.i _); rw [List.length_map]; exact Le.refl _) | refine And.intro ?_ ?_))
    · rintro k ⟨hk, hpre⟩
      refine ifB_dec (fun h => ?_) (fun h => ?_)
      · have hlt : k < a.length := by simpa using h
        have hlt' : k < b.length := by omega
        refine ⟨[0, 1, 2, 3, 4, 5, 6, 7, 8], [], by kernel_rfl, by simp, ?_⟩
        refine ⟨k, rfl, _, stAt hlt, ?_⟩
        refine ⟨k, rfl, _, stAt hlt', ?_⟩
        refine ifB_dec (fun h2 => ?_) (fun h2 => ?_)
        · refine ⟨in64_of (by first | omega | (dsimp only; omega)) (by first | omega | (dsimp only; omega)), ?_⟩
          refine ⟨k + 1, ⟨by omega, take_next hlt hlt' hpre h2⟩, by dsimp only; omega, ?_⟩
          (constructor <;> repeat' (first | exact trivial | exact ⟨rfl, rfl⟩ | exact ⟨rfl, LeL.refl _⟩ | exact Le.refl _ | exact List.Sublist.refl _ | (show Le (AV.i _) (AV.i _); rw [List.length_map]; exact Le.refl _) | refine And.intro ?_ ?_))
        · exact fin _ (by rw [eq_comm, decide_eq_false_iff_not]; rintro rfl; exact h2 rfl)
      · have hk' : k = a.length := by
          have : ¬ k < a.length := by simpa using h
          omega
        refine fin _ ?_
        rw [hk', List.take_length, show a.length = b.length by omega, List.take_length] at hpre
        simp [hpre]
  · exact fin _ (by rw [eq_comm, decide_eq_false_iff_not]; rintro rfl; exact h1 rfl)

end Go.Proofs.YtpjolipkmemcoaaGreatDoor
