/-
  Texts put together: Tab, E1, E2, E3, E4, E5, E6. No condition.
-/
import Derived.Test.YtahdkhklngjmoaaGreatDoorM3
import Derived.Test.YtahdkhklngjmoaaGreatDoorM4
import Derived.Lib.Hide
/-
  The table of the types that the code names. No condition.
-/
namespace Go.Proofs.YtahdkhklngjmoaaGreatDoor
open Go.RowKit

def tab : Tab := [
  (30, ⟨.struct [(0, 1, 3), (1, 1, 3), (2, 1, 9), (3, 1, 27), (4, 1, 28)], 5, 80, (.agg #[.int .i64 0, .int .i64 0, .string { data := #[] }, .slice none 0 0, .slice none 0 0])⟩),
  (3, ⟨.int .i64, 1, 8, (.int .i64 0)⟩),
  (65, ⟨.struct [(0, 1, 3), (1, 1, 3), (2, 1, 27)], 3, 40, (.agg #[.int .i64 0, .int .i64 0, .slice none 0 0])⟩),
  (28, ⟨.slice 30, 1, 24, (.slice none 0 0)⟩),
  (9, ⟨.string, 1, 16, (.string { data := #[] })⟩),
  (27, ⟨.slice 65, 1, 24, (.slice none 0 0)⟩),
  (55, ⟨.struct [(0, 1, 3), (1, 1, 3), (2, 1, 9), (3, 5, 30), (8, 5, 30), (13, 1, 3), (14, 1, 9), (15, 1, 3), (16, 1, 3), (17, 1, 3), (18, 1, 53)], 19, 264, (.agg #[.int .i64 0, .int .i64 0, .string { data := #[] }, .int .i64 0, .int .i64 0, .string { data := #[] }, .slice none 0 0, .slice none 0 0, .int .i64 0, .int .i64 0, .string { data := #[] }, .slice none 0 0, .slice none 0 0, .int .i64 0, .string { data := #[] }, .int .i64 0, .int .i64 0, .int .i64 0, .slice none 0 0])⟩),
  (109, ⟨.pointer 128, 1, 8, (.pointer none)⟩),
  (23, ⟨.pointer 81, 1, 8, (.pointer none)⟩),
  (25, ⟨.slice 55, 1, 24, (.slice none 0 0)⟩),
  (5, ⟨.int .u8, 1, 1, (.int .u8 0)⟩),
  (53, ⟨.slice 9, 1, 24, (.slice none 0 0)⟩),
  (128, ⟨.struct [(0, 1, 9), (1, 1, 3), (2, 1, 109), (3, 1, 109), (4, 1, 3), (5, 1, 3)], 6, 56, (.agg #[.string { data := #[] }, .int .i64 0, .pointer none, .pointer none, .int .i64 0, .int .i64 0])⟩),
  (31, ⟨.int .i64, 1, 8, (.int .i64 0)⟩),
  (104, ⟨.struct [(0, 1, 3), (1, 1, 102)], 2, 16, (.agg #[.int .i64 0, .nilFunc])⟩),
  (21, ⟨.int .i32, 1, 4, (.int .i32 0)⟩),
  (83, ⟨.slice 3, 1, 24, (.slice none 0 0)⟩),
  (164, ⟨.struct [(0, 1, 3), (1, 1, 3), (2, 1, 3)], 3, 24, (.agg #[.int .i64 0, .int .i64 0, .int .i64 0])⟩),
  (92, ⟨.slice 5, 1, 24, (.slice none 0 0)⟩),
  (207, ⟨.int .u32, 1, 4, (.int .u32 0)⟩),
  (58, ⟨.pointer 87, 1, 8, (.pointer none)⟩),
  (81, ⟨.struct [(0, 1, 58), (1, 1, 3), (2, 1, 3)], 3, 24, (.agg #[.pointer none, .int .i64 0, .int .i64 0])⟩),
  (87, ⟨.struct [(0, 1, 84), (1, 1, 25)], 2, 32, (.agg #[.pointer none, .slice none 0 0])⟩),
  (4, ⟨.bool, 1, 1, (.bool false)⟩),
  (202, ⟨.struct [(0, 1, 5), (1, 1, 5)], 2, 2, (.agg #[.int .u8 0, .int .u8 0])⟩),
  (98, ⟨.slice 28, 1, 24, (.slice none 0 0)⟩),
  (175, ⟨.struct [(0, 1, 172), (1, 1, 3)], 2, 16, (.agg #[.nilFunc, .int .i64 0])⟩),
  (84, ⟨.pointer 111, 1, 8, (.pointer none)⟩),
  (111, ⟨.struct [(0, 1, 109)], 1, 8, (.agg #[.pointer none])⟩),
  (135, ⟨.pointer 3, 1, 8, (.pointer none)⟩),
  (117, ⟨.struct [(0, 1, 31)], 1, 8, (.agg #[.int .i64 0])⟩),
  (173, ⟨.pointer 175, 1, 8, (.pointer none)⟩),
  (47, ⟨.other, 1, 8, .nilFunc⟩),
  (69, ⟨.other, 1, 8, .nilFunc⟩),
  (172, ⟨.other, 1, 8, .nilFunc⟩),
  (203, ⟨.array 16 202, 32, 32, (.agg #[.int .u8 0, .int .u8 0, .int .u8 0, .int .u8 0, .int .u8 0, .int .u8 0, .int .u8 0, .int .u8 0, .int .u8 0, .int .u8 0, .int .u8 0, .int .u8 0, .int .u8 0, .int .u8 0, .int .u8 0, .int .u8 0, .int .u8 0, .int .u8 0, .int .u8 0, .int .u8 0, .int .u8 0, .int .u8 0, .int .u8 0, .int .u8 0, .int .u8 0, .int .u8 0, .int .u8 0, .int .u8 0, .int .u8 0, .int .u8 0, .int .u8 0, .int .u8 0])⟩),
  (20, ⟨.iface, 1, 16, .nilIface⟩),
  (70, ⟨.other, 1, 8, .nilFunc⟩),
  (101, ⟨.other, 1, 8, .nilFunc⟩),
  (161, ⟨.other, 1, 8, .nilFunc⟩),
  (185, ⟨.slice 164, 1, 24, (.slice none 0 0)⟩),
  (197, ⟨.other, 1, 8, .nilFunc⟩),
  (36, ⟨.other, 1, 8, .nilFunc⟩),
  (90, ⟨.pointer 30, 1, 8, (.pointer none)⟩),
  (91, ⟨.pointer 31, 1, 8, (.pointer none)⟩),
  (102, ⟨.other, 1, 8, .nilFunc⟩),
  (191, ⟨.other, 1, 8, .nilFunc⟩),
  (200, ⟨.array 256 5, 256, 256, (.agg (([.int .u8 0, .int .u8 0, .int .u8 0, .int .u8 0, .int .u8 0, .int .u8 0, .int .u8 0, .int .u8 0, .int .u8 0, .int .u8 0, .int .u8 0, .int .u8 0, .int .u8 0, .int .u8 0, .int .u8 0, .int .u8 0, .int .u8 0, .int .u8 0, .int .u8 0, .int .u8 0, .int .u8 0, .int .u8 0, .int .u8 0, .int .u8 0, .int .u8 0, .int .u8 0, .int .u8 0, .int .u8 0, .int .u8 0, .int .u8 0, .int .u8 0, .int .u8 0, .int .u8 0, .int .u8 0, .int .u8 0, .int .u8 0, .int .u8 0, .int .u8 0, .int .u8 0, .int .u8 0, .int .u8 0, .int .u8 0, .int .u8 0, .int .u8 0, .int .u8 0, .int .u8 0, .int .u8 0, .int .u8 0, .int .u8 0, .int .u8 0, .int .u8 0, .int .u8 0, .int .u8 0, .int .u8 0, .int .u8 0, .int .u8 0, .int .u8 0, .int .u8 0, .int .u8 0, .int .u8 0, .int .u8 0, .int .u8 0, .int .u8 0, .int .u8 0].append [.int .u8 0, .int .u8 0, .int .u8 0, .int .u8 0, .int .u8 0, .int .u8 0, .int .u8 0, .int .u8 0, .int .u8 0, .int .u8 0, .int .u8 0, .int .u8 0, .int .u8 0, .int .u8 0, .int .u8 0, .int .u8 0, .int .u8 0, .int .u8 0, .int .u8 0, .int .u8 0, .int .u8 0, .int .u8 0, .int .u8 0, .int .u8 0, .int .u8 0, .int .u8 0, .int .u8 0, .int .u8 0, .int .u8 0, .int .u8 0, .int .u8 0, .int .u8 0, .int .u8 0, .int .u8 0, .int .u8 0, .int .u8 0, .int .u8 0, .int .u8 0, .int .u8 0, .int .u8 0, .int .u8 0, .int .u8 0, .int .u8 0, .int .u8 0, .int .u8 0, .int .u8 0, .int .u8 0, .int .u8 0, .int .u8 0, .int .u8 0, .int .u8 0, .int .u8 0, .int .u8 0, .int .u8 0, .int .u8 0, .int .u8 0, .int .u8 0, .int .u8 0, .int .u8 0, .int .u8 0, .int .u8 0, .int .u8 0, .int .u8 0, .int .u8 0]).append ([.int .u8 0, .int .u8 0, .int .u8 0, .int .u8 0, .int .u8 0, .int .u8 0, .int .u8 0, .int .u8 0, .int .u8 0, .int .u8 0, .int .u8 0, .int .u8 0, .int .u8 0, .int .u8 0, .int .u8 0, .int .u8 0, .int .u8 0, .int .u8 0, .int .u8 0, .int .u8 0, .int .u8 0, .int .u8 0, .int .u8 0, .int .u8 0, .int .u8 0, .int .u8 0, .int .u8 0, .int .u8 0, .int .u8 0, .int .u8 0, .int .u8 0, .int .u8 0, .int .u8 0, .int .u8 0, .int .u8 0, .int .u8 0, .int .u8 0, .int .u8 0, .int .u8 0, .int .u8 0, .int .u8 0, .int .u8 0, .int .u8 0, .int .u8 0, .int .u8 0, .int .u8 0, .int .u8 0, .int .u8 0, .int .u8 0, .int .u8 0, .int .u8 0, .int .u8 0, .int .u8 0, .int .u8 0, .int .u8 0, .int .u8 0, .int .u8 0, .int .u8 0, .int .u8 0, .int .u8 0, .int .u8 0, .int .u8 0, .int .u8 0, .int .u8 0].append [.int .u8 0, .int .u8 0, .int .u8 0, .int .u8 0, .int .u8 0, .int .u8 0, .int .u8 0, .int .u8 0, .int .u8 0, .int .u8 0, .int .u8 0, .int .u8 0, .int .u8 0, .int .u8 0, .int .u8 0, .int .u8 0, .int .u8 0, .int .u8 0, .int .u8 0, .int .u8 0, .int .u8 0, .int .u8 0, .int .u8 0, .int .u8 0, .int .u8 0, .int .u8 0, .int .u8 0, .int .u8 0, .int .u8 0, .int .u8 0, .int .u8 0, .int .u8 0, .int .u8 0, .int .u8 0, .int .u8 0, .int .u8 0, .int .u8 0, .int .u8 0, .int .u8 0, .int .u8 0, .int .u8 0, .int .u8 0, .int .u8 0, .int .u8 0, .int .u8 0, .int .u8 0, .int .u8 0, .int .u8 0, .int .u8 0, .int .u8 0, .int .u8 0, .int .u8 0, .int .u8 0, .int .u8 0, .int .u8 0, .int .u8 0, .int .u8 0, .int .u8 0, .int .u8 0, .int .u8 0, .int .u8 0, .int .u8 0, .int .u8 0, .int .u8 0])).toArray)⟩)]

set_option maxRecDepth 100000 in
theorem tab_ok : TabOk Tryz.prog tab :=
  ⟨⟨by kernel_rfl, by kernel_rfl, by kernel_rfl⟩,
   ⟨by kernel_rfl, by kernel_rfl, by kernel_rfl⟩,
   ⟨by kernel_rfl, by kernel_rfl, by kernel_rfl⟩,
   ⟨by kernel_rfl, by kernel_rfl, by kernel_rfl⟩,
   ⟨by kernel_rfl, by kernel_rfl, by kernel_rfl⟩,
   ⟨by kernel_rfl, by kernel_rfl, by kernel_rfl⟩,
   ⟨by kernel_rfl, by kernel_rfl, by kernel_rfl⟩,
   ⟨by kernel_rfl, by kernel_rfl, by kernel_rfl⟩,
   ⟨by kernel_rfl, by kernel_rfl, by kernel_rfl⟩,
   ⟨by kernel_rfl, by kernel_rfl, by kernel_rfl⟩,
   ⟨by kernel_rfl, by kernel_rfl, by kernel_rfl⟩,
   ⟨by kernel_rfl, by kernel_rfl, by kernel_rfl⟩,
   ⟨by kernel_rfl, by kernel_rfl, by kernel_rfl⟩,
   ⟨by kernel_rfl, by kernel_rfl, by kernel_rfl⟩,
   ⟨by kernel_rfl, by kernel_rfl, by kernel_rfl⟩,
   ⟨by kernel_rfl, by kernel_rfl, by kernel_rfl⟩,
   ⟨by kernel_rfl, by kernel_rfl, by kernel_rfl⟩,
   ⟨by kernel_rfl, by kernel_rfl, by kernel_rfl⟩,
   ⟨by kernel_rfl, by kernel_rfl, by kernel_rfl⟩,
   ⟨by kernel_rfl, by kernel_rfl, by kernel_rfl⟩,
   ⟨by kernel_rfl, by kernel_rfl, by kernel_rfl⟩,
   ⟨by kernel_rfl, by kernel_rfl, by kernel_rfl⟩,
   ⟨by kernel_rfl, by kernel_rfl, by kernel_rfl⟩,
   ⟨by kernel_rfl, by kernel_rfl, by kernel_rfl⟩,
   ⟨by kernel_rfl, by kernel_rfl, by kernel_rfl⟩,
   ⟨by kernel_rfl, by kernel_rfl, by kernel_rfl⟩,
   ⟨by kernel_rfl, by kernel_rfl, by kernel_rfl⟩,
   ⟨by kernel_rfl, by kernel_rfl, by kernel_rfl⟩,
   ⟨by kernel_rfl, by kernel_rfl, by kernel_rfl⟩,
   ⟨by kernel_rfl, by kernel_rfl, by kernel_rfl⟩,
   ⟨by kernel_rfl, by kernel_rfl, by kernel_rfl⟩,
   ⟨by kernel_rfl, by kernel_rfl, by kernel_rfl⟩,
   ⟨by kernel_rfl, by kernel_rfl, by kernel_rfl⟩,
   ⟨by kernel_rfl, by kernel_rfl, by kernel_rfl⟩,
   ⟨by kernel_rfl, by kernel_rfl, by kernel_rfl⟩,
   ⟨by kernel_rfl, by kernel_rfl, by kernel_rfl⟩,
   ⟨by kernel_rfl, by kernel_rfl, by kernel_rfl⟩,
   ⟨by kernel_rfl, by kernel_rfl, by kernel_rfl⟩,
   ⟨by kernel_rfl, by kernel_rfl, by kernel_rfl⟩,
   ⟨by kernel_rfl, by kernel_rfl, by kernel_rfl⟩,
   ⟨by kernel_rfl, by kernel_rfl, by kernel_rfl⟩,
   ⟨by kernel_rfl, by kernel_rfl, by kernel_rfl⟩,
   ⟨by kernel_rfl, by kernel_rfl, by kernel_rfl⟩,
   ⟨by kernel_rfl, by kernel_rfl, by kernel_rfl⟩,
   ⟨by kernel_rfl, by kernel_rfl, by kernel_rfl⟩,
   ⟨by kernel_rfl, by kernel_rfl, by kernel_rfl⟩,
   ⟨by kernel_rfl, by kernel_rfl, by kernel_rfl⟩,
   ⟨by kernel_rfl, by kernel_rfl, by kernel_rfl⟩, trivial⟩
theorem mixed : Tryz.prog.follows .mixedOrders = true := by kernel_rfl
end Go.Proofs.YtahdkhklngjmoaaGreatDoor

/-
  Levels and terms as pure values; small lemmas for contracts. No condition.
-/
namespace Go.Proofs.YtahdkhklngjmoaaGreatDoor
open Go.RowKit Go.Shelf

mutual
def lvA : Lv → AV
  | .mk k n xs => .agg [.i k, .i n, .sl .no 3 (lvAs xs)]
def lvAs : List Lv → List AV
  | [] => []
  | l :: ls => lvA l :: lvAs ls
end
theorem lvAs_map : ∀ ls : List Lv, lvAs ls = ls.map lvA
  | [] => rfl
  | l :: ls => by rw [lvAs, lvAs_map ls]; rfl
/-- a level, written out once -/
def lvX (l : Lv) : AV := .agg [.i l.kind, .i l.n, .sl .no 3 (l.args.map lvA)]
theorem lvA_eq (l : Lv) : lvA l = lvX l := by cases l; simp [lvA, lvX, Lv.kind, Lv.n, Lv.args, lvAs_map]
mutual
def tmA : Tm → AV
  | .mk k n nm ls xs => .agg [.i k, .i n, .str nm, .sl .no 3 (ls.map lvA), .sl .no 5 (tmAs xs)]
def tmAs : List Tm → List AV
  | [] => []
  | l :: ls => tmA l :: tmAs ls
end
theorem tmAs_map : ∀ ls : List Tm, tmAs ls = ls.map tmA
  | [] => rfl
  | l :: ls => by rw [tmAs, tmAs_map ls]; rfl
def tmX (t : Tm) : AV := .agg [.i t.kind, .i t.n, .str t.name, .sl .no 3 (t.levels.map lvA), .sl .no 5 (t.args.map tmA)]
theorem tmA_eq (t : Tm) : tmA t = tmX t := by cases t; simp [tmA, tmX, Tm.kind, Tm.n, Tm.name, Tm.levels, Tm.args, tmAs_map]

theorem Lv.nodes_eq (l : Lv) : l.nodes = Lv.nodesL l.args + 1 := by cases l; rfl
theorem Tm.nodes_eq (t : Tm) : t.nodes = Lv.nodesL t.levels + Tm.nodesL t.args + 1 := by cases t; rfl
theorem lvEq_parts (a b : Lv) : lvEq a b = (decide (a.kind = b.kind) && decide (a.n = b.n) && lvEqL a.args b.args) := by cases a; cases b; rfl
theorem tmEq_parts (a b : Tm) : tmEq a b = (decide (a.kind = b.kind) && decide (a.n = b.n) && decide (a.name = b.name) && lvEqL a.levels b.levels && tmEqL a.args b.args) := by cases a; cases b; rfl
theorem ret_b {p q : Bool} (h : p = q) : Le (.b p) (.b q) := by rw [h]; exact Le.refl _
theorem ret_i {p q : Int} (h : p = q) : Le (.i p) (.i q) := by rw [h]; exact Le.refl _
theorem take_next {α : Type} {xs ys : List α} {k : Nat} (h1 : k < xs.length) (h2 : k < ys.length) (h : xs.take k = ys.take k) (he : xs[k] = ys[k]) : xs.take (k + 1) = ys.take (k + 1) := by
  rw [List.take_succ_eq_append_getElem h1, List.take_succ_eq_append_getElem h2, h, he]
theorem in64_of {n : Int} (h : -9223372036854775808 ≤ n) (k : n ≤ 9223372036854775807) : in64 n := ⟨h, k⟩
/-- an element of a slice of levels -/
theorem lvAt {ls : List Lv} {k : Nat} (h : k < ls.length) : (ls.map lvA)[k]? = some (lvX ls[k]) := by simp [h, lvA_eq]
theorem tmAt' {ls : List Tm} {k : Nat} (h : k < ls.length) : (ls.map tmA)[k]? = some (tmX ls[k]) := by simp [h, tmA_eq]

/-! the ways part -/
theorem ifB_dec {p : Prop} [Decidable p] {A B : Prop} (h1 : p → A) (h2 : ¬p → B) : ifB (decide p) A B := by
  by_cases h : p
  · rw [decide_eq_true h]; exact h1 h
  · rw [decide_eq_false h]; exact h2 h
theorem ifB_t {p : Prop} [Decidable p] {A B : Prop} (h : p) (h1 : A) : ifB (decide p) A B := by rw [decide_eq_true h]; exact h1
theorem ifB_f {p : Prop} [Decidable p] {A B : Prop} (h : ¬p) (h1 : B) : ifB (decide p) A B := by rw [decide_eq_false h]; exact h1
/-- a function that answers a value and leaves the objects -/
def Ans (P : Program) (f : FuncId) (args : List AV) (r : AV) : Prop := ∀ (H : Heap) (Q : AV → Heap → Prop), Q r H → Con P f args H Q
theorem ent {P : Program} {f : FuncId} {fn : Func} {c : Code} (hf : P.funcs[f]? = some fn) (hname : (fn.name == "runtime.NumGoroutine") = false) (hb : fn.body = some c) : ∀ args w, (callFunc f args).run P w = .ok (.enter f args) w := enters_of hf hname hb

/-! objects behind pointers -/
/-- the object at b is another one -/
def Heap.upd (H : Heap) (b : Nat) (y : AObj) : Heap := H.map fun p => if p.1 = b then (b, y) else p
theorem Heap.upd_keys (H : Heap) (b : Nat) (y : AObj) : (H.upd b y).keys = H.keys := by
  unfold Heap.upd Heap.keys
  rw [List.map_map]
  apply List.map_congr_left
  intro p _
  simp only [Function.comp]
  split <;> simp_all
theorem Heap.upd_upd (H : Heap) (b : Nat) (y z : AObj) : (H.upd b y).upd b z = H.upd b z := by
  unfold Heap.upd
  rw [List.map_map]
  apply List.map_congr_left
  intro p _
  simp only [Function.comp]
  by_cases h : p.1 = b <;> simp [h]
theorem Heap.mem_upd {H : Heap} {b : Nat} {x y : AObj} (h : (b, x) ∈ H) : (b, y) ∈ H.upd b y := List.mem_map.2 ⟨_, h, by simp⟩
theorem Heap.upd_none {H : Heap} {b : Nat} {y : AObj} (h : b ∉ H.keys) : H.upd b y = H := by
  unfold Heap.upd
  conv => rhs; rw [← List.map_id H]
  apply List.map_congr_left
  intro p hp
  rw [if_neg]
  · rfl
  · rintro rfl; exact h (Heap.mem_keys hp)
theorem Heap.at_upd {b : Nat} {x : AObj} (y : AObj) : ∀ {H : Heap}, (b, x) ∈ H → H.keys.Nodup → Heap.At b x y H (H.upd b y)
  | p :: H, h, hn => by
    simp only [Heap.keys, List.map_cons, List.nodup_cons] at hn
    rcases List.mem_cons.1 h with h | h
    · subst h
      have e : Heap.upd ((b, x) :: H) b y = (b, y) :: H := by
        show (if b = b then (b, y) else (b, x)) :: Heap.upd H b y = _
        rw [if_pos rfl, Heap.upd_none hn.1]
      rw [e]; exact .here
    · have hne : p.1 ≠ b := fun e => hn.1 (by rw [e]; exact Heap.mem_keys h)
      have e : Heap.upd (p :: H) b y = p :: Heap.upd H b y := by
        show (if p.1 = b then (b, y) else p) :: Heap.upd H b y = _
        rw [if_neg hne]
      rw [e]; exact .there (Heap.at_upd y h hn.2)
theorem Heap.nodup_upd {H : Heap} (b : Nat) (y : AObj) (hn : H.keys.Nodup) : (H.upd b y).keys.Nodup := by rw [Heap.upd_keys]; exact hn
theorem sub_eq {H H' : Heap} (h : H = H') : H.Sublist H' := by rw [h]; exact List.Sublist.refl _
/-- a list's sum so far -/
theorem nodesL_snoc {ls : List Lv} {k : Nat} (h : k < ls.length) : Lv.nodesL (ls.take (k + 1)) = Lv.nodesL (ls.take k) + ls[k].nodes := by
  induction ls generalizing k with
  | nil => simp at h
  | cons a ls ih =>
    cases k with
    | zero => simp [Lv.nodesL]
    | succ k => simp [Lv.nodesL, ih (by simpa using h)]; omega
theorem nodesTL_snoc {ls : List Tm} {k : Nat} (h : k < ls.length) : Tm.nodesL (ls.take (k + 1)) = Tm.nodesL (ls.take k) + ls[k].nodes := by
  induction ls generalizing k with
  | nil => simp at h
  | cons a ls ih =>
    cases k with
    | zero => simp [Tm.nodesL]
    | succ k => simp [Tm.nodesL, ih (by simpa using h)]; omega
theorem Wf.args {l : Lv} (h : Wf (lvX l)) : l.args.length ≤ 9223372036854775807 := by
  have := Wf.len (h.cell (x := .sl .no 3 (l.args.map lvA)) (by simp))
  simpa using this
theorem Wf.targs {t : Tm} (h : Wf (tmX t)) : t.args.length ≤ 9223372036854775807 := by
  have := Wf.len (h.cell (x := .sl .no 5 (t.args.map tmA)) (by simp))
  simpa using this
theorem Wf.tlevels {t : Tm} (h : Wf (tmX t)) : t.levels.length ≤ 9223372036854775807 := by
  have := Wf.len (h.cell (x := .sl .no 3 (t.levels.map lvA)) (by simp))
  simpa using this
theorem Wf.tname {t : Tm} (h : Wf (tmX t)) : t.name.length ≤ 1125899906842624 := (h.cell (x := .str t.name) (by simp)).str
end Go.Proofs.YtahdkhklngjmoaaGreatDoor

/-
  SameLevel. No condition.
-/
namespace Go.Proofs.YtahdkhklngjmoaaGreatDoor
open Go.RowKit

set_option maxRecDepth 100000 in
theorem SameLevel_con : ∀ (N : Nat) (a b : Lv), a.nodes ≤ N → Ans Tryz.prog 39 [lvX a, lvX b] (.b (lvEq a b)) := by
  intro N
  induction N with
  | zero => intro a b h; have := a.nodes_pos; omega
  | succ N ih =>
    intro a b hN H Q hq
    refine con_of_awp (esc := fun _ => false) tab_ok mixed Tryz.func39 rfl (ent Tryz.func39 (by kernel_rfl) rfl) (by kernel_rfl) ?_
    intro hw hn
    have hlen := Wf.len ((hw (lvX a) (by simp)).cell (x := .sl .no 3 (a.args.map lvA)) (by simp))
    refine ifB_dec (fun h1 => ?_) (fun h1 => ?_)
    · refine ifB_dec (fun h2 => ?_) (fun h2 => ?_)
      · refine ifB_dec (fun h3 => ?_) (fun h3 => ?_)
        · refine ⟨Nat, fun k => ⟨[(2, .lp 2 0), (3, .lp 3 0), (5, .g (.i k))], [(3, (lvX b).cells), (2, (lvX a).cells)], H⟩, fun k => k ≤ a.args.length ∧ a.args.take k = b.args.take k, fun k => a.args.length - k,
            ⟨0, ⟨Nat.zero_le _, rfl⟩, ⟨⟨⟨rfl, rfl⟩, ⟨rfl, rfl⟩, Le.refl _, trivial⟩, ⟨⟨rfl, LeL.refl _⟩, ⟨rfl, LeL.refl _⟩, trivial⟩, List.Sublist.refl _⟩⟩, ?_⟩
          rintro k ⟨hk, hpre⟩
          simp only [List.length_map] at h3 hlen
          have h3' : a.args.length = b.args.length := by omega
          refine ifB_dec (fun h4 => ?_) (fun h4 => ?_)
          · have hlt : k < a.args.length := by simpa using h4
            have hlt' : k < b.args.length := by omega
            refine ⟨[0, 1, 2, 3, 4, 5, 6, 7, 8, 9, 10, 11], [], by kernel_rfl, by simp, ?_⟩
            refine ⟨k, rfl, _, lvAt hlt, ?_⟩
            refine ⟨k, rfl, _, lvAt hlt', ?_⟩
            refine ⟨_, LeL.refl _, ?_⟩
            have hm := Lv.nodesL_mem (List.getElem_mem hlt)
            have hn' := a.nodes_eq
            refine ih _ _ (by omega) _ _ ?_
            intro hz1 hz2; clear hz1 hz2
            cases hg : lvEq a.args[k] b.args[k] with
            | true =>
              have he := (lvEq_iff _ _).1 hg
              refine ⟨by constructor <;> omega, ?_⟩
              exact ⟨k + 1, ⟨by omega, take_next hlt hlt' hpre he⟩, by dsimp only; omega, ⟨⟨⟨rfl, rfl⟩, ⟨rfl, rfl⟩, Le.refl _, trivial⟩, ⟨⟨rfl, LeL.refl _⟩, ⟨rfl, LeL.refl _⟩, trivial⟩, List.Sublist.refl _⟩⟩
            | false =>
              refine ⟨_, H, ret_b ?_, List.Sublist.refl _, hq⟩
              rw [lvEq_parts]
              have : lvEqL a.args b.args = false := by
                cases h : lvEqL a.args b.args with
                | false => rfl
                | true =>
                  have he := (lvEqL_iff _ _).1 h
                  have h6 : a.args[k] = b.args[k] := by simp only [he]
                  rw [(lvEq_iff _ _).2 h6] at hg; cases hg
              simp [this]
          · refine ⟨_, H, ret_b ?_, List.Sublist.refl _, hq⟩
            have hk' : k = a.args.length := by
              have : ¬ k < a.args.length := by simpa using h4
              omega
            rw [lvEq_parts, (lvEqL_iff _ _).2]
            · simp [h1, h2]
            · rw [hk', List.take_length, h3', List.take_length] at hpre; exact hpre
        · refine ⟨_, H, ret_b ?_, List.Sublist.refl _, hq⟩
          rw [lvEq_parts]
          have : lvEqL a.args b.args = false := by
            cases h : lvEqL a.args b.args with
            | false => rfl
            | true => rw [(lvEqL_iff _ _).1 h] at h3; exact absurd rfl h3
          simp [this]
      · exact ⟨_, H, ret_b (by rw [lvEq_parts]; simp [h2]), List.Sublist.refl _, hq⟩
    · exact ⟨_, H, ret_b (by rw [lvEq_parts]; simp [h1]), List.Sublist.refl _, hq⟩
end Go.Proofs.YtahdkhklngjmoaaGreatDoor

/-
  The program's levels: wide, count, Nodes, node, all, Right. No condition.
-/
namespace Go.Proofs.YtahdkhklngjmoaaGreatDoor
open Go.RowKit

set_option maxRecDepth 100000 in
theorem wide_con (k : Int) : Ans Tryz.prog 196 [.i k] (.i (lvWide k)) := by
  intro H Q hq
  refine con_of_awp (esc := fun _ => false) tab_ok mixed Tryz.func196 rfl (ent Tryz.func196 (by kernel_rfl) rfl) (by kernel_rfl) ?_
  intro hw hn
  have hw' : ∀ q : Int, q = lvWide k → ∃ r H', Le (.i q) r ∧ List.Sublist H' H ∧ Q r H' := fun q h => ⟨_, H, ret_i h, List.Sublist.refl _, hq⟩
  refine ifB_dec (fun h1 => ?_) (fun h1 => ?_)
  · exact hw' _ (by simp [lvWide, h1])
  · refine ifB_dec (fun h2 => ?_) (fun h2 => ?_)
    · exact hw' _ (by simp [lvWide, h2])
    · refine ifB_dec (fun h3 => ?_) (fun h3 => ?_)
      · exact hw' _ (by simp [lvWide, h3])
      · refine ifB_dec (fun h4 => ?_) (fun h4 => ?_)
        · exact hw' _ (by simp [lvWide, h4])
        · refine ifB_dec (fun h5 => ?_) (fun h5 => ?_)
          · exact hw' _ (by simp [lvWide, h5])
          · exact hw' _ (by simp [lvWide, h1, h2, h3, h4, h5])

/-- what is left of so many -/
def left (n : Int) (k : Nat) : Int := max (n - k) (-1)

set_option maxRecDepth 100000 in
theorem count_con : ∀ (N : Nat) (l : Lv) (n : Int) (b : Nat) (H H' : Heap) (Q : AV → Heap → Prop), l.nodes ≤ N → 0 ≤ n → n ≤ 1000000 → (b, .cells [.i n]) ∈ H → H.upd b (.cells [.i (left n l.nodes)]) = H' → Q (.tup []) H' → Con Tryz.prog 186 [lvX l, .ptr b 0] H Q := by
  intro N
  induction N with
  | zero => intro l n b H H' Q h; have := l.nodes_pos; omega
  | succ N ih =>
    intro l n b H H' Q hN h0 hm hin hH hq
    subst hH
    refine con_of_awp (esc := fun _ => false) tab_ok mixed Tryz.func186 rfl (ent Tryz.func186 (by kernel_rfl) rfl) (by kernel_rfl) ?_
    intro hw hn
    have hlen := (hw (lvX l) (by simp)).args
    have hnd := l.nodes_eq
    refine ⟨_, hin, in64_of (by omega) (by omega), _, _, Heap.at_upd _ hin hn, Nat.le_refl _, ?_⟩
    refine ⟨Nat × Int, fun p => ⟨[(1, .g (.ptr b 0)), (12, .g (.sl .no 3 (l.args.map lvA))), (13, .g (.i l.args.length)), (14, .g (.i p.1))], [(2, (lvX l).cells)], H.upd b (.cells [.i p.2])⟩,
      fun p => p.1 ≤ l.args.length ∧ p.2 = left (n - 1) (Lv.nodesL (l.args.take p.1)), fun p => l.args.length - p.1, ⟨(0, n - 1), ⟨Nat.zero_le _, by simp [left, Lv.nodesL]; omega⟩, ?_⟩, ?_⟩
    · exact ⟨⟨Le.refl _, Le.refl _, by simp only [List.length_map]; exact Le.refl _, Le.refl _, trivial⟩, ⟨⟨rfl, LeL.refl _⟩, trivial⟩, List.Sublist.refl _⟩
    · rintro ⟨k, m⟩ ⟨hk, hm2⟩
      simp only at hk hm2
      have hin2 : (b, AObj.cells [.i m]) ∈ H.upd b (.cells [.i m]) := Heap.mem_upd hin
      have hn2 := Heap.nodup_upd b (.cells [.i m]) hn
      refine ifB_dec (fun h1 => ?_) (fun h1 => ?_)
      · have hlt : k < l.args.length := by omega
        have hs := nodesL_snoc hlt
        have hle : Lv.nodesL (l.args.take (k + 1)) ≤ Lv.nodesL l.args := by
          have : ∀ (ls : List Lv) (k : Nat), Lv.nodesL (ls.take k) ≤ Lv.nodesL ls := by
            intro ls
            induction ls with
            | nil => intro k; simp [Lv.nodesL]
            | cons a ls ih => intro k; cases k with
              | zero => simp [Lv.nodesL]
              | succ k => simp [Lv.nodesL, ih k]
          exact this _ _
        refine ⟨k, rfl, _, lvAt hlt, ?_⟩
        refine ⟨_, hin2, ?_⟩
        refine ifB_dec (fun h2 => ?_) (fun h2 => ?_)
        · refine ⟨_, _, Le.refl _, List.Sublist.refl _, ?_⟩
          have : left n l.nodes = m := by unfold left at *; omega
          rw [← this]; exact hq
        · refine ⟨_, LeL.refl _, ?_⟩
          have hmem := Lv.nodesL_mem (List.getElem_mem hlt)
          refine ih _ m b _ _ _ (by omega) (by omega) (by unfold left at hm2; omega) hin2 rfl ?_
          intro hz1 hz2; clear hz1 hz2
          refine ⟨in64_of (by omega) (by omega), ?_⟩
          refine ⟨(k + 1, left m l.args[k].nodes), ⟨by simp only; omega, ?_⟩, by dsimp only; omega, ⟨⟨Le.refl _, Le.refl _, Le.refl _, Le.refl _, trivial⟩, ⟨⟨rfl, LeL.refl _⟩, trivial⟩, sub_eq (Heap.upd_upd H b _ _).symm⟩⟩
          unfold left at *; simp only; omega
      · refine ⟨_, _, Le.refl _, List.Sublist.refl _, ?_⟩
        have hk' : k = l.args.length := by omega
        have : left n l.nodes = m := by
          rw [hm2, hk', List.take_length]
          unfold left
          omega
        rw [← this]; exact hq

set_option maxRecDepth 100000 in
theorem lvNodes_con (l : Lv) : Ans Tryz.prog 173 [lvX l] (.i (min l.nodes 65 : Nat)) := by
  intro H Q hq
  refine con_of_awp (esc := ([3].contains ·)) tab_ok mixed Tryz.func173 rfl (ent Tryz.func173 (by kernel_rfl) rfl) (by kernel_rfl) ?_
  intro hw hn b hb
  refine ⟨_, _, .here, Nat.le_refl _, ?_⟩
  refine ⟨_, LeL.refl _, ?_⟩
  have hb' : b ∉ H.keys := hb
  have e : Heap.upd ((b, AObj.cells [.i 64]) :: H) b (AObj.cells [.i (left 64 l.nodes)]) = (b, .cells [.i (left 64 l.nodes)]) :: H := by
    show (if b = b then _ else _) :: Heap.upd H b _ = _
    rw [if_pos rfl, Heap.upd_none hb']
  refine count_con l.nodes l 64 b _ _ _ (Nat.le_refl _) (by decide) (by decide) (List.mem_cons_self) e ?_
  intro hz1 hz2; clear hz1 hz2
  refine ⟨_, List.mem_cons_self, in64_of (by unfold left; omega) (by unfold left; omega), ?_⟩
  refine ⟨_, H, ret_i ?_, List.sublist_cons_self _ _, hq⟩
  unfold left; omega

set_option maxRecDepth 100000 in
theorem node_con (l : Lv) (n : Int) : Ans Tryz.prog 187 [lvX l, .i n] (.b (lvNode n l.kind l.n l.args.length)) := by
  intro H Q hq
  refine con_of_awp (esc := fun _ => false) tab_ok mixed Tryz.func187 rfl (ent Tryz.func187 (by kernel_rfl) rfl) (by kernel_rfl) ?_
  intro hw hn
  have fin : ∀ q : Bool, q = lvNode n l.kind l.n l.args.length → ∃ r H', Le (.b q) r ∧ List.Sublist H' H ∧ Q r H' := fun q h => ⟨_, H, ret_b h, List.Sublist.refl _, hq⟩
  refine ⟨[0, 1, 2, 3, 4, 5, 6], [], by kernel_rfl, by simp, ?_⟩
  refine ⟨_, LeL.refl _, wide_con _ _ _ ?_⟩
  intro hz1 hz2; clear hz1 hz2
  simp only [List.length_map]
  refine ifB_dec (fun h1 => ?_) (fun h1 => ?_)
  · skip
    refine ifB_dec (fun h2 => ?_) (fun h2 => ?_)
    · rw [h2] at h1
      refine ifB_dec (fun h3 => ?_) (fun h3 => ?_)
      · refine ifB_dec (fun h4 => ?_) (fun h4 => ?_)
        · exact fin _ (by simp [lvNode, lvWide] at h1 ⊢; simp [h2, h1]; omega)
        · exact fin _ (by simp [lvNode]; simp [h2]; omega)
      · exact fin _ (by simp [lvNode]; simp [h2]; omega)
    · refine ifB_dec (fun h3 => ?_) (fun h3 => ?_)
      · rw [h3] at h1
        refine ifB_dec (fun h4 => ?_) (fun h4 => ?_)
        · refine ifB_dec (fun h5 => ?_) (fun h5 => ?_)
          · exact fin _ (by simp [lvNode, lvWide] at h1 ⊢; simp [h3, h1]; omega)
          · exact fin _ (by simp [lvNode]; simp [h3]; omega)
        · exact fin _ (by simp [lvNode]; simp [h3]; omega)
      · refine ifB_dec (fun h4 => ?_) (fun h4 => ?_)
        · refine fin _ ?_
          unfold lvWide at h1
          unfold lvNode
          simp only [h2, h3, h4, if_false] at h1 ⊢
          by_cases h5 : l.kind = 3
          · simp [h5] at h1 ⊢; omega
          · by_cases h6 : l.kind = 4 ∨ l.kind = 5
            · simp [h5, h6] at h1 ⊢; omega
            · simp [h5, h6] at h1
        · refine fin _ ?_
          unfold lvNode
          simp only [h2, h3, h4, if_false]
          simp
  · refine fin _ ?_
    try simp only [List.length_map] at h1
    unfold lvWide at h1
    unfold lvNode
    by_cases h2 : l.kind = 1
    · simp [h2] at h1 ⊢; first | omega | (intros; exact h1)
    · by_cases h3 : l.kind = 2
      · simp [h3] at h1 ⊢; first | omega | (intros; exact h1)
      · by_cases h5 : l.kind = 3
        · simp [h5] at h1 ⊢; first | omega | (intros; exact h1)
        · by_cases h6 : l.kind = 4 ∨ l.kind = 5
          · simp [h2, h3, h5, h6] at h1 ⊢; first | omega | (intros; exact h1)
          · simp [h2, h3, h5, h6]

theorem lvFitL_all (n : Int) : ∀ ls : List Lv, lvFitL n ls = ls.all (lvFit n)
  | [] => rfl
  | l :: ls => by rw [lvFitL, lvFitL_all n ls]; rfl
theorem lvFit_parts (n : Int) (l : Lv) : lvFit n l = (lvNode n l.kind l.n l.args.length && l.args.all (lvFit n)) := by
  cases l; rw [lvFit, lvFitL_all]; rfl
theorem all_take {α : Type} {f : α → Bool} {xs : List α} {k : Nat} (h : k < xs.length) (h1 : (xs.take k).all f = true) (h2 : f xs[k] = true) : (xs.take (k + 1)).all f = true := by
  rw [List.take_succ_eq_append_getElem h, List.all_append, h1]; simp [h2]
theorem all_no {α : Type} {f : α → Bool} {xs : List α} {k : Nat} (h : k < xs.length) (h2 : f xs[k] = false) : xs.all f = false := by
  rw [List.all_eq_false]; exact ⟨xs[k], List.getElem_mem h, by simp [h2]⟩

set_option maxRecDepth 100000 in
theorem all_con (n : Int) : ∀ (N : Nat) (l : Lv), l.nodes ≤ N → Ans Tryz.prog 174 [lvX l, .i n] (.b (lvFit n l)) := by
  intro N
  induction N with
  | zero => intro l h; have := l.nodes_pos; omega
  | succ N ih =>
    intro l hN H Q hq
    refine con_of_awp (esc := fun _ => false) tab_ok mixed Tryz.func174 rfl (ent Tryz.func174 (by kernel_rfl) rfl) (by kernel_rfl) ?_
    intro hw hn
    have hlen := (hw (lvX l) (by simp)).args
    have fin : ∀ q : Bool, q = lvFit n l → ∃ r H', Le (.b q) r ∧ List.Sublist H' H ∧ Q r H' := fun q h => ⟨_, H, ret_b h, List.Sublist.refl _, hq⟩
    refine ⟨_, LeL.refl _, node_con _ _ _ _ ?_⟩
    intro hz1 hz2; clear hz1 hz2
    cases hnd : lvNode n l.kind l.n l.args.length with
    | false => exact fin _ (by rw [lvFit_parts, hnd]; rfl)
    | true =>
      refine ⟨Nat, fun k => ⟨[(1, .g (.i n)), (12, .g (.sl .no 3 (l.args.map lvA))), (13, .g (.i l.args.length)), (14, .g (.i k))], [(2, (lvX l).cells)], H⟩,
        fun k => k ≤ l.args.length ∧ (l.args.take k).all (lvFit n) = true, fun k => l.args.length - k, ⟨0, ⟨Nat.zero_le _, rfl⟩, ?_⟩, ?_⟩
      · exact ⟨⟨Le.refl _, Le.refl _, by simp only [List.length_map]; exact Le.refl _, Le.refl _, trivial⟩, ⟨⟨rfl, LeL.refl _⟩, trivial⟩, List.Sublist.refl _⟩
      · rintro k ⟨hk, hall⟩
        refine ifB_dec (fun h1 => ?_) (fun h1 => ?_)
        · have hlt : k < l.args.length := by omega
          refine ⟨k, rfl, _, lvAt hlt, ?_⟩
          refine ⟨_, LeL.refl _, ?_⟩
          have hmem := Lv.nodesL_mem (List.getElem_mem hlt)
          have hnd2 := l.nodes_eq
          refine ih _ (by omega) _ _ ?_
          intro hz1 hz2; clear hz1 hz2
          cases hg : lvFit n l.args[k] with
          | true =>
            refine ⟨in64_of (by omega) (by omega), ?_⟩
            exact ⟨k + 1, ⟨by omega, all_take hlt hall hg⟩, by dsimp only; omega, ⟨⟨Le.refl _, Le.refl _, Le.refl _, Le.refl _, trivial⟩, ⟨⟨rfl, LeL.refl _⟩, trivial⟩, List.Sublist.refl _⟩⟩
          | false => exact fin _ (by rw [lvFit_parts, all_no hlt hg]; simp)
        · have hk' : k = l.args.length := by omega
          exact fin _ (by rw [lvFit_parts, hnd]; rw [hk', List.take_length] at hall; rw [hall]; rfl)

set_option maxRecDepth 100000 in
theorem lvRight_con (n : Int) (l : Lv) : Ans Tryz.prog 150 [lvX l, .i n] (.b (lvRight n l)) := by
  intro H Q hq
  refine con_of_awp (esc := fun _ => false) tab_ok mixed Tryz.func150 rfl (ent Tryz.func150 (by kernel_rfl) rfl) (by kernel_rfl) ?_
  intro hw hn
  have fin : ∀ q : Bool, q = lvRight n l → ∃ r H', Le (.b q) r ∧ List.Sublist H' H ∧ Q r H' := fun q h => ⟨_, H, ret_b h, List.Sublist.refl _, hq⟩
  refine ifB_dec (fun h1 => ?_) (fun h1 => ?_)
  · refine ifB_dec (fun h2 => ?_) (fun h2 => ?_)
    · refine ⟨_, LeL.refl _, lvNodes_con _ _ _ ?_⟩
      intro hz1 hz2; clear hz1 hz2
      refine ifB_dec (fun h3 => ?_) (fun h3 => ?_)
      · refine ⟨_, LeL.refl _, all_con _ _ _ (Nat.le_refl _) _ _ ?_⟩
        intro hz1 hz2; clear hz1 hz2
        exact fin _ (by unfold lvRight; have : l.nodes ≤ 64 := by omega
                        simp [h1, h2, this])
      · exact fin _ (by unfold lvRight; have : ¬ l.nodes ≤ 64 := by omega
                        simp [this])
    · exact fin _ (by unfold lvRight; simp [h2])
  · exact fin _ (by unfold lvRight; simp [h1])
end Go.Proofs.YtahdkhklngjmoaaGreatDoor

/-
  The reference's levels: LevelNodes, right, Right. No condition.
-/
namespace Go.Proofs.YtahdkhklngjmoaaGreatDoor
open Go.RowKit

/-- what a counting loop carries: so many so far, or too many -/
def CntRel (most sum : Nat) (m : Int) : Prop := 0 ≤ m ∧ min m (most + 1) = min (sum : Int) (most + 1) ∧ m ≤ 2 * most + 2

set_option maxRecDepth 100000 in
theorem LevelNodes_con (most : Nat) (hm : most ≤ 1099511627776) : ∀ (N : Nat) (l : Lv), l.nodes ≤ N → Ans Tryz.prog 64 [lvX l, .i most] (.i (min l.nodes (most + 1) : Nat)) := by
  intro N
  induction N with
  | zero => intro l h; have := l.nodes_pos; omega
  | succ N ih =>
    intro l hN H Q hq
    refine con_of_awp (esc := fun _ => false) tab_ok mixed Tryz.func64 rfl (ent Tryz.func64 (by kernel_rfl) rfl) (by kernel_rfl) ?_
    intro hw hn
    have hlen := (hw (lvX l) (by simp)).args
    have hnd := l.nodes_eq
    refine ⟨Nat × Int, fun p => ⟨[(1, .g (.i most)), (2, .lp 2 0), (5, .g (.i p.2)), (6, .g (.i p.1))], [(2, (lvX l).cells)], H⟩,
      fun p => p.1 ≤ l.args.length ∧ CntRel most (Lv.nodesL (l.args.take p.1) + 1) p.2, fun p => l.args.length - p.1, ⟨(0, 1), ⟨Nat.zero_le _, by unfold CntRel; simp [Lv.nodesL]; omega⟩, ?_⟩, ?_⟩
    · exact ⟨⟨Le.refl _, ⟨rfl, rfl⟩, Le.refl _, Le.refl _, trivial⟩, ⟨⟨rfl, LeL.refl _⟩, trivial⟩, List.Sublist.refl _⟩
    · rintro ⟨k, m⟩ ⟨hk, hrel⟩
      simp only at hk hrel
      have hr := hrel
      unfold CntRel at hr
      have fin : Lv.nodesL l.args ≥ Lv.nodesL (l.args.take k) → (k = l.args.length ∨ (most : Int) < m) → (in64 ((most : Int) + 1) ∧ ∃ r H', Le (.i (min m ((most : Int) + 1))) r ∧ List.Sublist H' H ∧ Q r H') := fun hge hor => by
        refine ⟨in64_of (by omega) (by omega), _, H, ret_i ?_, List.Sublist.refl _, hq⟩
        rcases hor with rfl | h
        · rw [List.take_length] at hr; omega
        · omega
      have hle : Lv.nodesL (l.args.take k) ≤ Lv.nodesL l.args := nodesL_le _ _
      refine ifB_dec (fun h1 => ?_) (fun h1 => ?_)
      · have hlt : k < l.args.length := by simpa using h1
        refine ifB_dec (fun h2 => ?_) (fun h2 => ?_)
        · refine ⟨k, rfl, _, lvAt hlt, ?_⟩
          refine ⟨_, LeL.refl _, ?_⟩
          have hmem := Lv.nodesL_mem (List.getElem_mem hlt)
          refine ih _ (by omega) _ _ ?_
          intro hz1 hz2; clear hz1 hz2
          refine ⟨in64_of (by omega) (by omega), ?_⟩
          refine ⟨in64_of (by omega) (by omega), ?_⟩
          have hs := nodesL_snoc hlt
          refine ⟨(k + 1, m + (min l.args[k].nodes (most + 1) : Nat)), ⟨by simp only; omega, ?_⟩, by dsimp only; omega, ⟨⟨Le.refl _, ⟨rfl, rfl⟩, Le.refl _, Le.refl _, trivial⟩, ⟨⟨rfl, LeL.refl _⟩, trivial⟩, List.Sublist.refl _⟩⟩
          unfold CntRel at *
          simp only
          omega
        · exact fin hle (Or.inr (by omega))
      · have hk' : k = l.args.length := by
          have : ¬ k < l.args.length := by simpa using h1
          omega
        exact fin hle (Or.inl hk')
where
  nodesL_le : ∀ (ls : List Lv) (k : Nat), Lv.nodesL (ls.take k) ≤ Lv.nodesL ls := by
    intro ls
    induction ls with
    | nil => intro k; simp [Lv.nodesL]
    | cons a ls ih => intro k; cases k with
      | zero => simp [Lv.nodesL]
      | succ k => simp [Lv.nodesL, ih k]

set_option maxRecDepth 100000 in
theorem ref03right_con (n : Int) : ∀ (N : Nat) (l : Lv), l.nodes ≤ N → Ans Tryz.prog 115 [lvX l, .i n] (.b (lvFit n l)) := by
  intro N
  induction N with
  | zero => intro l h; have := l.nodes_pos; omega
  | succ N ih =>
    intro l hN H Q hq
    refine con_of_awp (esc := fun _ => false) tab_ok mixed Tryz.func115 rfl (ent Tryz.func115 (by kernel_rfl) rfl) (by kernel_rfl) ?_
    intro hw hn
    have hlen := (hw (lvX l) (by simp)).args
    have hnd := l.nodes_eq
    have fin : ∀ q : Bool, q = lvFit n l → ∃ r H', Le (.b q) r ∧ List.Sublist H' H ∧ Q r H' := fun q h => ⟨_, H, ret_b h, List.Sublist.refl _, hq⟩
    -- leaves
    have leaf : (l.kind = 1 ∨ l.kind = 2) → ∀ q : Bool, q = lvNode n l.kind l.n l.args.length → q = lvFit n l := by
      intro hk q hqq
      rw [lvFit_parts, hqq]
      cases hnn : lvNode n l.kind l.n l.args.length with
      | false => rfl
      | true =>
        have h0 : l.args = [] := by
          unfold lvNode at hnn
          rcases hk with h | h <;> simp [h] at hnn <;> exact hnn.2
        rw [h0]; rfl
    refine ifB_dec (fun h1 => ?_) (fun h1 => ?_)
    · refine ifB_dec (fun h2 => ?_) (fun h2 => ?_)
      · refine ifB_dec (fun h3 => ?_) (fun h3 => ?_)
        · refine ifB_dec (fun h4 => ?_) (fun h4 => ?_)
          · exact fin _ (leaf (Or.inl h1) _ (by simp at h4; simp [lvNode, h1, h4]; omega))
          · exact fin _ (leaf (Or.inl h1) _ (by simp at h4; simp [lvNode, h1, h4]))
        · exact fin _ (leaf (Or.inl h1) _ (by simp [lvNode, h1, h3]))
      · exact fin _ (leaf (Or.inl h1) _ (by simp [lvNode, h1, h2]))
    · refine ifB_dec (fun h2 => ?_) (fun h2 => ?_)
      · refine ifB_dec (fun h3 => ?_) (fun h3 => ?_)
        · refine ifB_dec (fun h4 => ?_) (fun h4 => ?_)
          · refine ifB_dec (fun h5 => ?_) (fun h5 => ?_)
            · exact fin _ (leaf (Or.inr h2) _ (by simp at h5; simp [lvNode, h2, h5]; omega))
            · exact fin _ (leaf (Or.inr h2) _ (by simp at h5; simp [lvNode, h2, h5]))
          · exact fin _ (leaf (Or.inr h2) _ (by simp [lvNode, h2, h4]))
        · exact fin _ (leaf (Or.inr h2) _ (by simp [lvNode, h2, h3]))
      · refine ifB_dec (fun h3 => ?_) (fun h3 => ?_)
        · refine ifB_dec (fun h6 => ?_) (fun h6 => ?_)
          · refine ifB_dec (fun h7 => ?_) (fun h7 => ?_)
            · have hL : l.args.length = 1 := by simp at h7; omega
              have hnode : lvNode n l.kind l.n l.args.length = true := by simp [lvNode, h3, h6, hL]
              refine ⟨Nat, fun k => ⟨[(1, .g (.i n)), (2, .lp 2 0), (4, .g (.b false)), (5, .g (.i 1)), (6, .g (.i k))], [(2, (lvX l).cells)], H⟩,
                fun k => k ≤ l.args.length ∧ (l.args.take k).all (lvFit n) = true, fun k => l.args.length - k, ⟨0, ⟨Nat.zero_le _, rfl⟩, ?_⟩, ?_⟩
              · exact ⟨⟨Le.refl _, ⟨rfl, rfl⟩, Le.refl _, Le.refl _, Le.refl _, trivial⟩, ⟨⟨rfl, LeL.refl _⟩, trivial⟩, List.Sublist.refl _⟩
              · rintro k ⟨hk, hall⟩
                refine ifB_dec (fun h8 => ?_) (fun h8 => ?_)
                · have hlt : k < l.args.length := by omega
                  refine ⟨k, rfl, _, lvAt hlt, ?_⟩
                  have hmem := Lv.nodesL_mem (List.getElem_mem hlt)
                  refine ⟨_, LeL.refl _, ih _ (by omega) _ _ ?_⟩
                  intro hz1 hz2; clear hz1 hz2
                  cases hg : lvFit n l.args[k] with
                  | true =>
                    refine ⟨in64_of (by first | omega | (dsimp only; omega)) (by first | omega | (dsimp only; omega)), ?_⟩
                    exact ⟨k + 1, ⟨by omega, all_take hlt hall hg⟩, by dsimp only; omega, ⟨⟨Le.refl _, ⟨rfl, rfl⟩, Le.refl _, Le.refl _, Le.refl _, trivial⟩, ⟨⟨rfl, LeL.refl _⟩, trivial⟩, List.Sublist.refl _⟩⟩
                  | false => exact fin _ (by rw [lvFit_parts, all_no hlt hg]; simp)
                · have hk' : k = l.args.length := by omega
                  exact fin _ (by rw [lvFit_parts, hnode]; rw [hk', List.take_length] at hall; rw [hall]; rfl)
            · refine fin _ ?_
              rw [lvFit_parts]; simp at h7; simp [lvNode, h3, h6]; intro h; omega
          · refine fin _ ?_
            rw [lvFit_parts]; simp [lvNode, h3, h6]
        · refine ifB_dec (fun h4 => ?_) (fun h4 => ?_)
          · refine ifB_dec (fun h6 => ?_) (fun h6 => ?_)
            · refine ifB_dec (fun h7 => ?_) (fun h7 => ?_)
              · have hL : l.args.length = 2 := by simp at h7; omega
                have hnode : lvNode n l.kind l.n l.args.length = true := by simp [lvNode, h4, h6, hL]
                refine ⟨Nat, fun k => ⟨[(1, .g (.i n)), (2, .lp 2 0), (4, .g (.b false)), (5, .g (.i 2)), (6, .g (.i k))], [(2, (lvX l).cells)], H⟩,
                  fun k => k ≤ l.args.length ∧ (l.args.take k).all (lvFit n) = true, fun k => l.args.length - k, ⟨0, ⟨Nat.zero_le _, rfl⟩, ?_⟩, ?_⟩
                · exact ⟨⟨Le.refl _, ⟨rfl, rfl⟩, Le.refl _, Le.refl _, Le.refl _, trivial⟩, ⟨⟨rfl, LeL.refl _⟩, trivial⟩, List.Sublist.refl _⟩
                · rintro k ⟨hk, hall⟩
                  refine ifB_dec (fun h8 => ?_) (fun h8 => ?_)
                  · have hlt : k < l.args.length := by omega
                    refine ⟨k, rfl, _, lvAt hlt, ?_⟩
                    have hmem := Lv.nodesL_mem (List.getElem_mem hlt)
                    refine ⟨_, LeL.refl _, ih _ (by omega) _ _ ?_⟩
                    intro hz1 hz2; clear hz1 hz2
                    cases hg : lvFit n l.args[k] with
                    | true =>
                      refine ⟨in64_of (by first | omega | (dsimp only; omega)) (by first | omega | (dsimp only; omega)), ?_⟩
                      exact ⟨k + 1, ⟨by omega, all_take hlt hall hg⟩, by dsimp only; omega, ⟨⟨Le.refl _, ⟨rfl, rfl⟩, Le.refl _, Le.refl _, Le.refl _, trivial⟩, ⟨⟨rfl, LeL.refl _⟩, trivial⟩, List.Sublist.refl _⟩⟩
                    | false => exact fin _ (by rw [lvFit_parts, all_no hlt hg]; simp)
                  · have hk' : k = l.args.length := by omega
                    exact fin _ (by rw [lvFit_parts, hnode]; rw [hk', List.take_length] at hall; rw [hall]; rfl)
              · refine fin _ ?_
                rw [lvFit_parts]; simp at h7; simp [lvNode, h4, h6]; intro h; omega
            · refine fin _ ?_
              rw [lvFit_parts]; simp [lvNode, h4, h6]
          · refine ifB_dec (fun h5 => ?_) (fun h5 => ?_)
            · refine ifB_dec (fun h6 => ?_) (fun h6 => ?_)
              · refine ifB_dec (fun h7 => ?_) (fun h7 => ?_)
                · have hL : l.args.length = 2 := by simp at h7; omega
                  have hnode : lvNode n l.kind l.n l.args.length = true := by simp [lvNode, h5, h6, hL]
                  refine ⟨Nat, fun k => ⟨[(1, .g (.i n)), (2, .lp 2 0), (4, .g (.b false)), (5, .g (.i 2)), (6, .g (.i k))], [(2, (lvX l).cells)], H⟩,
                    fun k => k ≤ l.args.length ∧ (l.args.take k).all (lvFit n) = true, fun k => l.args.length - k, ⟨0, ⟨Nat.zero_le _, rfl⟩, ?_⟩, ?_⟩
                  · exact ⟨⟨Le.refl _, ⟨rfl, rfl⟩, Le.refl _, Le.refl _, Le.refl _, trivial⟩, ⟨⟨rfl, LeL.refl _⟩, trivial⟩, List.Sublist.refl _⟩
                  · rintro k ⟨hk, hall⟩
                    refine ifB_dec (fun h8 => ?_) (fun h8 => ?_)
                    · have hlt : k < l.args.length := by omega
                      refine ⟨k, rfl, _, lvAt hlt, ?_⟩
                      have hmem := Lv.nodesL_mem (List.getElem_mem hlt)
                      refine ⟨_, LeL.refl _, ih _ (by omega) _ _ ?_⟩
                      intro hz1 hz2; clear hz1 hz2
                      cases hg : lvFit n l.args[k] with
                      | true =>
                        refine ⟨in64_of (by first | omega | (dsimp only; omega)) (by first | omega | (dsimp only; omega)), ?_⟩
                        exact ⟨k + 1, ⟨by omega, all_take hlt hall hg⟩, by dsimp only; omega, ⟨⟨Le.refl _, ⟨rfl, rfl⟩, Le.refl _, Le.refl _, Le.refl _, trivial⟩, ⟨⟨rfl, LeL.refl _⟩, trivial⟩, List.Sublist.refl _⟩⟩
                      | false => exact fin _ (by rw [lvFit_parts, all_no hlt hg]; simp)
                    · have hk' : k = l.args.length := by omega
                      exact fin _ (by rw [lvFit_parts, hnode]; rw [hk', List.take_length] at hall; rw [hall]; rfl)
                · refine fin _ ?_
                  rw [lvFit_parts]; simp at h7; simp [lvNode, h5, h6]; intro h; omega
              · refine fin _ ?_
                rw [lvFit_parts]; simp [lvNode, h5, h6]
            · refine fin _ ?_
              rw [lvFit_parts]; simp [lvNode, h1, h2, h3, h4, h5]

set_option maxRecDepth 100000 in
theorem ref03Right_con (n : Int) (l : Lv) : Ans Tryz.prog 90 [lvX l, .i n] (.b (lvRight n l)) := by
  intro H Q hq
  refine con_of_awp (esc := fun _ => false) tab_ok mixed Tryz.func90 rfl (ent Tryz.func90 (by kernel_rfl) rfl) (by kernel_rfl) ?_
  intro hw hn
  have fin : ∀ q : Bool, q = lvRight n l → ∃ r H', Le (.b q) r ∧ List.Sublist H' H ∧ Q r H' := fun q h => ⟨_, H, ret_b h, List.Sublist.refl _, hq⟩
  refine ifB_dec (fun h1 => ?_) (fun h1 => ?_)
  · refine ifB_dec (fun h2 => ?_) (fun h2 => ?_)
    · refine ⟨_, LeL.refl _, LevelNodes_con 64 (by decide) _ _ (Nat.le_refl _) _ _ ?_⟩
      intro hz1 hz2; clear hz1 hz2
      refine ifB_dec (fun h3 => ?_) (fun h3 => ?_)
      · refine ⟨_, LeL.refl _, ref03right_con n _ _ (Nat.le_refl _) _ _ ?_⟩
        intro hz1 hz2; clear hz1 hz2
        exact fin _ (by unfold lvRight; have : l.nodes ≤ 64 := (by omega); simp [h1, h2, this])
      · exact fin _ (by unfold lvRight; have : ¬ l.nodes ≤ 64 := (by omega); simp [this])
    · exact fin _ (by unfold lvRight; simp [h2])
  · exact fin _ (by unfold lvRight; simp [h1])
end Go.Proofs.YtahdkhklngjmoaaGreatDoor

/-
  SameTerm, Nodes, SameTexts, SameBytes. No condition.
-/
namespace Go.Proofs.YtahdkhklngjmoaaGreatDoor
open Go.RowKit

theorem lvEqL_at {xs ys : List Lv} {k : Nat} (h : k < xs.length) (h' : k < ys.length) (hg : lvEq xs[k] ys[k] = false) : lvEqL xs ys = false := by
  cases hh : lvEqL xs ys with
  | false => rfl
  | true =>
    have he := (lvEqL_iff _ _).1 hh
    have h6 : xs[k] = ys[k] := by simp only [he]
    rw [(lvEq_iff _ _).2 h6] at hg; cases hg
theorem tmEqL_at {xs ys : List Tm} {k : Nat} (h : k < xs.length) (h' : k < ys.length) (hg : tmEq xs[k] ys[k] = false) : tmEqL xs ys = false := by
  cases hh : tmEqL xs ys with
  | false => rfl
  | true =>
    have he := (tmEqL_iff _ _).1 hh
    have h6 : xs[k] = ys[k] := by simp only [he]
    rw [(tmEq_iff _ _).2 h6] at hg; cases hg
theorem lvEqL_len {xs ys : List Lv} (h : ¬ xs.length = ys.length) : lvEqL xs ys = false := by
  cases hh : lvEqL xs ys with
  | false => rfl
  | true => exact absurd (congrArg List.length ((lvEqL_iff _ _).1 hh)) h
theorem tmEqL_len {xs ys : List Tm} (h : ¬ xs.length = ys.length) : tmEqL xs ys = false := by
  cases hh : tmEqL xs ys with
  | false => rfl
  | true => exact absurd (congrArg List.length ((tmEqL_iff _ _).1 hh)) h

set_option maxRecDepth 100000 in
theorem SameTerm_con : ∀ (N : Nat) (a b : Tm), a.nodes ≤ N → Ans Tryz.prog 14 [tmX a, tmX b] (.b (tmEq a b)) := by
  intro N
  induction N with
  | zero => intro a b h; have := a.nodes_pos; omega
  | succ N ih =>
    intro a b hN H Q hq
    refine con_of_awp (esc := fun _ => false) tab_ok mixed Tryz.func14 rfl (ent Tryz.func14 (by kernel_rfl) rfl) (by kernel_rfl) ?_
    intro hw hn
    have hlena := (hw (tmX a) (by simp)).targs
    have hlenl := (hw (tmX a) (by simp)).tlevels
    have hnd := a.nodes_eq
    have fin : ∀ q : Bool, q = tmEq a b → ∃ r H', Le (.b q) r ∧ List.Sublist H' H ∧ Q r H' := fun q h => ⟨_, H, ret_b h, List.Sublist.refl _, hq⟩
    refine ifB_dec (fun h1 => ?_) (fun h1 => ?_)
    · refine ifB_dec (fun h2 => ?_) (fun h2 => ?_)
      · refine ifB_dec (fun h3 => ?_) (fun h3 => ?_)
        · refine ifB_dec (fun h4 => ?_) (fun h4 => ?_)
          · refine ifB_dec (fun h5 => ?_) (fun h5 => ?_)
            · simp only [List.length_map] at h4 h5
              refine ⟨Nat, fun k => ⟨[(2, .lp 2 0), (3, .lp 3 0), (4, .g (.b false)), (5, .g (.i k))], [(3, (tmX b).cells), (2, (tmX a).cells)], H⟩, fun k => k ≤ a.levels.length ∧ a.levels.take k = b.levels.take k, fun k => a.levels.length - k,
                ⟨0, ⟨Nat.zero_le _, rfl⟩, ?_⟩, ?_⟩
              · (constructor <;> repeat' (first | exact trivial | exact ⟨rfl, rfl⟩ | exact ⟨rfl, LeL.refl _⟩ | exact Le.refl _ | exact List.Sublist.refl _ | (show Le (AV.i _) (AV.i _); rw [List.length_map]; exact Le.refl _) | refine And.intro ?_ ?_))
              · rintro k ⟨hk, hpre⟩
                refine ifB_dec (fun h => ?_) (fun h => ?_)
                · have hlt : k < a.levels.length := by simpa using h
                  have hlt' : k < b.levels.length := by omega
                  refine ⟨[0, 1, 2, 3, 4, 5, 6, 7, 8, 9, 10, 11], [], by kernel_rfl, by simp, ?_⟩
                  refine ⟨k, rfl, _, lvAt hlt, ?_⟩
                  refine ⟨k, rfl, _, lvAt hlt', ?_⟩
                  refine ⟨_, LeL.refl _, ?_⟩
                  refine SameLevel_con _ _ _ (Nat.le_refl _) _ _ ?_
                  intro hz1 hz2; clear hz1 hz2
                  cases hg : lvEq a.levels[k] b.levels[k] with
                  | true =>
                    have he := (lvEq_iff _ _).1 hg
                    refine ⟨in64_of (by first | omega | (dsimp only; omega)) (by first | omega | (dsimp only; omega)), ?_⟩
                    refine ⟨k + 1, ⟨by omega, take_next hlt hlt' hpre he⟩, by dsimp only; omega, ?_⟩
                    (constructor <;> repeat' (first | exact trivial | exact ⟨rfl, rfl⟩ | exact ⟨rfl, LeL.refl _⟩ | exact Le.refl _ | exact List.Sublist.refl _ | (show Le (AV.i _) (AV.i _); rw [List.length_map]; exact Le.refl _) | refine And.intro ?_ ?_))
                  | false => exact fin _ (by rw [tmEq_parts, lvEqL_at hlt hlt' hg]; simp)
                · have hk' : k = a.levels.length := by
                    have : ¬ k < a.levels.length := by simpa using h
                    omega
                  have hlv : a.levels = b.levels := by rw [hk', List.take_length, show a.levels.length = b.levels.length by omega, List.take_length] at hpre; exact hpre
                  refine ⟨Nat, fun k => ⟨[(2, .lp 2 0), (3, .lp 3 0), (4, .g (.b false)), (6, .g (.i k))], [(3, (tmX b).cells), (2, (tmX a).cells)], H⟩, fun k => k ≤ a.args.length ∧ a.args.take k = b.args.take k, fun k => a.args.length - k,
                    ⟨0, ⟨Nat.zero_le _, rfl⟩, ?_⟩, ?_⟩
                  · (constructor <;> repeat' (first | exact trivial | exact ⟨rfl, rfl⟩ | exact ⟨rfl, LeL.refl _⟩ | exact Le.refl _ | exact List.Sublist.refl _ | (show Le (AV.i _) (AV.i _); rw [List.length_map]; exact Le.refl _) | refine And.intro ?_ ?_))
                  · rintro j ⟨hj, hpre'⟩
                    refine ifB_dec (fun h' => ?_) (fun h' => ?_)
                    · have hlt : j < a.args.length := by simpa using h'
                      have hlt' : j < b.args.length := by omega
                      refine ⟨[0, 1, 2, 3, 4, 5, 6, 7, 8, 9, 10, 11], [], by kernel_rfl, by simp, ?_⟩
                      refine ⟨j, rfl, _, tmAt' hlt, ?_⟩
                      refine ⟨j, rfl, _, tmAt' hlt', ?_⟩
                      refine ⟨_, LeL.refl _, ?_⟩
                      have hmem := Tm.nodesL_mem (List.getElem_mem hlt)
                      refine ih _ _ (by omega) _ _ ?_
                      intro hz1 hz2; clear hz1 hz2
                      cases hg : tmEq a.args[j] b.args[j] with
                      | true =>
                        have he := (tmEq_iff _ _).1 hg
                        refine ⟨in64_of (by first | omega | (dsimp only; omega)) (by first | omega | (dsimp only; omega)), ?_⟩
                        refine ⟨j + 1, ⟨by omega, take_next hlt hlt' hpre' he⟩, by dsimp only; omega, ?_⟩
                        (constructor <;> repeat' (first | exact trivial | exact ⟨rfl, rfl⟩ | exact ⟨rfl, LeL.refl _⟩ | exact Le.refl _ | exact List.Sublist.refl _ | (show Le (AV.i _) (AV.i _); rw [List.length_map]; exact Le.refl _) | refine And.intro ?_ ?_))
                      | false => exact fin _ (by rw [tmEq_parts, tmEqL_at hlt hlt' hg]; simp)
                    · have hj' : j = a.args.length := by
                        have : ¬ j < a.args.length := by simpa using h'
                        omega
                      refine fin _ ?_
                      have ha : a.args = b.args := by rw [hj', List.take_length, show a.args.length = b.args.length by omega, List.take_length] at hpre'; exact hpre'
                      rw [tmEq_parts, (lvEqL_iff _ _).2 hlv, (tmEqL_iff _ _).2 ha]
                      simp [h1, h2, h3]
            · exact fin _ (by rw [tmEq_parts, tmEqL_len (by simp only [List.length_map] at h5; omega)]; simp)
          · exact fin _ (by rw [tmEq_parts, lvEqL_len (by simp only [List.length_map] at h4; omega)]; simp)
        · exact fin _ (by rw [tmEq_parts]; simp [h3])
      · exact fin _ (by rw [tmEq_parts]; simp [h2])
    · exact fin _ (by rw [tmEq_parts]; simp [h1])
end Go.Proofs.YtahdkhklngjmoaaGreatDoor

/-
  Nodes of a term, SameTexts, SameBytes, Lengths. No condition.
-/
namespace Go.Proofs.YtahdkhklngjmoaaGreatDoor
open Go.RowKit

mutual
/-- what Nodes counts -/
def Tm.big : Tm → Nat
  | .mk _ _ nm ls xs => 1 + nm.length / 16 + Lv.nodesL ls + Tm.bigL xs
def Tm.bigL : List Tm → Nat
  | [] => 0
  | t :: ts => t.big + Tm.bigL ts
end
theorem Tm.big_eq (t : Tm) : t.big = 1 + t.name.length / 16 + Lv.nodesL t.levels + Tm.bigL t.args := by cases t; rfl
theorem bigL_snoc {ls : List Tm} {k : Nat} (h : k < ls.length) : Tm.bigL (ls.take (k + 1)) = Tm.bigL (ls.take k) + ls[k].big := by
  induction ls generalizing k with
  | nil => simp at h
  | cons a ls ih =>
    cases k with
    | zero => simp [Tm.bigL]
    | succ k => simp [Tm.bigL, ih (by simpa using h)]; omega
theorem bigL_le : ∀ (ls : List Tm) (k : Nat), Tm.bigL (ls.take k) ≤ Tm.bigL ls := by
  intro ls
  induction ls with
  | nil => intro k; simp [Tm.bigL]
  | cons a ls ih => intro k; cases k with
    | zero => simp [Tm.bigL]
    | succ k => simp [Tm.bigL, ih k]
theorem nodesL_le (ls : List Lv) (k : Nat) : Lv.nodesL (ls.take k) ≤ Lv.nodesL ls := LevelNodes_con.nodesL_le ls k
/-- a count so far, or too many -/
def Cnt (most sum : Nat) (m : Int) : Prop := 0 ≤ m ∧ min m (most + 1) = min (sum : Int) (most + 1) ∧ m ≤ 2 * most + 2 + 140737488355328

set_option maxRecDepth 100000 in
theorem tmBig_con (most : Nat) (hm : most ≤ 1099511627776) : ∀ (N : Nat) (l : Tm), l.nodes ≤ N → Ans Tryz.prog 42 [tmX l, .i most] (.i (min l.big (most + 1) : Nat)) := by
  intro N
  induction N with
  | zero => intro l h; have := l.nodes_pos; omega
  | succ N ih =>
    intro l hN H Q hq
    refine con_of_awp (esc := fun _ => false) tab_ok mixed Tryz.func42 rfl (ent Tryz.func42 (by kernel_rfl) rfl) (by kernel_rfl) ?_
    intro hw hn
    have hlena := (hw (tmX l) (by simp)).targs
    have hlenl := (hw (tmX l) (by simp)).tlevels
    have hname := (hw (tmX l) (by simp)).tname
    have hnd := l.nodes_eq
    have hbig := l.big_eq
    have e16 : Int.tdiv (l.name.length : Int) 16 = ((l.name.length / 16 : Nat) : Int) := rfl
    refine ⟨by decide, in64_of (by omega) (by omega), in64_of (by omega) (by omega), ?_⟩
    refine ⟨Nat × Int, fun p => ⟨[(1, .g (.i most)), (2, .lp 2 0), (4, .g (.i 0)), (5, .g (.i p.2)), (6, .g (.i p.1))], [(2, (tmX l).cells)], H⟩,
      fun p => p.1 ≤ l.levels.length ∧ Cnt most (1 + l.name.length / 16 + Lv.nodesL (l.levels.take p.1)) p.2, fun p => l.levels.length - p.1, ⟨(0, 1 + Int.tdiv (l.name.length : Int) 16), ⟨Nat.zero_le _, by rw [e16]; unfold Cnt; simp [Lv.nodesL]; omega⟩, ?_⟩, ?_⟩
    · (constructor <;> repeat' (first | exact trivial | exact ⟨rfl, rfl⟩ | exact ⟨rfl, LeL.refl _⟩ | exact Le.refl _ | exact List.Sublist.refl _ | (show Le (AV.i _) (AV.i _); rw [List.length_map]; exact Le.refl _) | refine And.intro ?_ ?_))
    · rintro ⟨k, m⟩ ⟨hk, hrel⟩
      simp only at hk hrel
      have hr := hrel
      unfold Cnt at hr
      have hle : Lv.nodesL (l.levels.take k) ≤ Lv.nodesL l.levels := nodesL_le _ _
      refine ifB_dec (fun h1 => ?_) (fun h1 => ?_)
      · have hlt : k < l.levels.length := by simpa using h1
        refine ifB_dec (fun h2 => ?_) (fun h2 => ?_)
        · refine ⟨k, rfl, _, lvAt hlt, ?_⟩
          refine ⟨_, LeL.refl _, LevelNodes_con most hm _ _ (Nat.le_refl _) _ _ ?_⟩
          intro hz1 hz2; clear hz1 hz2
          refine ⟨in64_of (by first | omega | (dsimp only; omega)) (by first | omega | (dsimp only; omega)), ?_⟩
          refine ⟨in64_of (by first | omega | (dsimp only; omega)) (by first | omega | (dsimp only; omega)), ?_⟩
          have hs := nodesL_snoc hlt
          refine ⟨(k + 1, m + (min l.levels[k].nodes (most + 1) : Nat)), ⟨by simp only; omega, by unfold Cnt at *; simp only; omega⟩, by dsimp only; omega, ?_⟩
          (constructor <;> repeat' (first | exact trivial | exact ⟨rfl, rfl⟩ | exact ⟨rfl, LeL.refl _⟩ | exact Le.refl _ | exact List.Sublist.refl _ | (show Le (AV.i _) (AV.i _); rw [List.length_map]; exact Le.refl _) | refine And.intro ?_ ?_))
        · refine ⟨Nat × Int, fun p => ⟨[(1, .g (.i most)), (2, .lp 2 0), (4, .g (.i 0)), (5, .g (.i p.2)), (7, .g (.i p.1))], [(2, (tmX l).cells)], H⟩,
            fun p => p.1 ≤ l.args.length ∧ Cnt most (1 + l.name.length / 16 + Lv.nodesL l.levels + Tm.bigL (l.args.take p.1)) p.2, fun p => l.args.length - p.1, ⟨(0, m), ⟨Nat.zero_le _, by unfold Cnt; simp [Tm.bigL]; omega⟩, ?_⟩, ?_⟩
          · (constructor <;> repeat' (first | exact trivial | exact ⟨rfl, rfl⟩ | exact ⟨rfl, LeL.refl _⟩ | exact Le.refl _ | exact List.Sublist.refl _ | (show Le (AV.i _) (AV.i _); rw [List.length_map]; exact Le.refl _) | refine And.intro ?_ ?_))
          · rintro ⟨j, m'⟩ ⟨hj, hrel'⟩
            simp only at hj hrel'
            have hr' := hrel'
            unfold Cnt at hr'
            have hle' : Tm.bigL (l.args.take j) ≤ Tm.bigL l.args := bigL_le _ _
            refine ifB_dec (fun h3 => ?_) (fun h3 => ?_)
            · have hlt' : j < l.args.length := by simpa using h3
              refine ifB_dec (fun h4 => ?_) (fun h4 => ?_)
              · refine ⟨j, rfl, _, tmAt' hlt', ?_⟩
                have hmem := Tm.nodesL_mem (List.getElem_mem hlt')
                refine ⟨_, LeL.refl _, ih _ (by omega) _ _ ?_⟩
                intro hz1 hz2; clear hz1 hz2
                refine ⟨in64_of (by first | omega | (dsimp only; omega)) (by first | omega | (dsimp only; omega)), ?_⟩
                refine ⟨in64_of (by first | omega | (dsimp only; omega)) (by first | omega | (dsimp only; omega)), ?_⟩
                have hs' := bigL_snoc hlt'
                refine ⟨(j + 1, m' + (min l.args[j].big (most + 1) : Nat)), ⟨by simp only; omega, by unfold Cnt at *; simp only; omega⟩, by dsimp only; omega, ?_⟩
                (constructor <;> repeat' (first | exact trivial | exact ⟨rfl, rfl⟩ | exact ⟨rfl, LeL.refl _⟩ | exact Le.refl _ | exact List.Sublist.refl _ | (show Le (AV.i _) (AV.i _); rw [List.length_map]; exact Le.refl _) | refine And.intro ?_ ?_))
              · refine ⟨in64_of (by first | omega | (dsimp only; omega)) (by first | omega | (dsimp only; omega)), ?_⟩
                exact ⟨_, H, ret_i (by omega), List.Sublist.refl _, hq⟩
            · have hj' : j = l.args.length := by
                have : ¬ j < l.args.length := by simpa using h3
                omega
              refine ⟨in64_of (by first | omega | (dsimp only; omega)) (by first | omega | (dsimp only; omega)), ?_⟩
              refine ⟨_, H, ret_i ?_, List.Sublist.refl _, hq⟩
              rw [hj', List.take_length] at hr'
              omega
      · have hk' : k = l.levels.length := by
          have : ¬ k < l.levels.length := by simpa using h1
          omega
        rw [hk', List.take_length] at hr
        refine ⟨Nat × Int, fun p => ⟨[(1, .g (.i most)), (2, .lp 2 0), (4, .g (.i 0)), (5, .g (.i p.2)), (7, .g (.i p.1))], [(2, (tmX l).cells)], H⟩,
          fun p => p.1 ≤ l.args.length ∧ Cnt most (1 + l.name.length / 16 + Lv.nodesL l.levels + Tm.bigL (l.args.take p.1)) p.2, fun p => l.args.length - p.1, ⟨(0, m), ⟨Nat.zero_le _, by unfold Cnt; simp [Tm.bigL]; omega⟩, ?_⟩, ?_⟩
        · (constructor <;> repeat' (first | exact trivial | exact ⟨rfl, rfl⟩ | exact ⟨rfl, LeL.refl _⟩ | exact Le.refl _ | exact List.Sublist.refl _ | (show Le (AV.i _) (AV.i _); rw [List.length_map]; exact Le.refl _) | refine And.intro ?_ ?_))
        · rintro ⟨j, m'⟩ ⟨hj, hrel'⟩
          simp only at hj hrel'
          have hr' := hrel'
          unfold Cnt at hr'
          have hle' : Tm.bigL (l.args.take j) ≤ Tm.bigL l.args := bigL_le _ _
          refine ifB_dec (fun h3 => ?_) (fun h3 => ?_)
          · have hlt' : j < l.args.length := by simpa using h3
            refine ifB_dec (fun h4 => ?_) (fun h4 => ?_)
            · refine ⟨j, rfl, _, tmAt' hlt', ?_⟩
              have hmem := Tm.nodesL_mem (List.getElem_mem hlt')
              refine ⟨_, LeL.refl _, ih _ (by omega) _ _ ?_⟩
              intro hz1 hz2; clear hz1 hz2
              refine ⟨in64_of (by first | omega | (dsimp only; omega)) (by first | omega | (dsimp only; omega)), ?_⟩
              refine ⟨in64_of (by first | omega | (dsimp only; omega)) (by first | omega | (dsimp only; omega)), ?_⟩
              have hs' := bigL_snoc hlt'
              refine ⟨(j + 1, m' + (min l.args[j].big (most + 1) : Nat)), ⟨by simp only; omega, by unfold Cnt at *; simp only; omega⟩, by dsimp only; omega, ?_⟩
              (constructor <;> repeat' (first | exact trivial | exact ⟨rfl, rfl⟩ | exact ⟨rfl, LeL.refl _⟩ | exact Le.refl _ | exact List.Sublist.refl _ | (show Le (AV.i _) (AV.i _); rw [List.length_map]; exact Le.refl _) | refine And.intro ?_ ?_))
            · refine ⟨in64_of (by first | omega | (dsimp only; omega)) (by first | omega | (dsimp only; omega)), ?_⟩
              exact ⟨_, H, ret_i (by omega), List.Sublist.refl _, hq⟩
          · have hj' : j = l.args.length := by
              have : ¬ j < l.args.length := by simpa using h3
              omega
            refine ⟨in64_of (by first | omega | (dsimp only; omega)) (by first | omega | (dsimp only; omega)), ?_⟩
            refine ⟨_, H, ret_i ?_, List.Sublist.refl _, hq⟩
            rw [hj', List.take_length] at hr'
            omega

/-- texts, bytes -/
def stsX (ss : List (List UInt8)) : AV := .sl .no 1 (ss.map .str)
theorem stAt {ss : List (List UInt8)} {k : Nat} (h : k < ss.length) : (ss.map AV.str)[k]? = some (.str ss[k]) := by simp [h]
theorem Wf.sts {ss : List (List UInt8)} (h : Wf (stsX ss)) : ss.length ≤ 9223372036854775807 := by
  have := Wf.len (h : Wf (.sl .no 1 (ss.map .str)))
  simpa using this
theorem Wf.bytes {o : Own} {ss : List UInt8} (h : Wf (.sl o 1 (ss.map byteV))) : ss.length ≤ 9223372036854775807 := by
  have := Wf.len h
  simpa using this
theorem u8_eq {a b : UInt8} (h : (a.toNat : Int) = b.toNat) : a = b := by
  have : a.toNat = b.toNat := by omega
  exact UInt8.toNat_inj.1 this


end Go.Proofs.YtahdkhklngjmoaaGreatDoor

