/-
  Texts put together: G1, G2, G3, G4, G5, G6, G7, G8, G9, G10, G11, G12. No condition.
-/
import Derived.Test.YtahdkhklngjmoaaGreatDoorM7
/-
  What is taken from bytes: numbers, names, levels, terms, declarations, in plain lists. No condition.
-/
namespace Go.Proofs.YtahdkhklngjmoaaGreatDoor
open Go.RowKit

/-- what is left to take; was something lost; how many nodes there may be still -/
structure Tk where
  rest : List UInt8
  lost : Bool
  left : Int
def Tk.lose (s : Tk) : Tk := ⟨s.rest, true, s.left⟩
def tkNum (most : Nat) (s : Tk) : Nat × Tk :=
  if (dec s.rest).2 ≠ 0 ∧ (dec s.rest).1 ≤ most then ((dec s.rest).1, ⟨s.rest.drop (dec s.rest).2, s.lost, s.left⟩) else (0, s.lose)
/-- so many bytes -/
def tkBy (n : Nat) (s : Tk) : List UInt8 × Tk := if s.lost = true ∨ s.rest.length < n then ([], s.lose) else (s.rest.take n, ⟨s.rest.drop n, s.lost, s.left⟩)
def tkText (s : Tk) : List UInt8 × Tk := tkBy (tkNum 40 s).1 (tkNum 40 s).2
def lv0 : Lv := .mk 0 0 []
/-! numbers that are taken -/
theorem tkNum_left (most : Nat) (s : Tk) : (tkNum most s).2.left = s.left := by unfold tkNum Tk.lose; split <;> rfl
theorem tkNum_lost (most : Nat) (s : Tk) : s.lost = true → (tkNum most s).2.lost = true := by unfold tkNum Tk.lose; split <;> intro h <;> simp [h]
theorem tkBy_left (n : Nat) (s : Tk) : (tkBy n s).2.left = s.left := by unfold tkBy Tk.lose; split <;> rfl
theorem tkBy_lost (n : Nat) (s : Tk) : s.lost = true → (tkBy n s).2.lost = true := by unfold tkBy Tk.lose; split <;> intro h <;> simp [h]
theorem tkText_left (s : Tk) : (tkText s).2.left = s.left := by unfold tkText; rw [tkBy_left, tkNum_left]
theorem tkText_lost (s : Tk) (h : s.lost = true) : (tkText s).2.lost = true := by unfold tkText; exact tkBy_lost _ _ (tkNum_lost _ _ h)
/-! how far the counter of nodes can go -/
/-- what may still be spent -/
def Tk.pot (s : Tk) : Int := if s.lost = true then s.left else s.left - 7 * max s.left 0
theorem Tk.pot_le (s : Tk) : s.pot ≤ s.left := by unfold Tk.pot; split <;> omega
/-- a step that leaves the counter as it is -/
theorem pot_same {s s' : Tk} (h : s'.left = s.left) (k : s.lost = true → s'.lost = true) : s.pot ≤ s'.pot := by
  unfold Tk.pot
  rw [h]
  cases hs : s.lost with
  | true => simp [k hs]
  | false =>
    cases hs' : s'.lost with
    | true => simp; omega
    | false => simp
/-- where the counter stands well -/
structure Tk.ok (s : Tk) : Prop where
  up : s.left ≤ 2000
  lo : -20000 ≤ s.pot
theorem Tk.ok.i64 {s : Tk} (h : s.ok) : in64 (s.left - 1) := by
  have := h.up; have := h.lo; have := s.pot_le
  exact in64_of (by omega) (by omega)
theorem Tk.ok.same {s s' : Tk} (h : s.ok) (hl : s'.left = s.left) (k : s.lost = true → s'.lost = true) : s'.ok := ⟨by rw [hl]; exact h.up, Int.le_trans h.lo (pot_same hl k)⟩
theorem Tk.ok.num {s : Tk} (h : s.ok) (most : Nat) : (tkNum most s).2.ok := h.same (tkNum_left _ _) (tkNum_lost _ _)
theorem Tk.ok.text {s : Tk} (h : s.ok) : (tkText s).2.ok := h.same (tkText_left _) (tkText_lost _)
end Go.Proofs.YtahdkhklngjmoaaGreatDoor

/-
  What is written is taken so: levels, terms, declarations, in plain lists. No condition.
-/
namespace Go.Proofs.YtahdkhklngjmoaaGreatDoor
open Go.RowKit

theorem lvNodes_sum : ∀ ls : List Lv, Lv.nodesL ls = (ls.map Lv.nodes).sum
  | [] => rfl
  | l :: ls => by rw [Lv.nodesL, lvNodes_sum ls]; simp
theorem tmNodes_sum : ∀ ls : List Tm, Tm.nodesL ls = (ls.map Tm.nodes).sum
  | [] => rfl
  | l :: ls => by rw [Tm.nodesL, tmNodes_sum ls]; simp
end Go.Proofs.YtahdkhklngjmoaaGreatDoor

/-
  An application's bytes, in plain lists; what the laws' fixed texts come to. No condition.
-/
namespace Go.Proofs.YtahdkhklngjmoaaGreatDoor
open Go.RowKit

/-! the texts that the document fixes -/
/-! declarations as bytes -/
mutual
theorem near_fit : ∀ (t : Tm) (n v : Int), v + t.nodes ≤ 1099511627776 → tmFit n t v = true → tmNear t = true
  | .mk k m nm ls xs, n, v, hv, h => by
    rw [tmFit_eq] at h
    simp only [Bool.and_eq_true, Tm.kind, Tm.n, Tm.name, Tm.levels, Tm.args] at h
    obtain ⟨⟨h1, h2⟩, h3⟩ := h
    simp only [Tm.nodes] at hv
    rw [tmNear, near_fitL xs n k 0 v (by omega) h3, Bool.and_true]
    by_cases hk : k = 1
    · rw [hk] at h1
      simp [tmNode] at h1
      have : m < 1099511627776 := by omega
      simp [hk, this]
    · simp [hk]
theorem near_fitL : ∀ (ts : List Tm) (n k : Int) (i : Nat) (v : Int), v + Tm.nodesL ts + 1 ≤ 1099511627776 → tmFitL n k ts i v = true → tmNearL ts = true
  | [], _, _, _, _, _, _ => rfl
  | t :: ts, n, k, i, v, hv, h => by
    simp only [tmFitL, Bool.and_eq_true] at h
    simp only [Tm.nodesL] at hv
    rw [tmNearL, near_fit t n _ (by split <;> omega) h.1, near_fitL ts n k (i + 1) v (by have := t.nodes_pos; omega) h.2]
    rfl
end
end Go.Proofs.YtahdkhklngjmoaaGreatDoor

/-
  wire's num, Num; bytes.Clone. No condition.
-/
namespace Go.Proofs.YtahdkhklngjmoaaGreatDoor
open Go.RowKit


end Go.Proofs.YtahdkhklngjmoaaGreatDoor

/-
  pack's taker: a struct behind a pointer: num, text, node. No condition.
-/
namespace Go.Proofs.YtahdkhklngjmoaaGreatDoor
open Go.RowKit

theorem keepP_t {m : Bool} {pins H : Heap} {A : Prop} (h : m = true) (hA : A) : keepP m pins H A := by subst h; exact hA
theorem pin1 {p : Nat × AObj} {H : Heap} (h : p ∈ H) : ∀ q ∈ [p], q ∈ H := fun q hq => by rw [List.mem_singleton.1 hq]; exact h
/-- a heap with a place left open -/
def Hole (b : Nat) (F : AObj → Heap) : Prop := ∀ x y, Heap.At b x y (F x) (F y)
theorem Hole.mem {b : Nat} {F : AObj → Heap} (h : Hole b F) (x : AObj) : (b, x) ∈ F x := (h x x).mem
theorem Hole.top (b : Nat) (H : Heap) : Hole b (fun y => (b, y) :: H) := fun _ _ => .here
theorem Hole.under {b : Nat} {F : AObj → Heap} (h : Hole b F) (p : Nat × AObj) : Hole b (fun y => p :: F y) := fun x y => .there (h x y)
end Go.Proofs.YtahdkhklngjmoaaGreatDoor

/-
  pack's taker: level. No condition.
-/
namespace Go.Proofs.YtahdkhklngjmoaaGreatDoor
open Go.RowKit

/-- a row that a loop puts together: nothing yet, or one that it may append to -/
def rowS (q : Option Cap) (w : Nat) (xs : List AV) : AV :=
  match q with
  | none => .sl .full 0 []
  | some c => .sl (.own c) w xs
theorem rowS_le {q : Option Cap} {w : Nat} {xs : List AV} (h : q = none → xs = []) : Le (rowS q w xs) (.sl .no w xs) := by
  cases q with
  | none => rw [h rfl]; exact Le.nil _ _
  | some c => exact Le.own _ _ _
theorem bufH_sub (q : Option Cap) (H : Heap) : List.Sublist H (bufH q H) := by
  cases q with
  | none => exact List.Sublist.refl _
  | some c => exact List.sublist_cons_self _ _
theorem le_lv0 : Le (.agg [.i 0, .i 0, .sl .full 0 []]) (lvX lv0) := Le.agg ⟨Le.refl _, Le.refl _, Le.nil _ _, trivial⟩
end Go.Proofs.YtahdkhklngjmoaaGreatDoor

/-
  pack's taker: term. No condition.
-/
namespace Go.Proofs.YtahdkhklngjmoaaGreatDoor
open Go.RowKit

theorem le_tm0 : Le (.agg [.i 0, .i 0, .str [], .sl .full 0 [], .sl .full 0 []]) (tmX tm0) := Le.agg ⟨Le.refl _, Le.refl _, Le.refl _, Le.nil _ _, Le.nil _ _, trivial⟩
end Go.Proofs.YtahdkhklngjmoaaGreatDoor

/-
  pack's taker: whole, decl; taking, TakeLevel, TakeTerm, TakeDecl. No condition.
-/
namespace Go.Proofs.YtahdkhklngjmoaaGreatDoor
open Go.RowKit



/-! what is left gets no longer -/
end Go.Proofs.YtahdkhklngjmoaaGreatDoor

/-
  pack's Decl and Hash. No condition.
-/
namespace Go.Proofs.YtahdkhklngjmoaaGreatDoor
open Go.RowKit

theorem Ans.as {P : Program} {f : FuncId} {args : List AV} {q q' : Bool} (h : Ans P f args (.b q)) (e : q = q') : Ans P f args (.b q') := e ▸ h

end Go.Proofs.YtahdkhklngjmoaaGreatDoor

/-
  pack's Hash; the reference's SameDecl, CopyBytes, DeclNodes; what is too great. No condition.
-/
namespace Go.Proofs.YtahdkhklngjmoaaGreatDoor
open Go.RowKit

/-- a byte more of a hash -/
def hstep (h : Int) (c : UInt8) : Int := IntKind.u64.wrap (IntKind.u64.wrap ((BitVec.ofInt IntKind.u64.bits h ^^^ BitVec.ofInt IntKind.u64.bits (IntKind.u64.wrap ((c.toNat : Nat) : Int))).toNat : Nat) * 1099511628211)
end Go.Proofs.YtahdkhklngjmoaaGreatDoor

/-
  What is too great; bytes that the document fixes (law 08's alive). No condition.
-/
namespace Go.Proofs.YtahdkhklngjmoaaGreatDoor
open Go.RowKit

set_option maxRecDepth 100000 in
theorem Great4_some (t : Tm) (H : Heap) (Q : AV → Heap → Prop) (hq : ∀ q : Bool, Q (.b q) H) : Con Tryz.prog 41 [tmX t] H Q := by
  refine con_of_awp (esc := fun _ => false) tab_ok mixed Tryz.func41 rfl (ent Tryz.func41 (by kernel_rfl) rfl) (by kernel_rfl) ?_
  intro hw hn
  refine ⟨_, LeL.refl _, tmBig_con 2500 (by decide) _ t (Nat.le_refl _) _ _ ?_⟩
  intro hz1 hz2; clear hz1 hz2
  refine ifB_dec (fun h2 => ?_) (fun h2 => ?_)
  · exact ⟨_, H, Le.refl _, List.Sublist.refl _, hq true⟩
  · exact ⟨_, H, Le.refl _, List.Sublist.refl _, hq false⟩
end Go.Proofs.YtahdkhklngjmoaaGreatDoor

/-
  Bytes that the document fixes (law 08's alive). No condition.
-/
namespace Go.Proofs.YtahdkhklngjmoaaGreatDoor
open Go.RowKit

/-- elements, each at least another one -/
def LeE : List AV → List AV → Prop
  | [], [] => True
  | x :: xs, y :: ys => LeL x.cells y.cells ∧ LeE xs ys
  | _, _ => False
theorem LeL.length : ∀ {xs ys : List AV}, LeL xs ys → xs.length = ys.length
  | [], [], _ => rfl
  | x :: xs, y :: ys, h => by simp only [LeL] at h; simp [LeL.length h.2]
  | [], y :: ys, h => by simp [LeL] at h
  | x :: xs, [], h => by simp [LeL] at h
theorem LeE.atE {M : Mem} : ∀ {xs ys : List AV} {b o : Nat}, LeE xs ys → Go.Proofs.YtahdkhklngjmoaaGreatDoor.atE M xs b o → Go.Proofs.YtahdkhklngjmoaaGreatDoor.atE M ys b o
  | [], [], _, _, _, h => h
  | x :: xs, y :: ys, b, o, h, ha => by
    obtain ⟨h1, h2⟩ := atE.cons.1 ha
    exact atE.cons.2 ⟨h.1.atL h1, LeE.atE h.2 (by rw [← h.1.length]; exact h2)⟩
theorem LeE.length : ∀ {xs ys : List AV}, LeE xs ys → xs.length = ys.length
  | [], [], _ => rfl
  | x :: xs, y :: ys, h => by simp [LeE.length h.2]
theorem LeE.wide {s : Nat} : ∀ {xs ys : List AV}, LeE xs ys → (∀ x ∈ xs, x.cells.length = s) → ∀ y ∈ ys, y.cells.length = s
  | [], [], _, _, y, hy => by cases hy
  | x :: xs, z :: ys, h, hx, y, hy => by
    rcases List.mem_cons.1 hy with rfl | hy
    · rw [← h.1.length]; exact hx x (by simp)
    · exact LeE.wide h.2 (fun a ha => hx a (List.mem_cons_of_mem _ ha)) y hy
theorem Le.slE {o : Own} {s : Nat} {xs ys : List AV} (h : LeE xs ys) : Le (.sl o s xs) (.sl .no s ys) := fun M u hu => by
  simp only [rep] at hu ⊢
  obtain ⟨a, cap, h1, h2, h3, h4, h5, h6, h7⟩ := hu
  have hl := h.length
  refine ⟨a, cap, by rw [← hl]; exact h1, by rw [← hl]; exact h2, h3, h4, ⟨fun hs => ?_, LeE.wide h h5.2⟩, trivial, fun h0 => ?_⟩
  · have := h5.1 hs
    subst this
    cases ys with
    | nil => rfl
    | cons y ys => exact h.elim
  · rw [← hl] at h0
    obtain ⟨b, off, e, ha⟩ := h7 h0
    exact ⟨b, off, e, h.atE ha⟩
section
variable {H : Heap} {Q : AV → Heap → Prop}
set_option maxRecDepth 100000 in
theorem packTerm_yes {l : Tm} (h : packOk l = true) (hq : ∀ c : Cap, c.b ∉ H.keys → Q (.tup [.sl (.own c) 1 ((tmB l).map byteV), .b true]) ((c.b, .cap c) :: H)) : Con Tryz.prog 59 [tmX l] H Q :=
  packTerm_con l H Q (fun h0 => by rw [h] at h0; cases h0) fun _ => hq
end

end Go.Proofs.YtahdkhklngjmoaaGreatDoor

