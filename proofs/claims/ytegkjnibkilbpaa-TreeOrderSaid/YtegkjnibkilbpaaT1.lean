import Derived.Test.YtegkjnibkilbpaaDraw
namespace Go.Proofs.Ytegkjnibkilbpaa
open Go.RowKit

/-- a tree with its parts' blocks -/
inductive T where
  | nil : T
  | node (p : Nat) (x : List UInt8) (n : Int) (l r : T) : T

namespace T
def dep : T → Nat
  | nil => 0
  | node _ _ _ l r => max l.dep r.dep + 1
def cnt : T → Nat
  | nil => 0
  | node _ _ _ l r => l.cnt + r.cnt + 1
theorem dep_le : ∀ t : T, t.dep ≤ t.cnt
  | nil => Nat.le_refl _
  | node _ _ _ l r => by have := l.dep_le; have := r.dep_le; simp only [dep, cnt]; omega
end T

def adr : T → Option Addr
  | .nil => none
  | .node p _ _ _ _ => some ⟨p, 0, none⟩
@[go_sem] abbrev ptr (t : T) : Value := .pointer (adr t)

/-- a block of cells, nothing of it frozen -/
def blk (w : World) (p : Nat) : Prop := ∃ cs ty, w.heap[p]? = some (.cells cs ty (0, 0))

/-- it lies in the memory, below B -/
def okT (B : Nat) (w : World) : T → Prop
  | .nil => True
  | .node p x n l r => p < B ∧ w.cell? ⟨p, 0, none⟩ = some (.string ⟨x.toArray⟩) ∧ w.cell? ⟨p, 1, none⟩ = some (.int .i64 n) ∧ w.cell? ⟨p, 2, none⟩ = some (ptr l) ∧ w.cell? ⟨p, 3, none⟩ = some (ptr r) ∧
      w.cell? ⟨p, 4, none⟩ = some (.int .i64 ((T.node p x n l r).dep : Nat)) ∧ w.cell? ⟨p, 5, none⟩ = some (.int .i64 ((T.node p x n l r).cnt : Nat)) ∧ okT B w l ∧ okT B w r ∧ blk w p

theorem okT.below {B : Nat} {w w' : World} (hb : Below B w w') : ∀ {t : T}, okT B w t → okT B w' t
  | .nil, _ => trivial
  | .node p _ _ _ _, ⟨h0, h1, h2, h3, h4, h5, h6, h7, h8, h9⟩ =>
    ⟨h0, (hb.cell (p := ⟨p, 0, none⟩) h0).trans h1, (hb.cell (p := ⟨p, 1, none⟩) h0).trans h2, (hb.cell (p := ⟨p, 2, none⟩) h0).trans h3, (hb.cell (p := ⟨p, 3, none⟩) h0).trans h4,
      (hb.cell (p := ⟨p, 4, none⟩) h0).trans h5, (hb.cell (p := ⟨p, 5, none⟩) h0).trans h6, okT.below hb h7, okT.below hb h8, by obtain ⟨cs, ty, h⟩ := h9; exact ⟨cs, ty, (hb.block p h0).trans h⟩⟩

theorem okT.mono {B B' : Nat} {w : World} (hb : B ≤ B') : ∀ {t : T}, okT B w t → okT B' w t
  | .nil, _ => trivial
  | .node _ _ _ _ _, ⟨h0, h1, h2, h3, h4, h5, h6, h7, h8, h9⟩ => ⟨Nat.lt_of_lt_of_le h0 hb, h1, h2, h3, h4, h5, h6, okT.mono hb h7, okT.mono hb h8, h9⟩

theorem okT.step {w w' : World} {t : T} (h : okT w.heap.size w t) (hb : Below w.heap.size w w') : okT w'.heap.size w' t := (okT.below hb h).mono hb.size

theorem deep_any (w : World) (B : Nat) (t : T) (h : okT B w t) : Calls Try.prog 24 #[ptr t] w fun e w' => e = .returned (.int .i64 (t.dep : Nat)) ∧ w = w' := by
  cases t with
  | nil =>
    rw [ptr, adr]
    go_enter Try.func24, Try.ntmps24
    go_wp2
    go_ret
    exact ⟨rfl, rfl⟩
  | node p x n l r =>
    obtain ⟨h0, h1, h2, h3, h4, h5, h6, h7, h8, _⟩ := h
    generalize (T.node p x n l r).dep = d at *
    rw [ptr, adr]
    go_enter Try.func24, Try.ntmps24
    go_wp2
    go_ret
    exact ⟨rfl, rfl⟩

theorem count_any (w : World) (B : Nat) (t : T) (h : okT B w t) : Calls Try.prog 23 #[ptr t] w fun e w' => e = .returned (.int .i64 (t.cnt : Nat)) ∧ w = w' := by
  cases t with
  | nil =>
    rw [ptr, adr]
    go_enter Try.func23, Try.ntmps23
    go_wp2
    go_ret
    exact ⟨rfl, rfl⟩
  | node p x n l r =>
    obtain ⟨h0, h1, h2, h3, h4, h5, h6, h7, h8, _⟩ := h
    generalize (T.node p x n l r).cnt = d at *
    rw [ptr, adr]
    go_enter Try.func23, Try.ntmps23
    go_wp2
    go_ret
    exact ⟨rfl, rfl⟩

/-- what a call leaves that hands back a tree -/
def TPost (t : T) (H : Nat) (w : World) (e : Ending) (w' : World) : Prop := e = .returned (ptr t) ∧ okT w'.heap.size w' t ∧ Below w.heap.size w w' ∧ w'.heap.size = H

end Go.Proofs.Ytegkjnibkilbpaa
