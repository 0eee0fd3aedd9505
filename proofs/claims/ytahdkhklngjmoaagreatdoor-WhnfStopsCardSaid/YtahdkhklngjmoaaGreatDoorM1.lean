/-
  Texts put together: Base, Draw, Draw2. No condition.
-/
import Derived.Test.YtahdkhklngjmoaaGreatDoorProg
import Derived.WalkKit
import Derived.ProofKit
import Derived.Lib.Hide
import Derived.Great.BuildSlice
import Derived.WalkSpells
import Derived.WalkLawsBesides
import Derived.BigQuiet
import Derived.Deep.QuietTactic
import Derived.Laws.BytesArg
import Derived.StillTail
/-
  Base laws of the walks: slices that are read, slices that are owned, append from whatever source. No condition.
-/
namespace Go.Proofs.YtahdkhklngjmoaaGreatDoor
open Go.RowKit

def rd (B : Nat) (w : World) (s : Nat) (v : Value) (n : Nat) (xs : List Value) : Prop :=
  xs.length = n * s ∧ ∃ a cap, v = .slice a n cap ∧ n ≤ cap ∧ cap ≤ maxLen ∧ (a = none → cap = 0) ∧
    (0 < n → ∃ b off, a = some ⟨b, off, none⟩ ∧ b < B ∧ ∀ j u, xs[j]? = some u → w.cell? ⟨b, off + j, none⟩ = some u)

theorem rd.mono {B B' : Nat} {w : World} {s : Nat} {v : Value} {n : Nat} {xs : List Value} (h : rd B w s v n xs) (hB : B ≤ B') : rd B' w s v n xs := by
  obtain ⟨h0, a, cap, h1, h2, h3, h4, h5⟩ := h
  refine ⟨h0, a, cap, h1, h2, h3, h4, fun hn => ?_⟩
  obtain ⟨b, off, e1, e2, e3⟩ := h5 hn
  exact ⟨b, off, e1, by omega, e3⟩

theorem rd.below {B : Nat} {w w' : World} {s : Nat} {v : Value} {n : Nat} {xs : List Value} (h : rd B w s v n xs) (hb : Below B w w') : rd B w' s v n xs := by
  obtain ⟨h0, a, cap, h1, h2, h3, h4, h5⟩ := h
  refine ⟨h0, a, cap, h1, h2, h3, h4, fun hn => ?_⟩
  obtain ⟨b, off, e1, e2, e3⟩ := h5 hn
  exact ⟨b, off, e1, e2, fun j u hj => (hb.cell (p := ⟨b, off + j, none⟩) e2).trans (e3 j u hj)⟩

theorem rd.real {B : Nat} {w : World} {s : Nat} {v : Value} {n : Nat} {xs : List Value} (h : rd B w s v n xs) (hs : 0 < s) : rd w.heap.size w s v n xs := by
  obtain ⟨h0, a, cap, h1, h2, h3, h4, h5⟩ := h
  refine ⟨h0, a, cap, h1, h2, h3, h4, fun hn => ?_⟩
  obtain ⟨b, off, e1, e2, e3⟩ := h5 hn
  have hl : 0 < xs.length := by rw [h0]; exact Nat.mul_pos hn hs
  exact ⟨b, off, e1, World.block_lt_of_cell? w _ (e3 0 xs[0] (by simp [hl])), e3⟩

theorem rd.alloc {B : Nat} {w : World} {s : Nat} {v : Value} {n : Nat} {xs : List Value} (h : rd B w s v n xs) (hs : 0 < s) (o : Obj) : rd w.heap.size (w.alloc o) s v n xs :=
  (h.real hs).below ((Below.refl _ _).alloc (Nat.le_refl _) _)

theorem rd.len {B : Nat} {w : World} {s : Nat} {v : Value} {n : Nat} {xs : List Value} (h : rd B w s v n xs) : n ≤ maxLen := by
  obtain ⟨h0, a, cap, h1, h2, h3, h4, h5⟩ := h
  exact Nat.le_trans h2 h3

theorem rd.nil (B : Nat) (w : World) (s : Nat) : rd B w s (.slice none 0 0) 0 [] :=
  ⟨by simp, none, 0, rfl, Nat.le_refl _, Nat.zero_le _, fun _ => rfl, fun h => absurd h (by omega)⟩

/-- what an append, or several, to an owned row leave -/
structure App (w w' : World) (base e s : Nat) (v v' : Value) (n : Nat) (xs : List Value) : Prop where
  own : w'.ownsRow base e s v' n xs
  grown : w.grownBy w' v.ownBlock
  place : v'.ownBlock = v.ownBlock ∨ ∃ k, v'.ownBlock = some k ∧ w.heap.size ≤ k

theorem App.refl {w : World} {base e s : Nat} {v : Value} {n : Nat} {xs : List Value} (h : w.ownsRow base e s v n xs) : App w w base e s v v n xs :=
  ⟨h, World.grownBy.refl _ _, Or.inl rfl⟩

theorem App.trans {w w1 w2 : World} {base e s : Nat} {v v1 v2 : Value} {n m : Nat} {xs ys : List Value} (h : App w w1 base e s v v1 n xs) (k : App w1 w2 base e s v1 v2 m ys) : App w w2 base e s v v2 m ys := by
  refine ⟨k.own, ⟨k.grown.os.trans h.grown.os, k.grown.tape.trans h.grown.tape, k.grown.output.trans h.grown.output, Nat.le_trans h.grown.size k.grown.size, fun i hi hne => ?_⟩, ?_⟩
  · rw [k.grown.block i (Nat.lt_of_lt_of_le hi h.grown.size) ?_, h.grown.block i hi hne]
    rcases h.place with e1 | ⟨k1, e1, hk⟩
    · rw [e1]; exact hne
    · rw [e1]; intro hc; cases hc; omega
  · have hs := h.grown.size
    rcases k.place with e1 | ⟨k1, e1, hk⟩
    · rcases h.place with e2 | ⟨k2, e2, hk2⟩
      · exact Or.inl (e1.trans e2)
      · exact Or.inr ⟨k2, e1.trans e2, hk2⟩
    · exact Or.inr ⟨k1, e1, by omega⟩

theorem App.below {w w' : World} {base e s B : Nat} {v v' : Value} {n m : Nat} {xs ys : List Value} (h : App w w' base e s v v' m ys) (ho : w.ownsRow base e s v n xs) (hb : B ≤ base) (hs : B ≤ w.heap.size) : Below B w w' :=
  (Below.refl B w).grown h.grown hs fun k hk => Nat.le_trans hb (ho.lt k hk).1

theorem App.alloc {w w' : World} {base e s : Nat} {v v' : Value} {n : Nat} {xs : List Value} (o : Obj) (k : App (w.alloc o) w' base e s v v' n xs) : App w w' base e s v v' n xs := by
  refine ⟨k.own, ⟨k.grown.os, k.grown.tape, k.grown.output, ?_, fun i hi hne => ?_⟩, ?_⟩
  · have := k.grown.size; simp at this; omega
  · rw [k.grown.block i (by simp; omega) hne]; exact heap_alloc_old w _ hi
  · rcases k.place with e1 | ⟨k1, e1, hk⟩
    · exact Or.inl e1
    · exact Or.inr ⟨k1, e1, by simp at hk; omega⟩

section
variable {P : Program} {w : World} {ops : Array Oper} {rest : List Oper} {o : Oper} {a : Act} {Q : Exit → Act → World → Prop}

theorem rd.lit (w : World) (cs : List Value) (e s n : Nat) (hl : cs.length = n * s) (hn : n ≤ maxLen) : rd (w.heap.size + 1) (w.alloc (.cells cs.toArray e)) s (.slice (some ⟨w.heap.size, 0, none⟩) n n) n cs := by
  refine ⟨hl, some ⟨w.heap.size, 0, none⟩, n, rfl, Nat.le_refl _, hn, (fun e => by cases e), fun _ => ⟨w.heap.size, 0, rfl, by omega, fun j u hj => ?_⟩⟩
  rw [World.cell?_alloc_at _ _ _ _ rfl]
  simpa using hj

theorem own.lit (w : World) (cs : List Value) (e s n base : Nat) (hl : cs.length = n * s) (hn : n ≤ maxLen) (hb : base ≤ w.heap.size) : (w.alloc (.cells cs.toArray e)).ownsRow base e s (.slice (some ⟨w.heap.size, 0, none⟩) n n) n cs :=
  ⟨hl, .inr ⟨w.heap.size, n, cs.toArray, rfl, hb, heap_alloc_new w _, Nat.le_refl _, hn, by simpa using hl, by rw [← hl]; simp⟩⟩

theorem str_eql (t : TypeId) (a b : List UInt8) : binOp .eql t (.string ⟨a.toArray⟩) (.string ⟨b.toArray⟩) = pure (.bool (a == b)) := by
  have e : ∀ l : List UInt8, (ByteArray.mk l.toArray).toList = l := fun l => by rw [ByteArray.toList_eq]
  rw [binOp_string_eql, e, e]
theorem str_neq (t : TypeId) (a b : List UInt8) : binOp .neq t (.string ⟨a.toArray⟩) (.string ⟨b.toArray⟩) = pure (.bool (!(a == b))) := by
  have e : ∀ l : List UInt8, (ByteArray.mk l.toArray).toList = l := fun l => by rw [ByteArray.toList_eq]
  rw [binOp_string_neq, e, e]
attribute [go_sem high] str_eql str_neq
@[go_sem] theorem eql_slice_nil (w : World) (t e : TypeId) (a : Option Addr) (l c : Nat) (h : P.underlying t = some (.slice e)) : (binOp .eql t (.slice a l c) (.slice none 0 0)).run P w = .ok (.bool a.isNone) w :=
  Lib.run_eql_slice_nil w _ _ a l c 0 0 h

theorem own.below {base e s n : Nat} {w' : World} {v : Value} {xs : List Value} (h : w.ownsRow base e s v n xs) (hb : Below w.heap.size w w') : w'.ownsRow base e s v n xs := by
  refine ⟨h.1, h.2.imp id ?_⟩
  rintro ⟨g, cap, cur, h1, h2, h3, h4⟩
  exact ⟨g, cap, cur, h1, h2, by rw [hb.block g (Array.getElem?_eq_some_iff.1 h3).1]; exact h3, h4⟩

theorem own.mono {base base' e s n : Nat} {v : Value} {xs : List Value} (h : w.ownsRow base e s v n xs) (hb : base' ≤ base) : w.ownsRow base' e s v n xs := by
  refine ⟨h.1, h.2.imp id ?_⟩
  rintro ⟨g, cap, cur, h1, h2, h3⟩
  exact ⟨g, cap, cur, h1, Nat.le_trans hb h2, h3⟩

theorem rd.shape {B : Nat} {s : Nat} {v : Value} {n : Nat} {xs : List Value} (h : rd B w s v n xs) : ∃ a cap, v = .slice a n cap ∧ n ≤ cap := by
  obtain ⟨_, a, cap, h1, h2, _⟩ := h; exact ⟨a, cap, h1, h2⟩

end
end Go.Proofs.YtahdkhklngjmoaaGreatDoor

/-
  A region that draws its order, whose operations are either calm (in every world of a class they yield one value) or stand in a chain: one walk in the order of the text serves every order. No condition.
-/
namespace Go.Proofs.YtahdkhklngjmoaaGreatDoor
section
variable {P : Program} {ops : Array Oper} {md : Region.Mode} {C : World → Prop} {eff : Nat → Bool}

/-! the chain -/
def dependsB (md : Region.Mode) (ops : Array Oper) : Nat → Nat → Nat → Bool
  | 0, _, _ => false
  | f + 1, j, i => ((ops[j]?).map fun o => o.after.any fun e => Region.binds md e && (e.on == i || dependsB md ops f e.on i)).getD false

def Closed (md : Region.Mode) (ops : Array Oper) (listed : Array Bool) : Prop :=
  ∀ j o, listed.getD j false = true → ops[j]? = some o → ∀ e ∈ o.after, Region.binds md e = true → listed.getD e.on false = true

theorem dep_listed {listed : Array Bool} (hc : Closed md ops listed) : ∀ (f j i : Nat), dependsB md ops f j i = true → (j ∈ Region.ready md ops listed ∨ listed.getD j false = true) → listed.getD i false = true
  | 0, _, _, h, _ => by cases h
  | f + 1, j, i, h, hj => by
    unfold dependsB at h
    cases ho : ops[j]? with
    | none => simp [ho] at h
    | some o =>
      simp only [ho, Option.map_some, Option.getD_some, Array.any_eq_true'] at h
      obtain ⟨e, he, hh⟩ := h
      simp only [Bool.and_eq_true, Bool.or_eq_true, beq_iff_eq] at hh
      have hon : listed.getD e.on false = true := by
        rcases hj with hj | hj
        · obtain ⟨_, o', ho', hall⟩ := mem_ready.1 hj
          rw [ho] at ho'; cases ho'
          exact hall e he hh.1
        · exact hc j o hj ho e he hh.1
      rcases hh.2 with e1 | e1
      · rw [← e1]; exact hon
      · exact dep_listed hc f e.on i e1 (Or.inr hon)

theorem closed_set {listed : Array Bool} {j : Nat} (hc : Closed md ops listed) (hj : j ∈ Region.ready md ops listed) : Closed md ops (listed.setIfInBounds j true) := by
  intro k o hk ho e he hb
  by_cases hjk : j = k
  · subst hjk
    obtain ⟨_, o', ho', hall⟩ := mem_ready.1 hj
    rw [ho] at ho'; cases ho'
    exact getD_set_true (hall e he hb)
  · rw [getD_set_ne false hjk] at hk
    exact getD_set_true (hc k o hk ho e he hb)

section steps
variable {Q : Act → World → Prop} {o : Oper} {rest : List Oper} {k : Nat} {a : Act} {w : World}

/-! steps by the walk's own tactics -/
end steps

end
end Go.Proofs.YtahdkhklngjmoaaGreatDoor

/-
  A region that draws its order: a head whose operations are calm or stand in a chain, and a tail that is forced: one walk in the order of the text. No condition.
-/
namespace Go.Proofs.YtahdkhklngjmoaaGreatDoor
section
variable {P : Program} {ops : Array Oper} {md : Region.Mode} {C : World → Prop} {eff : Nat → Bool} {n : Nat} {L : Array Bool → Act → World → Prop}

end
end Go.Proofs.YtahdkhklngjmoaaGreatDoor

