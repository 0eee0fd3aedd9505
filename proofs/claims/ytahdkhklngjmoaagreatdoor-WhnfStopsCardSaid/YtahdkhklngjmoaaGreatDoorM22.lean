/-
  Texts put together: I24, I25. No condition.
-/
import Derived.Test.YtahdkhklngjmoaaGreatDoorM21
/-
  Whnf, plain: one tick more. No condition.
-/
namespace Go.Proofs.YtahdkhklngjmoaaGreatDoor
open Go.RowKit

/-- with one tick more: the same, and one tick more is left; or no tick was left -/
def Cmp {α : Type} (r s : α × Int × Nat) : Prop :=
  (r.2.1 ≠ 22 ∧ s = (r.1, r.2.1, r.2.2 + 1)) ∨ (r.2.1 = 22 ∧ r.2.2 = 0 ∧ s.2.2 = 0)
def CmpF (r s : Fd × Nat) : Prop := (r.1 ≠ .err 22 ∧ s = (r.1, r.2 + 1)) ∨ (r = (.err 22, 0) ∧ s.2 = 0)
def CmpS (r s : Sp × Nat) : Prop := (r.1 ≠ .err 22 ∧ s = (r.1, r.2 + 1)) ∨ (r = (.err 22, 0) ∧ s.2 = 0)
theorem wIota_cmp {l : List En} {hd : Tm → Nat → Tm × Int × Nat} {c : Tm} {e : En} {args : List Tm} {n : Nat} (h : ∀ a ∈ args, Cmp (hd a n) (hd a (n + 1))) : CmpF (wIota l hd c e args n) (wIota l hd c e args (n + 1)) := by
  unfold wIota
  simp only
  cases hm : args[e.fixed.toNat + 1 + e.ctors.length + e.index.toNat]? with
  | none => exact Or.inl ⟨nofun, rfl⟩
  | some a =>
    have ha := h a (List.mem_of_getElem? hm)
    obtain ⟨x, er, k, hx⟩ : ∃ x er k, hd a n = (x, er, k) := ⟨_, _, _, rfl⟩
    obtain ⟨y, es, j, hy⟩ : ∃ y es j, hd a (n + 1) = (y, es, j) := ⟨_, _, _, rfl⟩
    rw [hx, hy] at ha
    simp only [hx, hy]
    rcases ha with ⟨h1, h2⟩ | ⟨h1, h2, h3⟩
    · simp only [Prod.mk.injEq] at h1 h2
      obtain ⟨rfl, rfl, rfl⟩ := h2
      by_cases h0 : es = 0
      · rw [if_pos h0, if_pos h0]
        cases wCtor l e.ctors y with
        | none => exact Or.inl ⟨nofun, rfl⟩
        | some ce => exact Or.inl ⟨by unfold wRule; nofun, rfl⟩
      · rw [if_neg h0, if_neg h0]
        exact Or.inl ⟨by simpa using h1, rfl⟩
    · simp only at h1 h2 h3
      subst h1
      subst h2
      subst h3
      rw [if_neg (by decide)]
      refine Or.inr ⟨rfl, ?_⟩
      by_cases h0 : es = 0
      · rw [if_pos h0]
        cases wCtor l e.ctors y <;> rfl
      · rw [if_neg h0]
theorem wFind_cmp {l : List En} {hd : Tm → Nat → Tm × Int × Nat} {t : Tm} {n : Nat} (h : ∀ a ∈ tmArgs t, Cmp (hd a n) (hd a (n + 1))) : CmpF (wFind l hd t n) (wFind l hd t (n + 1)) := by
  unfold wFind
  split
  · exact Or.inl ⟨nofun, rfl⟩
  · exact Or.inl ⟨nofun, rfl⟩
  · unfold wConst
    split
    · split
      · exact Or.inl ⟨nofun, rfl⟩
      · split
        · exact wIota_cmp h
        · exact Or.inl ⟨nofun, rfl⟩
    · exact Or.inl ⟨nofun, rfl⟩
  · exact Or.inl ⟨nofun, rfl⟩
theorem wDone_cmp {r s : Fd × Nat} (h : CmpF r s) : CmpS (wDone r) (wDone s) := by
  obtain ⟨fd, k⟩ := r
  rcases h with ⟨h1, rfl⟩ | ⟨h1, h2⟩
  · simp only at h1 ⊢
    cases fd with
    | err e => exact Or.inl ⟨fun h => h1 (by cases h; rfl), rfl⟩
    | none => exact Or.inl ⟨nofun, rfl⟩
    | rx c u ok =>
      cases k with
      | zero =>
        refine Or.inr ⟨rfl, ?_⟩
        show (wDone (.rx c u ok, 0 + 1)).2 = 0
        rw [wDone]
        split <;> rfl
      | succ k =>
        show CmpS (wDone (.rx c u ok, k + 1)) (wDone (.rx c u ok, k + 1 + 1))
        rw [wDone, wDone]
        split
        · exact Or.inl ⟨nofun, rfl⟩
        · exact Or.inl ⟨by simp, rfl⟩
  · rw [h1]
    obtain ⟨fs, j⟩ := s
    simp only at h2
    subst h2
    refine Or.inr ⟨rfl, ?_⟩
    cases fs <;> rfl
theorem wHd_cmp (l : List En) : ∀ (N : Nat) (t : Tm) (n : Nat), wTop t n ≤ N → t.nodes ≤ 2000 → Cmp (wHd l t n) (wHd l t (n + 1)) := by
  intro N
  induction N using Nat.strongRecOn with
  | ind N ih =>
  intro t n hN ht
  have hf := wDone_cmp (wFind_cmp (l := l) (hd := wHd l) (t := t) (n := n) fun a ha => ih (wTop a n) (by
    have := tmArgs_nodes t a ha
    unfold wTop at hN ⊢
    omega) a n (Nat.le_refl _) (by have := tmArgs_nodes t a ha; omega))
  have e1 := wHd_eq l t n
  have e2 := wHd_eq l t (n + 1)
  change CmpS (wStep l t n) (wStep l t (n + 1)) at hf
  obtain ⟨⟨sp, k⟩, hr⟩ : ∃ r, wStep l t n = r := ⟨_, rfl⟩
  obtain ⟨⟨sq, j⟩, hs⟩ : ∃ r, wStep l t (n + 1) = r := ⟨_, rfl⟩
  rw [hr] at hf e1
  rw [hs] at hf e2
  rcases hf with ⟨h1, h2⟩ | ⟨h1, h2⟩
  · cases h2
    rw [e1, e2]
    cases sp with
    | err e => exact Or.inl ⟨fun h => h1 (by simp only at h; rw [h]), rfl⟩
    | none => exact Or.inl ⟨by simp, rfl⟩
    | to c u =>
      obtain ⟨j1, j2, j3⟩ := wStep_to hr
      exact ih (wTop u k) (by omega) u k (Nat.le_refl _) j2
  · cases h1
    simp only at h2
    subst h2
    rw [e1, e2]
    refine Or.inr ⟨rfl, rfl, ?_⟩
    cases sq with
    | err e => rfl
    | none => rfl
    | to c u => exact Nat.le_zero.1 (wHd_left l u 0)
end Go.Proofs.YtahdkhklngjmoaaGreatDoor

/-
  Whnf: the law of fuel. No condition.
-/
namespace Go.Proofs.YtahdkhklngjmoaaGreatDoor
open Go.RowKit

section
variable {rb : Nat} {te : Tre} {l : List En} {used : Int} {X H : Heap} {Q : AV → Heap → Prop}
end
theorem HasW.other {r1 r2 : Nat} {ev : AV} {u1 l1 u2 l2 : Int} {X H : Heap} (h : HasW r1 ev u1 l1 ((r2, .cells [ev, .i u2, .i l2]) :: X) H) : HasW r2 ev u2 l2 ((r1, .cells [ev, .i u1, .i l1]) :: X) H :=
  (show H.Perm _ from h).trans (List.Perm.swap _ _ _)
theorem HasW.all {r1 : Nat} {ev : AV} {u1 l1 : Int} {G X H : Heap} (h : HasW r1 ev u1 l1 (G ++ X) H) : ∃ H2 : Heap, List.Sublist H2 H ∧ X.Perm H2 := sub_of_perm (A := (r1, AObj.cells [ev, .i u1, .i l1]) :: G) (show H.Perm _ from h)
end Go.Proofs.YtahdkhklngjmoaaGreatDoor

