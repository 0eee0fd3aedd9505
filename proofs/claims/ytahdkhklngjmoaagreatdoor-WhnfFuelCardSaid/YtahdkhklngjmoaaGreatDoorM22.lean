/-
  Texts put together: I24, I25. No condition.
-/
import Derived.Test.YtahdkhklngjmoaaGreatDoorM21
/-
  Whnf, plain: one tick more. No condition.
-/
namespace Go.Proofs.YtahdkhklngjmoaaGreatDoor
open Go.RowKit

/-- with one tick more: the same, and one tick more is left; or no tick was left -/
def Cmp {α : Type} (r s : α × Int × Nat) : Prop :=
  (r.2.1 ≠ 22 ∧ s = (r.1, r.2.1, r.2.2 + 1)) ∨ (r.2.1 = 22 ∧ r.2.2 = 0 ∧ s.2.2 = 0)
def CmpF (r s : Fd × Nat) : Prop := (r.1 ≠ .err 22 ∧ s = (r.1, r.2 + 1)) ∨ (r = (.err 22, 0) ∧ s.2 = 0)
def CmpS (r s : Sp × Nat) : Prop := (r.1 ≠ .err 22 ∧ s = (r.1, r.2 + 1)) ∨ (r = (.err 22, 0) ∧ s.2 = 0)
theorem wIota_cmp {l : List En} {hd : Tm → Nat → Tm × Int × Nat} {c : Tm} {e : En} {args : List Tm} {n : Nat} (h : ∀ a ∈ args, Cmp (hd a n) (hd a (n + 1))) : CmpF (wIota l hd c e args n) (wIota l hd c e args (n + 1)) := by
  unfold wIota
  simp only
  cases hm : args[e.fixed.toNat + 1 + e.ctors.length + e.index.toNat]? with
  | none => exact Or.inl ⟨nofun, rfl⟩
  | some a =>
    have ha := h a (List.mem_of_getElem? hm)
    obtain ⟨x, er, k, hx⟩ : ∃ x er k, hd a n = (x, er, k) := ⟨_, _, _, rfl⟩
    obtain ⟨y, es, j, hy⟩ : ∃ y es j, hd a (n + 1) = (y, es, j) := ⟨_, _, _, rfl⟩
    rw [hx, hy] at ha
    simp only [hx, hy]
    rcases ha with ⟨h1, h2⟩ | ⟨h1, h2, h3⟩
    · simp only [Prod.mk.injEq] at h1 h2
      obtain ⟨rfl, rfl, rfl⟩ := h2
      by_cases h0 : es = 0
      · rw [if_pos h0, if_pos h0]
        cases wCtor l e.ctors y with
        | none => exact Or.inl ⟨nofun, rfl⟩
        | some ce => exact Or.inl ⟨by unfold wRule; nofun, rfl⟩
      · rw [if_neg h0, if_neg h0]
        exact Or.inl ⟨by simpa using h1, rfl⟩
    · simp only at h1 h2 h3
      subst h1
      subst h2
      subst h3
      rw [if_neg (by decide)]
      refine Or.inr ⟨rfl, ?_⟩
      by_cases h0 : es = 0
      · rw [if_pos h0]
        cases wCtor l e.ctors y <;> rfl
      · rw [if_neg h0]
theorem wFind_cmp {l : List En} {hd : Tm → Nat → Tm × Int × Nat} {t : Tm} {n : Nat} (h : ∀ a ∈ tmArgs t, Cmp (hd a n) (hd a (n + 1))) : CmpF (wFind l hd t n) (wFind l hd t (n + 1)) := by
  unfold wFind
  split
  · exact Or.inl ⟨nofun, rfl⟩
  · exact Or.inl ⟨nofun, rfl⟩
  · unfold wConst
    split
    · split
      · exact Or.inl ⟨nofun, rfl⟩
      · split
        · exact wIota_cmp h
        · exact Or.inl ⟨nofun, rfl⟩
    · exact Or.inl ⟨nofun, rfl⟩
  · exact Or.inl ⟨nofun, rfl⟩
theorem wDone_cmp {r s : Fd × Nat} (h : CmpF r s) : CmpS (wDone r) (wDone s) := by
  obtain ⟨fd, k⟩ := r
  rcases h with ⟨h1, rfl⟩ | ⟨h1, h2⟩
  · simp only at h1 ⊢
    cases fd with
    | err e => exact Or.inl ⟨fun h => h1 (by cases h; rfl), rfl⟩
    | none => exact Or.inl ⟨nofun, rfl⟩
    | rx c u ok =>
      cases k with
      | zero =>
        refine Or.inr ⟨rfl, ?_⟩
        show (wDone (.rx c u ok, 0 + 1)).2 = 0
        rw [wDone]
        split <;> rfl
      | succ k =>
        show CmpS (wDone (.rx c u ok, k + 1)) (wDone (.rx c u ok, k + 1 + 1))
        rw [wDone, wDone]
        split
        · exact Or.inl ⟨nofun, rfl⟩
        · exact Or.inl ⟨by simp, rfl⟩
  · rw [h1]
    obtain ⟨fs, j⟩ := s
    simp only at h2
    subst h2
    refine Or.inr ⟨rfl, ?_⟩
    cases fs <;> rfl
theorem wHd_cmp (l : List En) : ∀ (N : Nat) (t : Tm) (n : Nat), wTop t n ≤ N → t.nodes ≤ 2000 → Cmp (wHd l t n) (wHd l t (n + 1)) := by
  intro N
  induction N using Nat.strongRecOn with
  | ind N ih =>
  intro t n hN ht
  have hf := wDone_cmp (wFind_cmp (l := l) (hd := wHd l) (t := t) (n := n) fun a ha => ih (wTop a n) (by
    have := tmArgs_nodes t a ha
    unfold wTop at hN ⊢
    omega) a n (Nat.le_refl _) (by have := tmArgs_nodes t a ha; omega))
  have e1 := wHd_eq l t n
  have e2 := wHd_eq l t (n + 1)
  change CmpS (wStep l t n) (wStep l t (n + 1)) at hf
  obtain ⟨⟨sp, k⟩, hr⟩ : ∃ r, wStep l t n = r := ⟨_, rfl⟩
  obtain ⟨⟨sq, j⟩, hs⟩ : ∃ r, wStep l t (n + 1) = r := ⟨_, rfl⟩
  rw [hr] at hf e1
  rw [hs] at hf e2
  rcases hf with ⟨h1, h2⟩ | ⟨h1, h2⟩
  · cases h2
    rw [e1, e2]
    cases sp with
    | err e => exact Or.inl ⟨fun h => h1 (by simp only at h; rw [h]), rfl⟩
    | none => exact Or.inl ⟨by simp, rfl⟩
    | to c u =>
      obtain ⟨j1, j2, j3⟩ := wStep_to hr
      exact ih (wTop u k) (by omega) u k (Nat.le_refl _) j2
  · cases h1
    simp only at h2
    subst h2
    rw [e1, e2]
    refine Or.inr ⟨rfl, rfl, ?_⟩
    cases sq with
    | err e => rfl
    | none => rfl
    | to c u => exact Nat.le_zero.1 (wHd_left l u 0)
theorem wEach_cmp {f : Tm → Nat → Tm × Int × Nat} (hk : Keeps f) : ∀ (ts : List Tm) (n : Nat), (∀ a ∈ ts, ∀ m, m ≤ n → Cmp (f a m) (f a (m + 1))) → Cmp (wEach f ts n) (wEach f ts (n + 1))
  | [], n, _ => Or.inl ⟨by simp [wEach], rfl⟩
  | t :: ts, n, h => by
    have ht := h t (by simp) n (Nat.le_refl _)
    have hl := hk t n
    rw [wEach, wEach]
    obtain ⟨u, e, k, hu⟩ : ∃ u e k, f t n = (u, e, k) := ⟨_, _, _, rfl⟩
    obtain ⟨v, e', j, hv⟩ : ∃ u e k, f t (n + 1) = (u, e, k) := ⟨_, _, _, rfl⟩
    rw [hu] at ht hl
    rw [hv] at ht
    simp only [hu, hv]
    rcases ht with ⟨h1, h2⟩ | ⟨h1, h2, h3⟩
    · simp only [Prod.mk.injEq] at h1 h2
      obtain ⟨rfl, rfl, rfl⟩ := h2
      by_cases h0 : e' = 0
      · rw [if_pos h0, if_pos h0]
        have hi := wEach_cmp hk ts k fun a ha m hm => h a (List.mem_cons_of_mem _ ha) m (Nat.le_trans hm hl)
        obtain ⟨us, e2, k2, hu2⟩ : ∃ u e i, wEach f ts k = (u, e, i) := ⟨_, _, _, rfl⟩
        obtain ⟨vs, e3, j2, hv2⟩ : ∃ u e i, wEach f ts (k + 1) = (u, e, i) := ⟨_, _, _, rfl⟩
        rw [hu2, hv2] at hi
        simp only [hu2, hv2]
        rcases hi with ⟨g1, g2⟩ | ⟨g1, g2, g3⟩
        · simp only [Prod.mk.injEq] at g1 g2
          obtain ⟨rfl, rfl, rfl⟩ := g2
          exact Or.inl ⟨g1, rfl⟩
        · exact Or.inr ⟨g1, g2, g3⟩
      · rw [if_neg h0, if_neg h0]
        exact Or.inl ⟨h1, rfl⟩
    · simp only at h1 h2 h3
      subst h1
      subst h2
      subst h3
      rw [if_neg (by decide)]
      refine Or.inr ⟨rfl, rfl, ?_⟩
      by_cases h0 : e' = 0
      · rw [if_pos h0]
        exact Nat.le_zero.1 (wEach_left hk ts 0)
      · rw [if_neg h0]
set_option maxRecDepth 100000 in
theorem wNf_cmp (l : List En) : ∀ (N : Nat) (t : Tm) (n : Nat), wTop t n ≤ N → t.nodes ≤ 2000 → Cmp (wNf l t n) (wNf l t (n + 1)) := by
  intro N
  induction N using Nat.strongRecOn with
  | ind N ih =>
  intro t n hN ht
  have hh := wHd_cmp l (wTop t n) t n (Nat.le_refl _) ht
  have hln := wHd_left l t n
  have hnd := wHd_nodes l t n ht
  rw [wNf_eq l t n, wNf_eq l t (n + 1)]
  obtain ⟨w, e, n1, he⟩ : ∃ w e n1, wHd l t n = (w, e, n1) := ⟨_, _, _, rfl⟩
  obtain ⟨w', e', n1', he'⟩ : ∃ w e n1, wHd l t (n + 1) = (w, e, n1) := ⟨_, _, _, rfl⟩
  rw [he] at hln hnd
  rw [he, he'] at hh
  simp only at hln hnd
  simp only [he, he']
  rcases hh with ⟨h1, h2⟩ | ⟨h1, h2, h3⟩
  · simp only [Prod.mk.injEq] at h1 h2
    obtain ⟨rfl, rfl, rfl⟩ := h2
    by_cases h0 : e' = 0
    rotate_left
    · rw [if_neg h0, if_neg h0]
      exact Or.inl ⟨h1, rfl⟩
    rw [if_pos h0, if_pos h0]
    subst h0
    have key : ∀ a, (a ∈ (tmHead w').args ∨ a ∈ tmArgs w') → ∀ m, m ≤ n1 → Cmp (wNf l a m) (wNf l a (m + 1)) := fun a ha m hm => by
      obtain ⟨p1, p2⟩ := part_top he ha hm
      exact ih (wTop a m) (by omega) a m (Nat.le_refl _) (by omega)
    have g1 := wEach_cmp (wNf_left l) (tmHead w').args n1 fun a ha m hm => key a (Or.inl ha) m hm
    have hl2 := wEach_left (wNf_left l) (tmHead w').args n1
    obtain ⟨xs, e2, n2, he2⟩ : ∃ xs e2 n2, wEach (wNf l) (tmHead w').args n1 = (xs, e2, n2) := ⟨_, _, _, rfl⟩
    obtain ⟨xs', e2', n2', he2'⟩ : ∃ xs e2 n2, wEach (wNf l) (tmHead w').args (n1 + 1) = (xs, e2, n2) := ⟨_, _, _, rfl⟩
    rw [he2] at hl2
    rw [he2, he2'] at g1
    simp only [he2, he2']
    simp only at hl2
    rcases g1 with ⟨h1, h2⟩ | ⟨h1, h2, h3⟩
    · simp only [Prod.mk.injEq] at h1 h2
      obtain ⟨rfl, rfl, rfl⟩ := h2
      by_cases h0 : e2' = 0
      rotate_left
      · rw [if_neg h0, if_neg h0]
        exact Or.inl ⟨h1, rfl⟩
      rw [if_pos h0, if_pos h0]
      have g2 := wEach_cmp (wNf_left l) (tmArgs w') n2 fun a ha m hm => key a (Or.inr ha) m (Nat.le_trans hm hl2)
      obtain ⟨ys, e3, n3, he3⟩ : ∃ xs e2 i, wEach (wNf l) (tmArgs w') n2 = (xs, e2, i) := ⟨_, _, _, rfl⟩
      obtain ⟨ys', e3', n3', he3'⟩ : ∃ xs e2 i, wEach (wNf l) (tmArgs w') (n2 + 1) = (xs, e2, i) := ⟨_, _, _, rfl⟩
      rw [he3, he3'] at g2
      simp only [he3, he3']
      rcases g2 with ⟨h1, h2⟩ | ⟨h1, h2, h3⟩
      · simp only [Prod.mk.injEq] at h1 h2
        obtain ⟨rfl, rfl, rfl⟩ := h2
        by_cases h0 : e3' = 0
        rotate_left
        · rw [if_neg h0, if_neg h0]
          exact Or.inl ⟨h1, rfl⟩
        rw [if_pos h0, if_pos h0]
        unfold wBuild
        split
        · exact Or.inl ⟨by simp, rfl⟩
        · exact Or.inl ⟨by simp, rfl⟩
      · simp only at h1 h2 h3
        subst h1
        subst h2
        subst h3
        rw [if_neg (by decide)]
        refine Or.inr ⟨rfl, rfl, ?_⟩
        split
        · unfold wBuild
          split <;> rfl
        · rfl
    · simp only at h1 h2 h3
      subst h1
      subst h2
      subst h3
      rw [if_neg (by decide)]
      refine Or.inr ⟨rfl, rfl, ?_⟩
      have hz := wEach_left (wNf_left l) (tmArgs w') 0
      split
      · obtain ⟨ys, e3, n3, he3⟩ : ∃ xs e2 n2, wEach (wNf l) (tmArgs w') 0 = (xs, e2, n2) := ⟨_, _, _, rfl⟩
        rw [he3] at hz
        simp only [he3]
        have h3 : n3 = 0 := Nat.le_zero.1 hz
        subst h3
        split
        · unfold wBuild
          split <;> rfl
        · rfl
      · rfl
  · simp only at h1 h2 h3
    subst h1
    subst h2
    subst h3
    rw [if_neg (by decide)]
    refine Or.inr ⟨rfl, rfl, ?_⟩
    have hz := wNf_left l t (n + 1)
    split
    · have hz1 := wEach_left (wNf_left l) (tmHead w').args 0
      obtain ⟨xs, e2, n2, he2⟩ : ∃ xs e2 n2, wEach (wNf l) (tmHead w').args 0 = (xs, e2, n2) := ⟨_, _, _, rfl⟩
      rw [he2] at hz1
      simp only [he2]
      have h3 : n2 = 0 := Nat.le_zero.1 hz1
      subst h3
      split
      · have hz2 := wEach_left (wNf_left l) (tmArgs w') 0
        obtain ⟨ys, e3, n3, he3⟩ : ∃ xs e2 n2, wEach (wNf l) (tmArgs w') 0 = (xs, e2, n2) := ⟨_, _, _, rfl⟩
        rw [he3] at hz2
        simp only [he3]
        have h3 : n3 = 0 := Nat.le_zero.1 hz2
        subst h3
        split
        · unfold wBuild
          split <;> rfl
        · rfl
      · rfl
    · rfl
/-- with so many ticks more -/
theorem wNf_more (l : List En) {t : Tm} (ht : t.nodes ≤ 2000) (n : Nat) : ∀ m : Nat, ((wNf l t n).2.1 ≠ 22 ∧ wNf l t (n + m) = ((wNf l t n).1, (wNf l t n).2.1, (wNf l t n).2.2 + m)) ∨ ((wNf l t n).2.1 = 22 ∧ (wNf l t n).2.2 = 0 ∧ (wNf l t (n + m)).2.2 ≤ m)
  | 0 => by
    by_cases h : (wNf l t n).2.1 = 22
    · rcases wNf_cmp l (wTop t n) t n (Nat.le_refl _) ht with ⟨h1, _⟩ | ⟨_, h2, _⟩
      · exact absurd h h1
      · exact Or.inr ⟨h, h2, by rw [Nat.add_zero, h2]; exact Nat.le_refl _⟩
    · exact Or.inl ⟨h, rfl⟩
  | m + 1 => by
    have hc := wNf_cmp l (wTop t (n + m)) t (n + m) (Nat.le_refl _) ht
    rcases wNf_more l ht n m with ⟨h1, h2⟩ | ⟨h1, h2, h3⟩
    · rw [h2] at hc
      rcases hc with ⟨g1, g2⟩ | ⟨g1, _⟩
      · exact Or.inl ⟨h1, g2⟩
      · exact absurd g1 h1
    · refine Or.inr ⟨h1, h2, ?_⟩
      rcases hc with ⟨g1, g2⟩ | ⟨_, _, g3⟩
      · rw [← Nat.add_assoc, g2]
        simp only
        omega
      · rw [← Nat.add_assoc, g3]
        exact Nat.zero_le _
end Go.Proofs.YtahdkhklngjmoaaGreatDoor

/-
  Whnf: the law of fuel. No condition.
-/
namespace Go.Proofs.YtahdkhklngjmoaaGreatDoor
open Go.RowKit

/-- what Nf answers -/
def nfX (l : List En) (t : Tm) (n : Nat) : Tm × Int × Nat :=
  if packOk t = true then (if (wNf l t n).2.1 = 0 then (wNf l t n).1 else tm0, (wNf l t n).2.1, (wNf l t n).2.2) else (tm0, 10, n)
theorem nfX_le (l : List En) (t : Tm) (n : Nat) : (nfX l t n).2.2 ≤ n := by
  unfold nfX
  split
  · exact wNf_left l t n
  · exact Nat.le_refl _
theorem nfX_more (l : List En) (t : Tm) (n m : Nat) : ((nfX l t n).2.1 ≠ 22 ∧ nfX l t (n + m) = ((nfX l t n).1, (nfX l t n).2.1, (nfX l t n).2.2 + m)) ∨ ((nfX l t n).2.1 = 22 ∧ (nfX l t n).1 = tm0 ∧ (nfX l t n).2.2 = 0 ∧ (nfX l t (n + m)).2.2 ≤ m) := by
  unfold nfX
  by_cases hp : packOk t = true
  · simp only [if_pos hp]
    rcases wNf_more l (packOk_fit0 hp).1 n m with ⟨h1, h2⟩ | ⟨h1, h2, h3⟩
    · rw [h2]
      exact Or.inl ⟨h1, rfl⟩
    · refine Or.inr ⟨h1, ?_, h2, h3⟩
      rw [if_neg (by rw [h1]; decide)]
  · simp only [if_neg hp]
    exact Or.inl ⟨by decide, trivial⟩
theorem nfX_less (l : List En) (t : Tm) (n k : Nat) (h : k < n - (nfX l t n).2.2) : (nfX l t k).2.1 = 22 := by
  obtain ⟨m, rfl⟩ : ∃ m, n = k + m := ⟨n - k, by omega⟩
  rcases nfX_more l t k m with ⟨_, h2⟩ | ⟨h1, _⟩
  · rw [h2] at h
    simp only at h
    omega
  · exact h1
section
variable {rb : Nat} {te : Tre} {l : List En} {used : Int} {X H : Heap} {Q : AV → Heap → Prop}
set_option maxRecDepth 100000 in
theorem wNfX_con (hp : Places te l) (ha : AllRight l) (t : Tm) {n : Nat} (h0 : 0 ≤ used) (h1 : used + n ≤ 1000000000) (h : HasW rb (envX te l) used n X H)
    (hq : ∀ H', HasW rb (envX te l) (used + ((n : Int) - ((nfX l t n).2.2 : Nat))) ((nfX l t n).2.2 : Nat) X H' → Q (.tup [tmX (nfX l t n).1, .i (nfX l t n).2.1]) H') : Con Tryz.prog 11 [.ptr rb 0, tmX t] H Q := by
  unfold nfX at hq
  refine wNf_con hp ha t h0 h1 h (fun hk => ?_) (fun hk => ?_)
  · rw [if_neg (by rw [hk]; decide)] at hq
    simp only at hq
    exact hq H (h.to (by omega) rfl)
  · rw [if_pos hk] at hq
    simp only at hq
    exact hq
end
theorem HasW.nest {r1 r2 : Nat} {ev : AV} {u1 l1 u2 l2 : Int} {X H1 H2 : Heap} (h2 : HasW r2 ev u2 l2 H1 H2) (h1 : HasW r1 ev u1 l1 X H1) : HasW r1 ev u1 l1 ((r2, .cells [ev, .i u2, .i l2]) :: X) H2 :=
  (show H2.Perm _ from h2).trans (((show H1.Perm _ from h1).cons _).trans (List.Perm.swap _ _ _))
theorem HasW.nest2 {r1 r2 r3 : Nat} {ev : AV} {u1 l1 u3 l3 : Int} {x : AObj} {X H1 H2 : Heap} (h2 : HasW r3 ev u3 l3 H1 H2) (h1 : HasW r1 ev u1 l1 ((r2, x) :: X) H1) : HasW r3 ev u3 l3 ([(r1, .cells [ev, .i u1, .i l1]), (r2, x)] ++ X) H2 :=
  (show H2.Perm _ from h2).trans ((show H1.Perm _ from h1).cons _)
theorem HasW.other {r1 r2 : Nat} {ev : AV} {u1 l1 u2 l2 : Int} {X H : Heap} (h : HasW r1 ev u1 l1 ((r2, .cells [ev, .i u2, .i l2]) :: X) H) : HasW r2 ev u2 l2 ((r1, .cells [ev, .i u1, .i l1]) :: X) H :=
  (show H.Perm _ from h).trans (List.Perm.swap _ _ _)
theorem HasW.all {r1 : Nat} {ev : AV} {u1 l1 : Int} {G X H : Heap} (h : HasW r1 ev u1 l1 (G ++ X) H) : ∃ H2 : Heap, List.Sublist H2 H ∧ X.Perm H2 := sub_of_perm (A := (r1, AObj.cells [ev, .i u1, .i l1]) :: G) (show H.Perm _ from h)
set_option maxRecDepth 100000 in
set_option maxHeartbeats 4000000 in
theorem whnfFuel_con (t : Tm) (f m : Int) : Ans Tryz.prog 5 [tmX t, .i f, .i m] (.b true) := by
  intro H Q hq
  obtain ⟨hp, ha⟩ := runs_ok lib_adds
  obtain ⟨te, hte⟩ : ∃ te, treL libL = te := ⟨_, rfl⟩
  rw [hte] at hp
  refine Con.permR ?_
  refine con_of_sem tab_ok Tryz.func5 rfl (ent Tryz.func5 (by kernel_rfl) rfl) (by kernel_rfl) ?_
  intro hw hn
  clear hw hn
  refine sem_seq (esc := fun _ => false) tab_ok mixed ?_
  refine sem_seq (esc := fun _ => false) tab_ok mixed ?_
  refine ⟨_, LeL.refl _, alive13_con _ _ ?_⟩
  intro hz1 hz2; clear hz1 hz2
  refine sem_seq (esc := fun _ => false) tab_ok mixed ?_
  refine ⟨[.sl .full 19 (([] : List En).map enX), tmX t], ⟨Le.nil' _, Le.refl _, trivial⟩, small13_con .full [] t H _ fun q hs => ?_⟩
  intro hz1 hz2; clear hz1 hz2
  cases q with
  | false =>
    exact ⟨_, H, Le.refl _, List.Sublist.refl _, H, List.Perm.refl _, hq⟩
  | true =>
    clear hs
    refine ifB_dec (fun g1 => ?_) (fun g1 => ?_)
    · exact ⟨_, H, Le.refl _, List.Sublist.refl _, H, List.Perm.refl _, hq⟩
    refine ifB_dec (fun g2 => ?_) (fun g2 => ?_)
    · exact ⟨_, H, Le.refl _, List.Sublist.refl _, H, List.Perm.refl _, hq⟩
    refine ifB_dec (fun g3 => ?_) (fun g3 => ?_)
    · exact ⟨_, H, Le.refl _, List.Sublist.refl _, H, List.Perm.refl _, hq⟩
    refine ifB_dec (fun g4 => ?_) (fun g4 => ?_)
    · exact ⟨_, H, Le.refl _, List.Sublist.refl _, H, List.Perm.refl _, hq⟩
    obtain ⟨F, rfl⟩ : ∃ F : Nat, f = F := ⟨f.toNat, by omega⟩
    obtain ⟨M, rfl⟩ : ∃ M : Nat, m = M := ⟨m.toNat, by omega⟩
    have hle1 := nfX_le libL t F
    have hmo := nfX_more libL t F M
    have hls := nfX_less libL t F
    obtain ⟨x, e, n1, hx⟩ : ∃ x e n1, nfX libL t F = (x, e, n1) := ⟨_, _, _, rfl⟩
    obtain ⟨y, d, n2, hy⟩ : ∃ x e n1, nfX libL t (F + M) = (x, e, n1) := ⟨_, _, _, rfl⟩
    rw [hx] at hle1 hls
    rw [hx, hy] at hmo
    simp only at hle1 hmo hls
    refine sem_seq (esc := fun _ => false) tab_ok mixed ?_
    refine ⟨_, LeL.refl _, lib_con _ _ ?_⟩
    intro hz1 hz2; clear hz1 hz2
    refine ⟨_, LeL.refl _, run13_con libL F (by omega) (by decide) (fun _ r1 H1 hH1 => ?_) (fun h => absurd lib_adds h)⟩
    rw [hte] at hH1
    replace hH1 : HasW r1 (envX te libL) 0 F H H1 := hH1
    intro hz1 hz2; clear hz1 hz2
    refine sem_seq (esc := fun _ => false) tab_ok mixed ?_
    refine ⟨_, LeL.refl _, lib_con _ _ ?_⟩
    intro hz1 hz2; clear hz1 hz2
    refine ⟨in64_of (by first | omega | (dsimp only; omega)) (by first | omega | (dsimp only; omega)), ?_⟩
    refine ⟨[ensX libL, .i ((F + M : Nat) : Int)], ⟨Le.refl _, le_of_eq (show AV.i ((F : Int) + (M : Int)) = AV.i ((F + M : Nat) : Int) by rw [Int.natCast_add]), trivial⟩, run13_con libL (F + M) (by omega) (by decide) (fun _ r2 H2 hH2 => ?_) (fun h => absurd lib_adds h)⟩
    rw [hte] at hH2
    replace hH2 : HasW r2 (envX te libL) 0 ((F + M : Nat) : Int) H1 H2 := hH2
    intro hz1 hz2; clear hz1 hz2
    have hA := hH2.nest hH1
    refine sem_le ⟨[(1, .g (.i F)), (3, .lp 3 0), (7, .g (.ptr r1 0)), (8, .g (.ptr r2 0))], [(3, (tmX t).cells)], H2⟩ ⟨⟨Le.refl _, ⟨rfl, rfl⟩, Le.refl _, Le.refl _, trivial⟩, ⟨⟨rfl, LeL.refl _⟩, trivial⟩, List.Sublist.refl _⟩ ?_
    refine sem_seq (esc := fun _ => false) tab_ok mixed ?_
    refine sem_seq (esc := fun _ => false) tab_ok mixed ?_
    have hs1 := fun (Q : AV → Heap → Prop) => wNfX_con (Q := Q) hp ha t (n := F) (by decide) (by omega) hA
    rw [hx] at hs1
    refine ⟨_, LeL.refl _, hs1 _ fun H3 hH3 => ?_⟩
    intro hz1 hz2; clear hz1 hz2
    refine sem_seq (esc := fun _ => false) tab_ok mixed ?_
    have hs2 := fun (Q : AV → Heap → Prop) => wNfX_con (Q := Q) hp ha t (n := F + M) (by decide) (by omega) hH3.other
    rw [hy] at hs2
    refine ⟨_, LeL.refl _, hs2 _ fun H4 hH4 => ?_⟩
    intro hz1 hz2; clear hz1 hz2
    simp only at hH4
    have hB := hH4
    have hA := hH4.other
    refine sem_le ⟨[(1, .g (.i F)), (3, .lp 3 0), (7, .g (.ptr r1 0)), (8, .g (.ptr r2 0)), (9, .lp 9 0), (10, .g (.i e)), (11, .lp 11 0), (12, .g (.i d))], [(11, (tmX y).cells), (9, (tmX x).cells), (3, (tmX t).cells)], H4⟩ ⟨⟨Le.refl _, ⟨rfl, rfl⟩, Le.refl _, Le.refl _, ⟨rfl, rfl⟩, Le.refl _, ⟨rfl, rfl⟩, Le.refl _, trivial⟩, ⟨⟨rfl, LeL.refl _⟩, ⟨rfl, LeL.refl _⟩, ⟨rfl, LeL.refl _⟩, trivial⟩, List.Sublist.refl _⟩ ?_
    have fin : ∃ r H', Le (.b true) r ∧ List.Sublist H' H4 ∧ ∃ H5 : Heap, H5.Perm H' ∧ Q r H5 := by
      obtain ⟨H5, s5, w5⟩ := HasW.all (G := [_]) (X := H) hA
      exact ⟨_, H5, Le.refl _, s5, H, w5, hq⟩
    refine sem_seq (esc := fun _ => false) tab_ok mixed ?_
    refine ⟨_, LeL.refl _, wUsed_con hA ?_⟩
    intro hz1 hz2; clear hz1 hz2
    refine ⟨_, LeL.refl _, wLeft_con hA ?_⟩
    intro hz1 hz2; clear hz1 hz2
    refine ⟨in64_of (by first | omega | (dsimp only; omega)) (by first | omega | (dsimp only; omega)), ?_⟩
    refine ifB_t (show (0 : Int) + ((F : Int) - (n1 : Nat)) + (n1 : Nat) = F by omega) ?_
    refine ⟨_, LeL.refl _, wUsed_con hB ?_⟩
    intro hz1 hz2; clear hz1 hz2
    refine ⟨_, LeL.refl _, wUsed_con hA ?_⟩
    intro hz1 hz2; clear hz1 hz2
    refine ifB_f (show ¬ (0 : Int) + (((F + M : Nat) : Int) - (n2 : Nat)) < (0 : Int) + ((F : Int) - (n1 : Nat)) from ?_) ?_
    · rcases hmo with ⟨_, h2⟩ | ⟨_, _, h3, h4⟩
      · cases h2
        omega
      · omega
    refine sem_seq (esc := fun _ => false) tab_ok mixed ?_
    refine ifB_dec (fun g5 => ?_) (fun g5 => ?_)
    · rcases hmo with ⟨h1, _⟩ | ⟨_, rfl, rfl, _⟩
      · exact absurd g5 h1
      refine ⟨_, LeL.refl _, wLeft_con hA ?_⟩
      intro hz1 hz2; clear hz1 hz2
      refine ⟨[tmX tm0, tmX tm0], ⟨Le.refl _, le_tm0, trivial⟩, (SameTerm_con _ _ _ (Nat.le_refl _)).as (sameT tm0) _ _ ?_⟩
      intro hz1 hz2; clear hz1 hz2
      exact fin
    rcases hmo with ⟨_, h2⟩ | ⟨h1, _⟩
    rotate_left
    · exact absurd h1 g5
    obtain ⟨rfl, rfl, rfl⟩ : y = x ∧ d = e ∧ n2 = n1 + M := by
      simpa using h2
    refine sem_seq (esc := fun _ => false) tab_ok mixed ?_
    refine ifB_t (show d = d from rfl) ?_
    refine ⟨[tmX y, tmX y], LeL.refl _, (SameTerm_con _ _ _ (Nat.le_refl _)).as (sameT y) _ _ ?_⟩
    intro hz1 hz2; clear hz1 hz2
    refine ⟨_, LeL.refl _, wUsed_con hA ?_⟩
    intro hz1 hz2; clear hz1 hz2
    refine ⟨_, LeL.refl _, wUsed_con hB ?_⟩
    intro hz1 hz2; clear hz1 hz2
    refine ifB_t (show (0 : Int) + ((F : Int) - (n1 : Nat)) = (0 : Int) + (((F + M : Nat) : Int) - ((n1 + M : Nat) : Int)) by omega) ?_
    refine sem_seq (esc := fun _ => false) tab_ok mixed ?_
    refine ⟨_, LeL.refl _, wUsed_con hA ?_⟩
    intro hz1 hz2; clear hz1 hz2
    refine ifB_dec (fun g6 => ?_) (fun g6 => ?_)
    · exact fin
    have g6 : ¬ (0 : Int) + ((F : Int) - (n1 : Nat)) = 0 := g6
    obtain ⟨c, hc⟩ : ∃ c : Int, (0 : Int) + ((F : Int) - (n1 : Nat)) = c := ⟨_, rfl⟩
    obtain ⟨k, hk⟩ : ∃ k : Nat, F - n1 = k + 1 := ⟨F - n1 - 1, by omega⟩
    have hck : c - 1 = (k : Nat) := by omega
    have hA2 := hA.to hc rfl
    have he3 := hls k (by omega)
    have hrun : ∀ Q : AV → Heap → Prop, (∀ rb H', HasW rb (envX (treL libL) libL) 0 k H4 H' → Q (.ptr rb 0) H') → Con Tryz.prog 9 [ensX libL, .i (c - 1)] H4 Q := fun Q h => by
      rw [hck]
      exact run13_con libL k (by omega) (by decide) (fun _ => h) (fun h => absurd lib_adds h)
    refine sem_seq (esc := fun _ => false) tab_ok mixed ?_
    refine ⟨_, LeL.refl _, lib_con _ _ ?_⟩
    intro hz1 hz2; clear hz1 hz2
    refine ⟨_, LeL.refl _, wUsed_con hA2 ?_⟩
    intro hz1 hz2; clear hz1 hz2
    refine ⟨in64_of (by first | omega | (dsimp only; omega)) (by first | omega | (dsimp only; omega)), ?_⟩
    refine ⟨_, LeL.refl _, hrun _ fun r3 H6 hH6 => ?_⟩
    rw [hte] at hH6
    replace hH6 : HasW r3 (envX te libL) 0 ((k : Nat) : Int) H4 H6 := hH6
    intro hz1 hz2; clear hz1 hz2
    refine sem_le ⟨[(3, .lp 3 0), (13, .g (.ptr r3 0))], [(3, (tmX t).cells)], H6⟩ ⟨⟨⟨rfl, rfl⟩, Le.refl _, trivial⟩, ⟨⟨rfl, LeL.refl _⟩, trivial⟩, List.Sublist.refl _⟩ ?_
    refine sem_seq (esc := fun _ => false) tab_ok mixed ?_
    have hs3 := fun (Q : AV → Heap → Prop) => wNfX_con (Q := Q) hp ha t (n := k) (by decide) (by omega) hH6
    obtain ⟨z, e3, n3, hz⟩ : ∃ x e n1, nfX libL t (k) = (x, e, n1) := ⟨_, _, _, rfl⟩
    rw [hz] at hs3 he3
    simp only at he3
    refine sem_seq (esc := fun _ => false) tab_ok mixed ?_
    refine ⟨_, LeL.refl _, hs3 _ fun H7 hH7 => ?_⟩
    intro hz1 hz2; clear hz1 hz2
    simp only at hH7
    refine sem_of (esc := fun _ => false) tab_ok mixed ?_
    refine ifB_t he3 ?_
    have hA7 := hH7.nest2 hA
    obtain ⟨H8, s8, w8⟩ := HasW.all (G := [_, _]) (X := H) hA7
    exact ⟨_, H8, Le.refl _, s8, H, w8, hq⟩
end Go.Proofs.YtahdkhklngjmoaaGreatDoor

