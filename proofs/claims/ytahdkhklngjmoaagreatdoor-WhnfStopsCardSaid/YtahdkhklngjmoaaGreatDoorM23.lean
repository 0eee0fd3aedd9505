/-
  Texts put together: I33, I35, I36, F9. No condition.
-/
import Derived.Test.YtahdkhklngjmoaaGreatDoorM22
import Derived.Test.YtahdkhklngjmoaaGreatDoorM8
/-
  Whnf, plain: a head's end has no step; a normal form is its own. No condition.
-/
namespace Go.Proofs.YtahdkhklngjmoaaGreatDoor
open Go.RowKit

theorem wDone_none {f : Fd × Nat} (h : (wDone f).1 = .none) : f.1 = .none := by
  unfold wDone at h
  split at h
  · cases h
  · rfl
  · cases h
  · split at h <;> cases h
/-- no step, or no tick to see it -/
def StepNo (l : List En) (t : Tm) : Prop := ∀ n, (wStep l t n).1 = .none ∨ (wStep l t n).1 = .err 22
theorem wStep_cmp (l : List En) {t : Tm} (ht : t.nodes ≤ 2000) (n : Nat) : CmpS (wStep l t n) (wStep l t (n + 1)) :=
  wDone_cmp (wFind_cmp fun a ha => wHd_cmp l (wTop a n) a n (Nat.le_refl _) (by have := tmArgs_nodes t a ha; omega))
theorem stepNo_of {l : List En} {t : Tm} (ht : t.nodes ≤ 2000) {n0 : Nat} (h : (wStep l t n0).1 = .none) : StepNo l t := by
  have up : ∀ m, (wStep l t (n0 + m)).1 = .none := fun m => by
    induction m with
    | zero => exact h
    | succ m ih =>
      rcases wStep_cmp l ht (n0 + m) with ⟨_, h2⟩ | ⟨h1, _⟩
      · rw [← Nat.add_assoc, h2]; exact ih
      · rw [h1] at ih; cases ih
  have down : ∀ m k, k + m = n0 → (wStep l t k).1 = .none ∨ (wStep l t k).1 = .err 22 := fun m => by
    induction m with
    | zero => intro k hk; rw [show k = n0 by omega]; exact Or.inl h
    | succ m ih =>
      intro k hk
      have := ih (k + 1) (by omega)
      rcases wStep_cmp l ht k with ⟨h1, h2⟩ | ⟨h1, _⟩
      · rw [h2] at this; exact this
      · exact Or.inr (by rw [h1])
  intro n
  rcases Nat.le_total n0 n with hn | hn
  · have := up (n - n0)
    rw [show n0 + (n - n0) = n by omega] at this
    exact Or.inl this
  · exact down (n0 - n) n (by omega)
theorem StepNo.hd {l : List En} {t : Tm} (h : StepNo l t) (n : Nat) : (∃ n', wHd l t n = (t, 0, n')) ∨ (wHd l t n).2.1 = 22 := by
  rw [wHd_eq]
  obtain ⟨⟨sp, k⟩, hs⟩ : ∃ s, wStep l t n = s := ⟨_, rfl⟩
  have := h n
  rw [hs] at this ⊢
  rcases this with h1 | h1
  · simp only at h1
    subst h1
    exact Or.inl ⟨k, rfl⟩
  · simp only at h1
    subst h1
    exact Or.inr rfl
/-- what a head ends in has no step -/
theorem hd_stops (l : List En) : ∀ (N : Nat) (t : Tm) (n : Nat), wTop t n ≤ N → t.nodes ≤ 2000 → ∀ w n', wHd l t n = (w, 0, n') → w.nodes ≤ 2000 ∧ ∃ n0, n0 ≤ n ∧ (wStep l w n0).1 = .none := by
  intro N
  induction N using Nat.strongRecOn with
  | ind N ih =>
  intro t n hN ht w n' h
  rw [wHd_eq] at h
  obtain ⟨⟨sp, k⟩, hs⟩ : ∃ s, wStep l t n = s := ⟨_, rfl⟩
  rw [hs] at h
  cases sp with
  | err e => 
    simp only [Prod.mk.injEq] at h
    exact absurd h.2.1 (wStep_err (l := l) (hd := wHd l) (t := t) (n := n) hs)
  | none =>
    simp only [Prod.mk.injEq] at h
    obtain ⟨rfl, _, _⟩ := h
    exact ⟨ht, n, Nat.le_refl _, by rw [hs]⟩
  | to c u =>
    obtain ⟨j1, j2, j3⟩ := wStep_to hs
    obtain ⟨k1, n0, k2, k3⟩ := ih (wTop u k) (by omega) u k (Nat.le_refl _) j2 w n' h
    exact ⟨k1, n0, by omega, k3⟩
theorem hd_stepNo {l : List En} {t : Tm} (ht : t.nodes ≤ 2000) {n : Nat} {w : Tm} {n' : Nat} (h : wHd l t n = (w, 0, n')) : w.nodes ≤ 2000 ∧ StepNo l w := by
  obtain ⟨h1, n0, _, h2⟩ := hd_stops l (wTop t n) t n (Nat.le_refl _) ht w n' h
  exact ⟨h1, stepNo_of h1 h2⟩
/-- a head comes to the same whatever ticks there are -/
theorem hd_same {l : List En} {t : Tm} (ht : t.nodes ≤ 2000) {n m : Nat} {w u : Tm} {n' m' : Nat} (h : wHd l t n = (w, 0, n')) (k : wHd l t m = (u, 0, m')) : w = u := by
  have up : ∀ d n w n', wHd l t n = (w, 0, n') → ∃ k', wHd l t (n + d) = (w, 0, k') := fun d n w n' h => by
    induction d with
    | zero => exact ⟨n', h⟩
    | succ d ih =>
      obtain ⟨k', ih⟩ := ih
      rcases wHd_cmp l (wTop t (n + d)) t (n + d) (Nat.le_refl _) ht with ⟨_, h2⟩ | ⟨h1, _⟩
      · rw [ih] at h2
        exact ⟨k' + 1, h2⟩
      · rw [ih] at h1; cases h1
  rcases Nat.le_total n m with hn | hn
  · obtain ⟨k', h⟩ := up (m - n) n w n' h
    rw [show n + (m - n) = m by omega, k] at h
    cases h; rfl
  · obtain ⟨k', k⟩ := up (n - m) m u m' k
    rw [show m + (n - m) = n by omega, h] at k
    cases k; rfl
theorem hd_err (l : List En) : ∀ (N : Nat) (t : Tm) (n : Nat), wTop t n ≤ N → (wHd l t n).2.1 = 0 ∨ (wHd l t n).2.1 = 22 ∨ (wHd l t n).2.1 = 15 := by
  intro N
  induction N using Nat.strongRecOn with
  | ind N ih =>
  intro t n hN
  have hi : ∀ c e, ∀ er, (wIota l (wHd l) c e (tmArgs t) n).1 = .err er → er = 22 ∨ er = 15 := fun c e er h => by
    unfold wIota at h
    simp only at h
    cases hm : (tmArgs t)[e.fixed.toNat + 1 + e.ctors.length + e.index.toNat]? with
    | none => rw [hm] at h; cases h
    | some a =>
      rw [hm] at h
      have := ih (wTop a n) (by
        have := tmArgs_nodes t a (List.mem_of_getElem? hm)
        unfold wTop at hN ⊢
        omega) a n (Nat.le_refl _)
      obtain ⟨x, er', n', hx⟩ : ∃ x er' n', wHd l a n = (x, er', n') := ⟨_, _, _, rfl⟩
      rw [hx] at this
      simp only [hx] at h this
      by_cases h0 : er' = 0
      · rw [if_pos h0] at h
        cases hc : wCtor l e.ctors x with
        | none => rw [hc] at h; cases h
        | some ce => rw [hc] at h; unfold wRule at h; cases h
      · rw [if_neg h0] at h
        cases h
        exact this.resolve_left h0
  have hf : ∀ er, (wFind l (wHd l) t n).1 = .err er → er = 22 ∨ er = 15 := fun er h => by
    unfold wFind at h
    split at h
    · cases h
    · cases h
    · unfold wConst at h
      split at h
      · split at h
        · cases h
        · split at h
          · exact hi _ _ _ h
          · cases h
      · cases h
    · cases h
  rw [wHd_eq]
  obtain ⟨⟨sp, k⟩, hs⟩ : ∃ s, wStep l t n = s := ⟨_, rfl⟩
  rw [hs]
  cases sp with
  | none => exact Or.inl rfl
  | to c u =>
    obtain ⟨j1, j2, j3⟩ := wStep_to hs
    exact ih (wTop u k) (by omega) u k (Nat.le_refl _)
  | err e =>
    right
    simp only
    unfold wStep wDone at hs
    split at hs
    · rename_i er n' he
      have := hf er (by rw [he])
      cases hs
      exact this
    · cases hs
    · cases hs; exact Or.inl rfl
    · split at hs
      · cases hs
      · cases hs; exact Or.inr rfl

/-! shapes -/
/-- what is found depends on the head and on the arguments -/
def wFd (l : List En) (hd : Tm → Nat → Tm × Int × Nat) (h : Tm) (ys : List Tm) (n : Nat) : Fd × Nat :=
  match h.kind, h.args, ys with
  | 5, [_, b], a :: ys => (.rx 1 (tmAps (bInst b [a]).1 ys) (bInst b [a]).2, n)
  | 7, [_, v, b], ys => (.rx 2 (tmAps (bInst b [v]).1 ys) (bInst b [v]).2, n)
  | 3, _, ys => wConst l hd h ys n
  | _, _, _ => (.none, n)
theorem wFd_eq (l : List En) (hd : Tm → Nat → Tm × Int × Nat) (t : Tm) (n : Nat) : wFind l hd t n = wFd l hd (tmHead t) (tmArgs t) n := rfl
theorem wFd_lam {l : List En} {hd : Tm → Nat → Tm × Int × Nat} {k m : Int} {nm : List UInt8} {ls : List Lv} {xs ys : List Tm} {n : Nat} (hk : k ≠ 3) : (wFd l hd (.mk k m nm ls xs) ys n).1 = .none ∨ (k = 5 ∧ xs.length = 2 ∧ ys ≠ [] ∧ (wFd l hd (.mk k m nm ls xs) ys n).1 ≠ .none) ∨ (k = 7 ∧ xs.length = 3 ∧ (wFd l hd (.mk k m nm ls xs) ys n).1 ≠ .none) := by
  unfold wFd
  split
  · rename_i h1 h2
    simp only [Tm.kind, Tm.args] at h1 h2
    exact Or.inr (Or.inl ⟨h1, by rw [h2]; rfl, by simp, nofun⟩)
  · rename_i h1 h2
    simp only [Tm.kind, Tm.args] at h1 h2
    exact Or.inr (Or.inr ⟨h1, by rw [h2]; rfl, nofun⟩)
  · rename_i h1
    exact absurd h1 hk
  · exact Or.inl rfl
theorem wFd_const {l : List En} {hd : Tm → Nat → Tm × Int × Nat} {m : Int} {nm : List UInt8} {ls : List Lv} {xs ys : List Tm} {n : Nat} : wFd l hd (.mk 3 m nm ls xs) ys n = wConst l hd (.mk 3 m nm ls xs) ys n := rfl
/-- the head is no application of two -/
theorem head_stop : ∀ t : Tm, ¬((tmHead t).kind = 4 ∧ (tmHead t).args.length = 2)
  | .mk k n nm ls xs => by
    match xs with
    | [] => exact fun h => absurd (show (0 : Nat) = 2 from h.2) (by decide)
    | [_] => exact fun h => absurd (show (1 : Nat) = 2 from h.2) (by decide)
    | [f, b] =>
      unfold tmHead
      simp only
      by_cases hk : k = 4
      · rw [if_pos hk]
        exact head_stop f
      · rw [if_neg hk]
        exact fun h => hk h.1
    | _ :: _ :: _ :: r => exact fun h => absurd (show r.length + 1 + 1 + 1 = 2 from h.2) (by omega)
theorem wCtor_shape {l : List En} {of : List (List UInt8)} {x y : Tm} (hk : (tmHead y).kind = (tmHead x).kind) (hn : (tmHead y).name = (tmHead x).name) (ha : (tmArgs y).length = (tmArgs x).length) : wCtor l of y = wCtor l of x := by
  unfold wCtor
  rw [hk, hn, ha]
/-- like a term: head and number of arguments -/
structure Like (u w : Tm) : Prop where
  kind : (tmHead u).kind = (tmHead w).kind
  n : (tmHead u).n = (tmHead w).n
  name : (tmHead u).name = (tmHead w).name
  levels : (tmHead u).levels = (tmHead w).levels
  parts : (tmHead u).args.length = (tmHead w).args.length
  args : (tmArgs u).length = (tmArgs w).length
/-- what becomes of each part -/
theorem wEach_get {f : Tm → Nat → Tm × Int × Nat} (hk : Keeps f) : ∀ (ts : List Tm) (n : Nat) (us : List Tm) (n' : Nat), wEach f ts n = (us, 0, n') → us.length = ts.length ∧ ∀ (i : Nat) (u : Tm), us[i]? = some u → ∃ t, ts[i]? = some t ∧ ∃ m m', m ≤ n ∧ f t m = (u, 0, m')
  | [], n, us, n', h => by
    cases h
    exact ⟨rfl, fun i u h => by simp at h⟩
  | t :: ts, n, us, n', h => by
    rw [wEach] at h
    obtain ⟨u, e, n1, he⟩ : ∃ u e n1, f t n = (u, e, n1) := ⟨_, _, _, rfl⟩
    have hl := hk t n
    rw [he] at h hl
    simp only at h hl
    by_cases h0 : e = 0
    · rw [if_pos h0] at h
      obtain ⟨vs, e2, n2, he2⟩ : ∃ vs e2 n2, wEach f ts n1 = (vs, e2, n2) := ⟨_, _, _, rfl⟩
      rw [he2] at h
      simp only at h
      cases h
      obtain ⟨k1, k2⟩ := wEach_get hk ts n1 vs n' he2
      refine ⟨by rw [List.length_cons, List.length_cons, k1], fun i x hx => ?_⟩
      cases i with
      | zero =>
        simp only [List.getElem?_cons_zero, Option.some.injEq] at hx
        subst hx
        exact ⟨t, rfl, n, n1, Nat.le_refl _, by rw [he, h0]⟩
      | succ i =>
        simp only [List.getElem?_cons_succ] at hx
        obtain ⟨t', k3, m, m', k4, k5⟩ := k2 i x hx
        exact ⟨t', by simpa using k3, m, m', by omega, k5⟩
    · rw [if_neg h0] at h
      cases h
      exact absurd rfl h0
/-- its own normal form, or no tick to see it -/
def NfOwn (l : List En) (u : Tm) : Prop := ∀ n, (∃ n', wNf l u n = (u, 0, n')) ∨ (wNf l u n).2.1 = 22
theorem wEach_own {l : List En} : ∀ (ts : List Tm), (∀ t ∈ ts, NfOwn l t) → ∀ n, (∃ n', wEach (wNf l) ts n = (ts, 0, n')) ∨ (wEach (wNf l) ts n).2.1 = 22
  | [], _, n => Or.inl ⟨n, rfl⟩
  | t :: ts, h, n => by
    rw [wEach]
    rcases h t (by simp) n with ⟨n', h1⟩ | h1
    · rw [h1]
      simp only [if_true]
      rcases wEach_own ts (fun t ht => h t (by simp [ht])) n' with ⟨n2, h2⟩ | h2
      · rw [h2]
        exact Or.inl ⟨n2, rfl⟩
      · exact Or.inr h2
    · obtain ⟨u, e, n', he⟩ : ∃ u e n', wNf l t n = (u, e, n') := ⟨_, _, _, rfl⟩
      rw [he] at h1 ⊢
      simp only at h1
      subst h1
      exact Or.inr rfl
theorem fitL_of {p k : Int} : ∀ {ts us : List Tm} {i : Nat} {v : Int}, tmFitL p k ts i v = true → us.length = ts.length → (∀ (j : Nat) (u : Tm), us[j]? = some u → ∃ t, ts[j]? = some t ∧ ∀ v, 0 ≤ v → tmFit p t v = true → tmFit p u v = true) → 0 ≤ v → tmFitL p k us i v = true
  | [], [], _, _, _, _, _, _ => rfl
  | [], _ :: _, _, _, _, hl, _, _ => by simp at hl
  | _ :: _, [], _, _, _, hl, _, _ => by simp at hl
  | t :: ts, u :: us, i, v, h, hl, hc, hv => by
    obtain ⟨h1, h2⟩ := fitL_cons h
    obtain ⟨t', k1, k2⟩ := hc 0 u rfl
    simp only [List.getElem?_cons_zero, Option.some.injEq] at k1
    subst k1
    rw [tmFitL, k2 _ (by split <;> omega) h1, fitL_of h2 (by simpa using hl) (fun j x hx => by
      have := hc (j + 1) x (by simpa using hx)
      simpa using this) hv]
    rfl
set_option maxHeartbeats 1000000 in
/-- a normal form: like the head's end, without a step, its own -/
theorem nf_own {l : List En} (hal : AllRight l) : ∀ (N : Nat) (t : Tm) (n : Nat), wTop t n ≤ N → t.nodes ≤ 2000 → ∀ u n', wNf l t n = (u, 0, n') → u.nodes ≤ 2000 ∧ StepNo l u ∧ NfOwn l u ∧ (∃ w n1, wHd l t n = (w, 0, n1) ∧ Like u w) ∧ ∀ v, 0 ≤ v → tmFit 4 t v = true → tmFit 4 u v = true := by
  intro N
  induction N using Nat.strongRecOn with
  | ind N ih =>
  intro t n hN ht u n' h
  rw [wNf_eq] at h
  obtain ⟨w, e, n1, hw⟩ : ∃ w e n1, wHd l t n = (w, e, n1) := ⟨_, _, _, rfl⟩
  rw [hw] at h
  simp only at h
  by_cases h0 : e = 0
  rotate_left
  · rw [if_neg h0] at h
    cases h
    exact absurd rfl h0
  subst h0
  rw [if_pos rfl] at h
  obtain ⟨hwn, hws⟩ := hd_stepNo ht hw
  obtain ⟨xs, e2, n2, hxs⟩ : ∃ xs e2 n2, wEach (wNf l) (tmHead w).args n1 = (xs, e2, n2) := ⟨_, _, _, rfl⟩
  rw [hxs] at h
  simp only at h
  by_cases h0 : e2 = 0
  rotate_left
  · rw [if_neg h0] at h
    cases h
    exact absurd rfl h0
  subst h0
  rw [if_pos rfl] at h
  obtain ⟨ys, e3, n3, hys⟩ : ∃ ys e3 n3, wEach (wNf l) (tmArgs w) n2 = (ys, e3, n3) := ⟨_, _, _, rfl⟩
  rw [hys] at h
  simp only at h
  by_cases h0 : e3 = 0
  rotate_left
  · rw [if_neg h0] at h
    cases h
    exact absurd rfl h0
  subst h0
  rw [if_pos rfl] at h
  obtain ⟨hx1, hx2⟩ := wEach_get (wNf_left l) _ _ _ _ hxs
  obtain ⟨hy1, hy2⟩ := wEach_get (wNf_left l) _ _ _ _ hys
  have hn2 : n2 ≤ n1 := by
    have := wEach_left (wNf_left l) (tmHead w).args n1
    rw [hxs] at this
    exact this
  -- the parts
  have px : ∀ (i : Nat) (x : Tm), xs[i]? = some x → ∃ a, (tmHead w).args[i]? = some a ∧ StepNo l x ∧ NfOwn l x ∧ ∀ v, 0 ≤ v → tmFit 4 a v = true → tmFit 4 x v = true := fun i x hx => by
    obtain ⟨a, k1, m, m', k2, k3⟩ := hx2 i x hx
    have hm := List.mem_of_getElem? k1
    obtain ⟨p1, p2⟩ := part_top hw (Or.inl hm) k2
    obtain ⟨_, q2, q3, _, q5⟩ := ih (wTop a m) (by omega) a m (Nat.le_refl _) (by omega) x m' k3
    exact ⟨a, k1, q2, q3, q5⟩
  have py : ∀ (i : Nat) (y : Tm), ys[i]? = some y → ∃ a, (tmArgs w)[i]? = some a ∧ StepNo l y ∧ NfOwn l y ∧ (∃ m z n', wHd l a m = (z, 0, n') ∧ Like y z) ∧ ∀ v, 0 ≤ v → tmFit 4 a v = true → tmFit 4 y v = true := fun i y hy => by
    obtain ⟨a, k1, m, m', k2, k3⟩ := hy2 i y hy
    have hm := List.mem_of_getElem? k1
    obtain ⟨p1, p2⟩ := part_top hw (Or.inr hm) (Nat.le_trans k2 hn2)
    obtain ⟨_, q2, q3, ⟨z, n4, q4, q6⟩, q5⟩ := ih (wTop a m) (by omega) a m (Nat.le_refl _) (by omega) y m' k3
    exact ⟨a, k1, q2, q3, ⟨m, z, n4, q4, q6⟩, q5⟩
  unfold wBuild at h
  obtain ⟨hd, hhd⟩ : ∃ hd, tmHead w = hd := ⟨_, rfl⟩
  have hst := head_stop w
  rw [hhd] at h hx1 px hst
  obtain ⟨kk, nn, nm, ls, asx⟩ := hd
  simp only [Tm.kind, Tm.n, Tm.name, Tm.levels, Tm.args] at h hx1 px hst
  replace h : (if (tmAps (.mk kk nn nm ls xs) ys).nodes ≤ 2000 then (tmAps (.mk kk nn nm ls xs) ys, (0 : Int), n3) else (tm0, 15, n3)) = (u, 0, n') := h
  by_cases hnd : (tmAps (.mk kk nn nm ls xs) ys).nodes ≤ 2000
  rotate_left
  · rw [if_neg hnd] at h
    cases h
  rw [if_pos hnd] at h
  simp only [Prod.mk.injEq] at h
  obtain ⟨hu, _, _⟩ := h
  have hstop : ¬((Tm.mk kk nn nm ls xs).kind = 4 ∧ (Tm.mk kk nn nm ls xs).args.length = 2) := fun h => hst ⟨h.1, by rw [← hx1]; exact h.2⟩
  have e1 : tmHead u = .mk kk nn nm ls xs := by rw [← hu, (app_spine ys _).1, (spine_stop hstop).1]
  have e2 : tmArgs u = ys := by rw [← hu, (app_spine ys _).2, (spine_stop hstop).2, List.nil_append]
  have hun : u.nodes ≤ 2000 := by rw [← hu]; exact hnd
  have hlike : Like u w := by
    refine ⟨?_, ?_, ?_, ?_, ?_, ?_⟩
    all_goals first
      | (rw [e1, hhd]; first | rfl | exact hx1)
      | (rw [e2]; exact hy1)
  have hsn : StepNo l u := by
    have hw0 := hws n
    intro m
    suffices hh : (wFind l (wHd l) u m).1 = .none ∨ (wFind l (wHd l) u m).1 = .err 22 by
      obtain ⟨⟨fd, k⟩, hf⟩ : ∃ f, wFind l (wHd l) u m = f := ⟨_, rfl⟩
      unfold wStep
      rw [hf] at hh ⊢
      rcases hh with hh | hh
      · simp only at hh
        subst hh
        exact Or.inl rfl
      · simp only at hh
        subst hh
        exact Or.inr rfl
    obtain ⟨_, n0, _, hn0⟩ := hd_stops l (wTop t n) t n (Nat.le_refl _) ht w n1 hw
    have hfw := wDone_none hn0
    rw [wFd_eq, hhd] at hfw
    rw [wFd_eq, e1, e2]
    by_cases hk : kk = 3
    · subst hk
      have hwc : ∀ xs ys n, wConst l (wHd l) (.mk 3 nn nm ls xs) ys n = (if (envGet l nm).2 = true ∧ (ls.length : Int) = (envGet l nm).1.params then (if (envGet l nm).1.kind = 2 then (.rx 3 (tmAps (enValue (envGet l nm).1 ls).1 ys) (decide ((enValue (envGet l nm).1 ls).2 = 0)), n) else if (envGet l nm).1.kind = 7 then wIota l (wHd l) (.mk 3 nn nm ls xs) (envGet l nm).1 ys n else (.none, n)) else (.none, n)) := fun _ _ _ => rfl
      rw [wFd_const, hwc] at hfw ⊢
      by_cases hc : (envGet l nm).2 = true ∧ (ls.length : Int) = (envGet l nm).1.params
      rotate_left
      · simp only [if_neg hc]
        exact Or.inl trivial
      simp only [if_pos hc] at hfw ⊢
      by_cases hc2 : (envGet l nm).1.kind = 2
      · simp only [if_pos hc2] at hfw
        cases hfw
      simp only [if_neg hc2] at hfw ⊢
      by_cases hc3 : (envGet l nm).1.kind = 7
      rotate_left
      · simp only [if_neg hc3]
        exact Or.inl trivial
      simp only [if_pos hc3] at hfw ⊢
      unfold wIota at hfw ⊢
      simp only at hfw ⊢
      cases hy : ys[(envGet l nm).1.fixed.toNat + 1 + (envGet l nm).1.ctors.length + (envGet l nm).1.index.toNat]? with
      | none => exact Or.inl rfl
      | some y =>
        obtain ⟨a, k1, k2, _, ⟨m1, z, n4, k4, k5⟩, _⟩ := py _ y hy
        rw [k1] at hfw
        simp only at hfw ⊢
        have han : a.nodes ≤ 2000 := by
          have := tmArgs_nodes w a (List.mem_of_getElem? k1)
          omega
        rcases k2.hd m with ⟨m', k6⟩ | k6
        · rw [k6]
          simp only [if_true]
          obtain ⟨x, er, n5, hx⟩ : ∃ x er n5, wHd l a n0 = (x, er, n5) := ⟨_, _, _, rfl⟩
          rw [hx] at hfw
          simp only at hfw
          by_cases h0 : er = 0
          rotate_left
          · rw [if_neg h0] at hfw
            cases hfw
          subst h0
          rw [if_pos rfl] at hfw
          have := hd_same han hx k4
          subst this
          rw [wCtor_shape k5.kind k5.name k5.args]
          cases hc : wCtor l (envGet l nm).1.ctors x with
          | none => exact Or.inl rfl
          | some ce =>
            rw [hc] at hfw
            simp only at hfw
            unfold wRule at hfw
            cases hfw
        · obtain ⟨x, er, n5, hx⟩ : ∃ x er n5, wHd l y m = (x, er, n5) := ⟨_, _, _, rfl⟩
          rw [hx] at k6 ⊢
          simp only at k6
          subst k6
          simp only
          rw [if_neg (by decide)]
          exact Or.inr rfl
    · rcases wFd_lam (l := l) (hd := wHd l) (m := nn) (nm := nm) (ls := ls) (xs := xs) (ys := ys) (n := m) hk with h1 | ⟨h1, h2, h3, _⟩ | ⟨h1, h2, _⟩
      · exact Or.inl h1
      · exfalso
        rcases wFd_lam (l := l) (hd := wHd l) (m := nn) (nm := nm) (ls := ls) (xs := asx) (ys := tmArgs w) (n := n0) hk with g1 | ⟨_, _, _, g1⟩ | ⟨_, _, g1⟩
        · subst h1
          match asx, hx1 with
          | [a1, a2], _ =>
            match hya : tmArgs w with
            | [] => rw [hya] at hy1; exact h3 (List.eq_nil_of_length_eq_zero hy1)
            | b :: bs =>
              rw [hya] at g1
              unfold wFd at g1
              simp [Tm.kind, Tm.args] at g1
          | [], h => rw [h2] at h; simp at h
          | [_], h => rw [h2] at h; simp at h
          | _ :: _ :: _ :: _, h => rw [h2] at h; simp at h
        · exact g1 hfw
        · exact g1 hfw
      · exfalso
        rcases wFd_lam (l := l) (hd := wHd l) (m := nn) (nm := nm) (ls := ls) (xs := asx) (ys := tmArgs w) (n := n0) hk with g1 | ⟨_, _, _, g1⟩ | ⟨_, _, g1⟩
        · subst h1
          match asx, hx1 with
          | [a1, a2, a3], _ =>
            unfold wFd at g1
            simp [Tm.kind, Tm.args] at g1
          | [], h => rw [h2] at h; simp at h
          | [_], h => rw [h2] at h; simp at h
          | [_, _], h => rw [h2] at h; simp at h
          | _ :: _ :: _ :: _ :: _, h => rw [h2] at h; simp at h
        · exact g1 hfw
        · exact g1 hfw
  refine ⟨hun, hsn, ?_, ⟨w, n1, hw, hlike⟩, ?_⟩
  · intro m
    rw [wNf_eq]
    rcases hsn.hd m with ⟨m', h1⟩ | h1
    · rcases wEach_own xs (fun x hx => by
        obtain ⟨i, hi, rfl⟩ := List.getElem_of_mem hx
        obtain ⟨_, _, _, k, _⟩ := px i _ (List.getElem?_eq_getElem hi)
        exact k) m' with ⟨m2, h2⟩ | h2
      · rcases wEach_own ys (fun y hy => by
          obtain ⟨i, hi, rfl⟩ := List.getElem_of_mem hy
          obtain ⟨_, _, _, k, _⟩ := py i _ (List.getElem?_eq_getElem hi)
          exact k) m2 with ⟨m3, h3⟩ | h3
        · simp only [h1, e1, e2, Tm.args, h2, h3, if_true]
          have hwb : wBuild (.mk kk nn nm ls xs) xs ys m3 = (u, 0, m3) := by
            show (if (tmAps (.mk kk nn nm ls xs) ys).nodes ≤ 2000 then (tmAps (.mk kk nn nm ls xs) ys, (0 : Int), m3) else (tm0, 15, m3)) = _
            rw [if_pos hnd, hu]
          exact Or.inl ⟨m3, hwb⟩
        · obtain ⟨x, er, n5, hx⟩ : ∃ x er n5, wEach (wNf l) ys m2 = (x, er, n5) := ⟨_, _, _, rfl⟩
          rw [hx] at h3
          simp only at h3
          subst h3
          simp only [h1, e1, e2, Tm.args, h2, hx, if_true]
          exact Or.inr rfl
      · obtain ⟨x, er, n5, hx⟩ : ∃ x er n5, wEach (wNf l) xs m' = (x, er, n5) := ⟨_, _, _, rfl⟩
        rw [hx] at h2
        simp only at h2
        subst h2
        simp only [h1, e1, e2, Tm.args, hx, if_true]
        exact Or.inr rfl
    · obtain ⟨x, er, n5, hx⟩ : ∃ x er n5, wHd l u m = (x, er, n5) := ⟨_, _, _, rfl⟩
      rw [hx] at h1
      simp only at h1
      subst h1
      simp only [hx]
      exact Or.inr rfl
  · intro v hv hfit
    have hwf : tmFit 4 w v = true := by
      have := wHd_fit hal hv t n hfit (by rw [hw])
      rw [hw] at this
      exact this
    rw [← hu]
    have hh := fit_head w hwf
    rw [hhd] at hh
    refine app_fit ys _ ?_ fun y hy => ?_
    · by_cases hk : kk = 1
      · obtain ⟨_, _, _, _, has⟩ := fit_var hh hk
        subst has
        rw [List.eq_nil_of_length_eq_zero hx1]
        exact hh
      · refine fit_mk hh hk hx1 (fitL_of (fit_args hh) hx1 (fun j x hx => ?_) hv)
        obtain ⟨a, k1, _, _, k2⟩ := px j x hx
        exact ⟨a, k1, k2⟩
    · obtain ⟨i, hi, rfl⟩ := List.getElem_of_mem hy
      obtain ⟨a, k1, _, _, _, k2⟩ := py i _ (List.getElem?_eq_getElem hi)
      exact k2 v hv (fit_spine w hwf a (List.mem_of_getElem? k1))
end Go.Proofs.YtahdkhklngjmoaaGreatDoor

/-
  Whnf: the reference's entries in a list: Get, Add. No condition.
-/
namespace Go.Proofs.YtahdkhklngjmoaaGreatDoor
open Go.RowKit

theorem envGet_at {l : List En} {x : List UInt8} {j : Nat} (hj : j < l.length) (hx : (l[j]).name = x) (h : ∀ k (hk : k < l.length), k < j → (l[k]).name ≠ x) : envGet l x = (l[j], true) := by
  unfold envGet
  have : l.find? (fun e => decide (e.name = x)) = some l[j] := by
    rw [List.find?_eq_some_iff_getElem]
    refine ⟨decide_eq_true hx, j, hj, rfl, fun k hk => ?_⟩
    have := h k (by omega) hk
    simp [this]
  rw [this]
set_option maxRecDepth 100000 in
set_option maxHeartbeats 1000000 in
theorem get12_con (o : Own) (l : List En) (x : List UInt8) : Ans Tryz.prog 46 [.sl o 19 (l.map enX), .str x] (.tup [enX (envGet l x).1, .b (envGet l x).2]) := by
  intro H Q hq
  have hel := ens_len l
  refine con_of_awp (esc := fun _ => false) tab_ok mixed Tryz.func46 rfl (ent Tryz.func46 (by kernel_rfl) rfl) (by kernel_rfl) ?_
  intro hw hn
  have hlen := (hw (.sl o 19 (l.map enX)) (by simp)).len
  clear hw hn
  rw [hel] at hlen
  refine ⟨Nat, fun j => ⟨[(0, .g (.sl o 19 (l.map enX))), (1, .g (.str x)), (4, .lp 4 0), (5, .g (.b false)), (6, .g (.i j))], [(4, [.i 0, .i 0, .str [], .i 0, .i 0, .str [], .sl .full 0 [], .sl .full 0 [], .i 0, .i 0, .str [], .sl .full 0 [], .sl .full 0 [], .i 0, .str [], .i 0, .i 0, .i 0, .sl .full 0 []])], H⟩, fun j => j ≤ l.length ∧ ∀ k (hk : k < l.length), k < j → (l[k]).name ≠ x, fun j => l.length - j, ⟨0, ⟨Nat.zero_le _, fun k hk h => absurd h (Nat.not_lt_zero _)⟩, ?_⟩, ?_⟩
  · exact ⟨⟨Le.refl _, Le.refl _, ⟨rfl, rfl⟩, Le.refl _, Le.refl _, trivial⟩, ⟨⟨rfl, LeL.refl _⟩, trivial⟩, List.Sublist.refl _⟩
  · rintro j ⟨hj, hx⟩
    refine ifB_dec (fun h1 => ?_) (fun h1 => ?_)
    · simp only [List.length_map] at h1
      have hlt : j < l.length := by omega
      refine ⟨j, rfl, _, enAt' hlt, ?_⟩
      refine ifB_dec (fun h2 => ?_) (fun h2 => ?_)
      · rw [envGet_at hlt h2 hx] at hq
        refine ⟨j, rfl, _, enAt' hlt, ?_⟩
        exact ⟨_, H, Le.refl _, List.Sublist.refl _, hq⟩
      · refine ⟨in64_of (by first | omega | (dsimp only; omega)) (by first | omega | (dsimp only; omega)), ?_⟩
        refine ⟨j + 1, ⟨by omega, fun k hk hkj => ?_⟩, by (try dsimp only); omega, ⟨⟨Le.refl _, Le.refl _, ⟨rfl, rfl⟩, Le.refl _, Le.refl _, trivial⟩, ⟨⟨rfl, LeL.refl _⟩, trivial⟩, List.Sublist.refl _⟩⟩
        by_cases hke : k = j
        · subst hke; exact h2
        · exact hx k hk (by omega)
    · simp only [List.length_map] at h1
      rw [envGet_no (fun e he => by
        obtain ⟨k, hk, rfl⟩ := List.getElem_of_mem he
        exact hx k hk (by omega))] at hq
      have hfin : Le (.tup [.agg [.i 0, .i 0, .str [], .i 0, .i 0, .str [], .sl .full 0 [], .sl .full 0 [], .i 0, .i 0, .str [], .sl .full 0 [], .sl .full 0 [], .i 0, .str [], .i 0, .i 0, .i 0, .sl .full 0 []], .b false]) (.tup [enX en0, .b false]) := Le.tup ⟨le_en0, Le.refl _, trivial⟩
      exact ⟨_, H, hfin, List.Sublist.refl _, hq⟩
theorem get_has (l : List En) (x : List UInt8) : (envGet l x).2 = l.any fun d => decide (d.name = x) := by
  unfold envGet
  cases h : l.find? fun e => decide (e.name = x) with
  | none =>
    have := List.find?_eq_none.1 h
    symm
    rw [List.any_eq_false]
    exact this
  | some e =>
    symm
    exact List.any_eq_true.2 ⟨e, List.mem_of_find?_eq_some h, List.find?_some (p := fun e : En => decide (e.name = x)) h⟩
set_option maxRecDepth 100000 in
set_option maxHeartbeats 1000000 in
theorem add12_con (o : Own) (l : List En) (hl : l.length ≤ 100000) (H : Heap) (Q : AV → Heap → Prop) (hq : ∀ x, Q (.tup [x, .i (addAll [] l)]) H) : Con Tryz.prog 17 [.sl .full 0 [], .sl o 19 (l.map enX)] H Q := by
  have hel := ens_len l
  refine con_of_awp (esc := fun _ => false) tab_ok mixed Tryz.func17 rfl (ent Tryz.func17 (by kernel_rfl) rfl) (by kernel_rfl) ?_
  intro hw hn
  clear hw hn
  refine ⟨by refine Or.inl ?_; show (0 + 0) * (264 + 1) ≤ _; decide, ?_⟩
  refine ⟨Option Cap × Nat, fun p => ⟨[(1, .g (.sl o 19 (l.map enX))), (4, .g (.sl .full 0 [])), (5, .g (.i 0)), (6, .g (.sl (ownQ p.1) 19 ((l.take p.2).map enX))), (7, .g (.i p.2))], [], bufH p.1 H⟩, fun p => p.2 ≤ l.length ∧ addAll [] (l.take p.2) = 0, fun p => l.length - p.2, ⟨(none, 0), ⟨Nat.zero_le _, by rw [List.take_zero, addAll]⟩, ?_⟩, ?_⟩
  · exact ⟨⟨Le.refl _, Le.refl _, Le.refl _, Le.refl _, Le.refl _, trivial⟩, trivial, List.Sublist.refl _⟩
  · rintro ⟨q, j⟩ ⟨hj, h0⟩
    simp only at hj h0
    refine ifB_dec (fun h1 => ?_) (fun h1 => ?_)
    · simp only [List.length_map] at h1
      have hlt : j < l.length := by omega
      have hat := addAll_at hlt h0
      rw [List.nil_append] at hat
      have stop : ∀ c : Int, c ≠ 0 → addOne (l.take j) l[j] = c → ∃ r H', Le (.tup [.sl .full 0 [], .i c]) r ∧ List.Sublist H' (bufH q H) ∧ Q r H' := fun c hc he => by
        have hst : addAll [] l = c := by rw [addAll_stop (k := j + 1) (by rw [hat, he]; exact hc), hat, he]
        rw [hst] at hq
        exact ⟨_, H, Le.refl _, bufH_sub q H, hq _⟩
      obtain ⟨e, he⟩ : ∃ e, l[j] = e := ⟨_, rfl⟩
      have hget : (l.map enX)[j]? = some (enX e) := by rw [← he]; exact enAt' hlt
      rw [he] at hat stop
      refine ⟨j, rfl, _, hget, ?_⟩
      cases hr : enRight e with
      | false =>
        refine ⟨_, LeL.refl _, (ref11Right_con e).as hr _ _ ?_⟩
        intro hz1 hz2; clear hz1 hz2
        exact stop 10 (by decide) (addOne_form hr)
      | true =>
        refine ⟨_, LeL.refl _, (ref11Right_con e).as hr _ _ ?_⟩
        intro hz1 hz2; clear hz1 hz2
        refine ⟨j, rfl, _, hget, ?_⟩
        have hg := get_has (l.take j) e.name
        cases ha : (l.take j).any fun d => decide (d.name = e.name) with
        | true =>
          rw [ha] at hg
          refine ⟨_, LeL.refl _, (get12_con _ (l.take j) e.name).to (congrArg (fun q : Bool => AV.tup [enX (envGet (l.take j) e.name).1, .b q]) hg) _ _ ?_⟩
          intro hz1 hz2; clear hz1 hz2
          exact stop 14 (by decide) (by unfold addOne; rw [if_pos hr, if_pos ha])
        | false =>
          rw [ha] at hg
          refine ⟨_, LeL.refl _, (get12_con _ (l.take j) e.name).to (congrArg (fun q : Bool => AV.tup [enX (envGet (l.take j) e.name).1, .b q]) hg) _ _ ?_⟩
          intro hz1 hz2; clear hz1 hz2
          refine ⟨j, rfl, _, hget, ?_⟩
          refine ⟨?_, ?_⟩
          · first | refine Or.inl ?_ | skip
            simp only [List.length_map, List.length_cons, List.length_nil]
            try simp only [List.length_take]
            show _ * (264 + 1) ≤ _
            omega
          refine own_of (q := q) (H0 := H) ?_ ?_ ?_ (fun c hc => ?_)
          · exact rfl
          · exact rfl
          · exact fun _ h => h
          have hsn : (l.take j).map enX ++ [enX e] = (l.take (j + 1)).map enX := by rw [List.take_succ_eq_append_getElem hlt, List.map_append, he]; rfl
          have hnext : Le (.sl (.own c) 19 ((l.take j).map enX ++ [enX e])) (.sl (ownQ (some c)) 19 ((l.take (j + 1)).map enX)) := by rw [hsn]; exact Le.refl _
          refine ⟨in64_of (by first | omega | (dsimp only; omega)) (by first | omega | (dsimp only; omega)), ?_⟩
          refine ⟨(some c, j + 1), ⟨(by simp only; omega), ?_⟩, by (try dsimp only); omega, ⟨⟨Le.refl _, Le.refl _, Le.refl _, hnext, Le.refl _, trivial⟩, trivial, List.Sublist.refl _⟩⟩
          rw [hat]
          unfold addOne
          rw [if_pos hr, if_neg (by rw [ha]; decide)]
    · simp only [List.length_map] at h1
      have hjl : j = l.length := by omega
      subst hjl
      rw [List.take_length] at h0
      rw [h0] at hq
      exact ⟨.tup [.sl (ownQ q) 19 ((l.take l.length).map enX), .i 0], H, Le.refl _, bufH_sub q H, hq _⟩
end Go.Proofs.YtahdkhklngjmoaaGreatDoor

/-
  Whnf: the law of stopping. The last argument has fewer than 2^47 - 4096 bytes, as every slice that is handed in.
-/
namespace Go.Proofs.YtahdkhklngjmoaaGreatDoor
open Go.RowKit

theorem loose_fit {t : Tm} (h : packOk t = true) (hl : ¬(549755813888 : Int) < (if tmRight 4 1125899906842624 t = true then tmLoose t 0 else 0)) : tmFit 4 t 549755813888 = true := by
  obtain ⟨h1, h2⟩ := packOk_fit0 h
  have h3 : tmRight 4 1125899906842624 t = true := by
    unfold tmRight
    simp only [Bool.and_eq_true, decide_eq_true_eq]
    exact ⟨⟨⟨⟨by decide, by decide⟩, by decide⟩, h1⟩, tmFit_mono 4 t 1099511627776 _ (by decide) h2⟩
  rw [if_pos h3] at hl
  have := (fit_loose (p := 4) (B := 1099511627776) t 0 549755813888 (by decide) (by decide)).2 ⟨by simpa using h2, by omega⟩
  simpa using this
theorem fit_pack {t : Tm} (hn : t.nodes ≤ 2000) (h : tmFit 4 t 549755813888 = true) : packOk t = true := by
  unfold packOk tmRight
  rw [near_fit t 4 549755813888 (by omega) h]
  simp only [Bool.and_eq_true, decide_eq_true_eq]
  exact ⟨⟨⟨⟨⟨by decide, by decide⟩, by decide⟩, hn⟩, tmFit_mono 4 t 549755813888 _ (by decide) h⟩, trivial⟩
theorem StepNo.step {l : List En} {t : Tm} (h : StepNo l t) (n : Nat) : ∃ k, wStep l t n = (.none, k) ∨ wStep l t n = (.err 22, k) := by
  obtain ⟨⟨sp, k⟩, hs⟩ : ∃ s, wStep l t n = s := ⟨_, rfl⟩
  have := h n
  rw [hs] at this ⊢
  refine ⟨k, ?_⟩
  rcases this with h1 | h1
  · simp only at h1; subst h1; exact Or.inl rfl
  · simp only at h1; subst h1; exact Or.inr rfl
theorem StepNo.head {l : List En} {t : Tm} (h : StepNo l t) (n : Nat) : ∃ u k, wHd l t n = (t, 0, k) ∨ wHd l t n = (u, 22, k) := by
  obtain ⟨u, e, k, hs⟩ : ∃ u e k, wHd l t n = (u, e, k) := ⟨_, _, _, rfl⟩
  rcases h.hd n with ⟨n', h1⟩ | h1
  · exact ⟨u, n', Or.inl h1⟩
  · rw [hs] at h1
    simp only at h1
    subst h1
    exact ⟨u, k, Or.inr hs⟩
theorem NfOwn.nf {l : List En} {t : Tm} (h : NfOwn l t) (n : Nat) : ∃ u k, wNf l t n = (t, 0, k) ∨ wNf l t n = (u, 22, k) := by
  obtain ⟨u, e, k, hs⟩ : ∃ u e k, wNf l t n = (u, e, k) := ⟨_, _, _, rfl⟩
  rcases h n with ⟨n', h1⟩ | h1
  · exact ⟨u, n', Or.inl h1⟩
  · rw [hs] at h1
    simp only at h1
    subst h1
    exact ⟨u, k, Or.inr hs⟩
set_option maxRecDepth 100000 in
set_option maxHeartbeats 4000000 in
theorem whnfStops_con (t : Tm) (more : List En) (hmo : more.length * 264 ≤ 140737488351232) : Ans Tryz.prog 4 [tmX t, ensX more] (.b true) := by
  intro H Q hq
  have hle7 : (libL.map enX).length = 7 := by kernel_rfl
  have hel := ens_len more
  refine Con.permR ?_
  refine con_of_sem tab_ok Tryz.func4 rfl (ent Tryz.func4 (by kernel_rfl) rfl) (by kernel_rfl) ?_
  intro hw hn
  clear hw hn
  refine sem_seq (esc := fun _ => false) tab_ok mixed ?_
  refine sem_seq (esc := fun _ => false) tab_ok mixed ?_
  refine ⟨_, LeL.refl _, alive13_con _ _ ?_⟩
  intro hz1 hz2; clear hz1 hz2
  refine sem_thenJ (X := Unit) (fun _ => ⟨[(2, .lp 2 0), (4, .g (.b false)), (5, .g (ensX (libL ++ more)))], [(2, (tmX t).cells)], H⟩) (fun _ => True) ?_ (fun _ _ => ?_)
  · refine sem_of (esc := fun _ => false) tab_ok mixed ?_
    refine ⟨_, LeL.refl _, lib_full_con _ _ ?_⟩
    intro hz1 hz2; clear hz1 hz2
    refine ⟨Or.inr ⟨by rw [hle7, hel]; show (7 + _) * 264 ≤ _; omega, by rw [hle7, hel]; omega⟩, ?_⟩
    refine ifNil_or (fun h => ?_) fun _ => ?_
    · have hm0 : more = [] := List.map_eq_nil_iff.1 h
      subst hm0
      have hle : Le (.sl .full 19 (libL.map enX)) (ensX (libL ++ [])) := Le.trans (Le.own _ _ _) (le_of_eq (by rw [List.append_nil]; rfl))
      exact ⟨(), trivial, ⟨⟨⟨rfl, rfl⟩, Le.refl _, hle, trivial⟩, ⟨⟨rfl, LeL.refl _⟩, trivial⟩, List.Sublist.refl _⟩⟩
    · intro c hc
      have hle : Le (.sl (.own c) 19 (libL.map enX ++ more.map enX)) (ensX (libL ++ more)) := Le.trans (Le.own _ _ _) (le_of_eq (by rw [ensX, List.map_append]))
      exact ⟨(), trivial, ⟨⟨⟨rfl, rfl⟩, Le.refl _, hle, trivial⟩, ⟨⟨rfl, LeL.refl _⟩, trivial⟩, List.sublist_cons_self _ _⟩⟩
  obtain ⟨L, hL⟩ : ∃ L, libL ++ more = L := ⟨_, rfl⟩
  rw [hL]
  clear hL hmo hel hle7
  refine sem_seq (esc := fun _ => false) tab_ok mixed ?_
  refine ⟨_, LeL.refl _, small13_con .no L t H _ fun q hs => ?_⟩
  intro hz1 hz2; clear hz1 hz2
  cases q with
  | false =>
    exact ⟨_, H, Le.refl _, List.Sublist.refl _, H, List.Perm.refl _, hq⟩
  | true =>
    obtain ⟨hLl, _⟩ := hs rfl
    refine ⟨_, LeL.refl _, ref04Loose_con t _ _ ?_⟩
    intro hz1 hz2; clear hz1 hz2
    refine ifB_dec (fun gl => ?_) (fun gl => ?_)
    · exact ⟨_, H, Le.refl _, List.Sublist.refl _, H, List.Perm.refl _, hq⟩
    refine sem_seq (esc := fun _ => false) tab_ok mixed ?_
    refine ⟨_, LeL.refl _, add12_con .no L (by omega) H _ fun xr => ?_⟩
    intro hz1 hz2; clear hz1 hz2
    obtain ⟨ad, had⟩ : ∃ ad, addAll [] L = ad := ⟨_, rfl⟩
    rw [had]
    refine sem_seq (esc := fun _ => false) tab_ok mixed ?_
    refine ifB_dec (fun g0 => ?_) (fun g0 => ?_)
    rotate_left
    · exact ⟨_, H, Le.refl _, List.Sublist.refl _, H, List.Perm.refl _, hq⟩
    subst g0
    obtain ⟨hp, ha⟩ := runs_ok had
    obtain ⟨te, hte⟩ : ∃ te, treL L = te := ⟨_, rfl⟩
    rw [hte] at hp
    refine sem_seq (esc := fun _ => false) tab_ok mixed ?_
    refine ⟨[ensX L, .i ((300 : Nat) : Int)], LeL.refl _, run13_con L 300 (by decide) (by omega) (fun _ r1 H1 hH1 => ?_) (fun h => absurd had h)⟩
    rw [hte] at hH1
    replace hH1 : HasW r1 (envX te L) 0 ((300 : Nat) : Int) H H1 := hH1
    intro hz1 hz2; clear hz1 hz2
    refine sem_le ⟨[(2, .lp 2 0), (4, .g (.b false)), (5, .g (ensX L)), (8, .g (.ptr r1 0))], [(2, (tmX t).cells)], H1⟩ ⟨⟨⟨rfl, rfl⟩, Le.refl _, Le.refl _, Le.refl _, trivial⟩, ⟨⟨rfl, LeL.refl _⟩, trivial⟩, List.Sublist.refl _⟩ ?_
    refine sem_seq (esc := fun _ => false) tab_ok mixed ?_
    refine sem_seq (esc := fun _ => false) tab_ok mixed ?_
    have fin1 : ∀ (r : Nat) (ev : AV) (u l : Int) (H2 : Heap), HasW r ev u l H H2 → ∃ r H', Le (.b true) r ∧ List.Sublist H' H2 ∧ ∃ H5 : Heap, H5.Perm H' ∧ Q r H5 := fun r ev u l H2 h => by
      obtain ⟨H5, s5, w5⟩ := HasW.all (G := []) (X := H) h
      exact ⟨_, H5, Le.refl _, s5, H, w5, hq⟩
    cases hpk : packOk t with
    | false =>
      refine ⟨_, LeL.refl _, wWhnf_con hp ha t (n := 300) (by decide) (by decide) hH1 (fun _ => ?_) (fun h => by rw [hpk] at h; cases h)⟩
      intro hz1 hz2; clear hz1 hz2
      refine sem_seq (esc := fun _ => false) tab_ok mixed ?_
      refine ⟨[tmX tm0, tmX tm0], ⟨Le.refl _, le_tm0, trivial⟩, (SameTerm_con _ _ _ (Nat.le_refl _)).as (sameT tm0) _ _ ?_⟩
      intro hz1 hz2; clear hz1 hz2
      exact fin1 _ _ _ _ _ hH1
    | true =>
      have htf := loose_fit hpk gl
      have htn := (packOk_fit0 hpk).1
      have hs1 := fun (Q : AV → Heap → Prop) => wWhnf_con (Q := Q) hp ha t (n := 300) (by decide) (by decide) hH1 (fun h => by rw [hpk] at h; cases h)
      have her := hd_err L (wTop t 300) t 300 (Nat.le_refl _)
      obtain ⟨w, e, n1, hwd⟩ : ∃ w e n1, wHd L t 300 = (w, e, n1) := ⟨_, _, _, rfl⟩
      rw [hwd] at hs1 her
      refine ⟨_, LeL.refl _, hs1 _ fun _ H2 hH2 => ?_⟩
      clear hs1
      intro hz1 hz2; clear hz1 hz2
      rcases her with he | he | he
      rotate_left
      · simp only at he
        subst he
        refine sem_seq (esc := fun _ => false) tab_ok mixed ?_
        refine ⟨[tmX tm0, tmX tm0], ⟨Le.refl _, le_tm0, trivial⟩, (SameTerm_con _ _ _ (Nat.le_refl _)).as (sameT tm0) _ _ ?_⟩
        intro hz1 hz2; clear hz1 hz2
        exact fin1 _ _ _ _ _ hH2
      · simp only at he
        subst he
        refine sem_seq (esc := fun _ => false) tab_ok mixed ?_
        refine ⟨[tmX tm0, tmX tm0], ⟨Le.refl _, le_tm0, trivial⟩, (SameTerm_con _ _ _ (Nat.le_refl _)).as (sameT tm0) _ _ ?_⟩
        intro hz1 hz2; clear hz1 hz2
        exact fin1 _ _ _ _ _ hH2
      simp only at he
      subst he
      obtain ⟨hwn, hws⟩ := hd_stepNo htn hwd
      have hwf : tmFit 4 w 549755813888 = true := by
        have := wHd_fit ha (v := 549755813888) (by decide) t 300 htf (by rw [hwd])
        rw [hwd] at this
        exact this
      have hwp := fit_pack hwn hwf
      refine sem_le ⟨[(2, .lp 2 0), (4, .g (.b false)), (5, .g (ensX L)), (7, .g (.i 0)), (9, .lp 9 0)], [(9, (tmX w).cells), (2, (tmX t).cells)], H2⟩ ⟨⟨⟨rfl, rfl⟩, Le.refl _, Le.refl _, Le.refl _, ⟨rfl, rfl⟩, trivial⟩, ⟨⟨rfl, LeL.refl _⟩, ⟨rfl, LeL.refl _⟩, trivial⟩, List.Sublist.refl _⟩ ?_
      refine sem_seq (esc := fun _ => false) tab_ok mixed ?_
      refine sem_seq (esc := fun _ => false) tab_ok mixed ?_
      refine ⟨[ensX L, .i ((65536 : Nat) : Int)], LeL.refl _, run13_con L 65536 (by decide) (by omega) (fun _ r3 H3 hH3 => ?_) (fun h => absurd had h)⟩
      rw [hte] at hH3
      replace hH3 : HasW r3 (envX te L) 0 ((65536 : Nat) : Int) H2 H3 := hH3
      intro hz1 hz2; clear hz1 hz2
      refine sem_le ⟨[(2, .lp 2 0), (4, .g (.b false)), (5, .g (ensX L)), (9, .lp 9 0), (10, .g (.ptr r3 0))], [(9, (tmX w).cells), (2, (tmX t).cells)], H3⟩ ⟨⟨⟨rfl, rfl⟩, Le.refl _, Le.refl _, ⟨rfl, rfl⟩, Le.refl _, trivial⟩, ⟨⟨rfl, LeL.refl _⟩, ⟨rfl, LeL.refl _⟩, trivial⟩, List.Sublist.refl _⟩ ?_
      refine sem_seq (esc := fun _ => false) tab_ok mixed ?_
      have fin2 : ∀ (r : Nat) (ev : AV) (u l : Int) (H4 : Heap), HasW r ev u l H2 H4 → ∃ r H', Le (.b true) r ∧ List.Sublist H' H4 ∧ ∃ H5 : Heap, H5.Perm H' ∧ Q r H5 := fun r ev u l H4 h => by
        obtain ⟨H5, s5, w5⟩ := sub_of_perm (A := [_, _]) (X := H) ((show H4.Perm _ from h).trans ((show H2.Perm _ from hH2).cons _))
        exact ⟨_, H5, Le.refl _, s5, H, w5, hq⟩
      obtain ⟨k3, hk3⟩ := hws.step 65536
      have hle3 : k3 ≤ 65536 := by
        have := wStep_le (l := L) (t := w) (n := 65536)
        rcases hk3 with h | h <;> (rw [h] at this; exact this)
      have hs2 := fun (Q : AV → Heap → Prop) => wStep_con (Q := Q) hp ha w (n := 65536) (by decide) (by decide) hH3 (fun h => by rw [hwp] at h; cases h)
      obtain ⟨u4, k4, hk4⟩ := hws.head k3
      rcases hk3 with hk3 | hk3
      rotate_left
      · rw [hk3] at hs2
        refine ⟨_, LeL.refl _, hs2 _ fun _ H4 hH4 => ?_⟩
        clear hs2
        simp only at hH4
        intro hz1 hz2; clear hz1 hz2
        refine sem_le ⟨[(9, .lp 9 0), (10, .g (.ptr r3 0)), (13, .g (.i 22))], [(11, (tmX tm0).cells), (9, (tmX w).cells), (2, (tmX t).cells)], H4⟩ ⟨⟨⟨rfl, rfl⟩, Le.refl _, Le.refl _, trivial⟩, ⟨⟨rfl, LeL.refl _⟩, ⟨rfl, LeL.refl _⟩, ⟨rfl, LeL.refl _⟩, trivial⟩, List.Sublist.refl _⟩ ?_
        have hs3 := fun (Q : AV → Heap → Prop) => wWhnf_con (Q := Q) hp ha w (n := k3) (by omega) (by omega) hH4 (fun h => by rw [hwp] at h; cases h)
        refine sem_seq (esc := fun _ => false) tab_ok mixed ?_
        refine ⟨_, LeL.refl _, hs3 _ fun _ H5 hH5 => ?_⟩
        clear hs3
        intro hz1 hz2; clear hz1 hz2
        refine sem_seq (esc := fun _ => false) tab_ok mixed ?_
        exact fin2 _ _ _ _ _ hH5
      rw [hk3] at hs2
      refine ⟨_, LeL.refl _, hs2 _ fun _ H4 hH4 => ?_⟩
      clear hs2
      simp only at hH4
      intro hz1 hz2; clear hz1 hz2
      refine sem_le ⟨[(2, .lp 2 0), (4, .g (.b false)), (5, .g (ensX L)), (9, .lp 9 0), (10, .g (.ptr r3 0)), (11, .lp 11 0), (12, .g (.i 0)), (13, .g (.i 0))], [(11, (tmX w).cells), (9, (tmX w).cells), (2, (tmX t).cells)], H4⟩ ⟨⟨⟨rfl, rfl⟩, Le.refl _, Le.refl _, ⟨rfl, rfl⟩, Le.refl _, ⟨rfl, rfl⟩, Le.refl _, Le.refl _, trivial⟩, ⟨⟨rfl, LeL.refl _⟩, ⟨rfl, LeL.refl _⟩, ⟨rfl, LeL.refl _⟩, trivial⟩, List.Sublist.refl _⟩ ?_
      have hs3 := fun (Q : AV → Heap → Prop) => wWhnf_con (Q := Q) hp ha w (n := k3) (by omega) (by omega) hH4 (fun h => by rw [hwp] at h; cases h)
      refine sem_seq (esc := fun _ => false) tab_ok mixed ?_
      rcases hk4 with hk4 | hk4
      rotate_left
      · rw [hk4] at hs3
        refine ⟨_, LeL.refl _, hs3 _ fun _ H5 hH5 => ?_⟩
        clear hs3
        intro hz1 hz2; clear hz1 hz2
        refine sem_seq (esc := fun _ => false) tab_ok mixed ?_
        exact fin2 _ _ _ _ _ hH5
      rw [hk4] at hs3
      refine ⟨_, LeL.refl _, hs3 _ fun _ H5 hH5 => ?_⟩
      clear hs3
      intro hz1 hz2; clear hz1 hz2
      refine sem_le ⟨[(2, .lp 2 0), (4, .g (.b false)), (5, .g (ensX L)), (9, .lp 9 0), (11, .lp 11 0), (12, .g (.i 0)), (13, .g (.i 0)), (14, .lp 14 0), (15, .g (.i 0))], [(14, (tmX w).cells), (11, (tmX w).cells), (9, (tmX w).cells), (2, (tmX t).cells)], H5⟩ ⟨⟨⟨rfl, rfl⟩, Le.refl _, Le.refl _, ⟨rfl, rfl⟩, ⟨rfl, rfl⟩, Le.refl _, Le.refl _, ⟨rfl, rfl⟩, Le.refl _, trivial⟩, ⟨⟨rfl, LeL.refl _⟩, ⟨rfl, LeL.refl _⟩, ⟨rfl, LeL.refl _⟩, ⟨rfl, LeL.refl _⟩, trivial⟩, List.Sublist.refl _⟩ ?_
      refine sem_seq (esc := fun _ => false) tab_ok mixed ?_
      refine sem_seq (esc := fun _ => false) tab_ok mixed ?_
      refine ⟨[tmX w, tmX w], LeL.refl _, (SameTerm_con _ _ _ (Nat.le_refl _)).as (sameT w) _ _ ?_⟩
      intro hz1 hz2; clear hz1 hz2
      refine ⟨[tmX w, tmX w], LeL.refl _, (SameTerm_con _ _ _ (Nat.le_refl _)).as (sameT w) _ _ ?_⟩
      intro hz1 hz2; clear hz1 hz2
      obtain ⟨H6, s6, w6⟩ := sub_of_perm (A := [_, _]) (X := H) ((show H5.Perm _ from hH5).trans ((show H2.Perm _ from hH2).cons _))
      refine sem_le ⟨[(2, .lp 2 0), (4, .g (.b false)), (5, .g (ensX L))], [(14, (tmX w).cells), (11, (tmX w).cells), (9, (tmX w).cells), (2, (tmX t).cells)], H6⟩ ⟨⟨⟨rfl, rfl⟩, Le.refl _, Le.refl _, trivial⟩, ⟨⟨rfl, LeL.refl _⟩, ⟨rfl, LeL.refl _⟩, ⟨rfl, LeL.refl _⟩, ⟨rfl, LeL.refl _⟩, trivial⟩, s6⟩ ?_
      clear hH1 hH2 hH3 hH4 hH5 fin1 fin2 s6
      refine sem_seq (esc := fun _ => false) tab_ok mixed ?_
      refine ⟨[ensX L, .i ((300 : Nat) : Int)], LeL.refl _, run13_con L 300 (by decide) (by omega) (fun _ r7 H7 hH7 => ?_) (fun h => absurd had h)⟩
      rw [hte] at hH7
      replace hH7 : HasW r7 (envX te L) 0 ((300 : Nat) : Int) H6 H7 := hH7
      intro hz1 hz2; clear hz1 hz2
      refine sem_le ⟨[(2, .lp 2 0), (4, .g (.b false)), (5, .g (ensX L)), (16, .g (.ptr r7 0))], [(14, (tmX w).cells), (11, (tmX w).cells), (9, (tmX w).cells), (2, (tmX t).cells)], H7⟩ ⟨⟨⟨rfl, rfl⟩, Le.refl _, Le.refl _, Le.refl _, trivial⟩, ⟨⟨rfl, LeL.refl _⟩, ⟨rfl, LeL.refl _⟩, ⟨rfl, LeL.refl _⟩, ⟨rfl, LeL.refl _⟩, trivial⟩, List.Sublist.refl _⟩ ?_
      have hs7 := fun (Q : AV → Heap → Prop) => wNf_con (Q := Q) hp ha t (n := 300) (by decide) (by decide) hH7 (fun h => by rw [hpk] at h; cases h)
      have hown := fun u n' => nf_own ha (wTop t 300) t 300 (Nat.le_refl _) htn u n'
      obtain ⟨u, e, n7, hnf⟩ : ∃ u e n7, wNf L t 300 = (u, e, n7) := ⟨_, _, _, rfl⟩
      rw [hnf] at hs7 hown
      refine sem_seq (esc := fun _ => false) tab_ok mixed ?_
      refine ⟨_, LeL.refl _, hs7 _ fun _ H8 hH8 => ?_⟩
      clear hs7
      intro hz1 hz2; clear hz1 hz2
      by_cases he0 : e = 0
      rotate_left
      · refine sem_seq (esc := fun _ => false) tab_ok mixed ?_
        refine ifB_f he0 ?_
        obtain ⟨H9, s9, w9⟩ := sub_of_perm (A := [_]) (X := H) ((show H8.Perm _ from hH8).trans (w6.symm.cons _))
        exact ⟨_, H9, Le.refl _, s9, H, w9, hq⟩
      subst he0
      obtain ⟨hun, _, huo, _, huf⟩ := hown u n7 rfl
      have hup := fit_pack hun (huf _ (by decide) htf)
      refine sem_le ⟨[(4, .g (.b false)), (5, .g (ensX L)), (17, .lp 17 0), (18, .g (.i 0))], [(17, (tmX u).cells), (14, (tmX w).cells), (11, (tmX w).cells), (9, (tmX w).cells), (2, (tmX t).cells)], H8⟩ ⟨⟨Le.refl _, Le.refl _, ⟨rfl, rfl⟩, Le.refl _, trivial⟩, ⟨⟨rfl, LeL.refl _⟩, ⟨rfl, LeL.refl _⟩, ⟨rfl, LeL.refl _⟩, ⟨rfl, LeL.refl _⟩, ⟨rfl, LeL.refl _⟩, trivial⟩, List.Sublist.refl _⟩ ?_
      refine sem_seq (esc := fun _ => false) tab_ok mixed ?_
      refine sem_seq (esc := fun _ => false) tab_ok mixed ?_
      refine ⟨[ensX L, .i ((65536 : Nat) : Int)], LeL.refl _, run13_con L 65536 (by decide) (by omega) (fun _ r9 H9 hH9 => ?_) (fun h => absurd had h)⟩
      rw [hte] at hH9
      replace hH9 : HasW r9 (envX te L) 0 ((65536 : Nat) : Int) H8 H9 := hH9
      intro hz1 hz2; clear hz1 hz2
      refine sem_le ⟨[(4, .g (.b false)), (17, .lp 17 0), (19, .g (.ptr r9 0))], [(17, (tmX u).cells), (14, (tmX w).cells), (11, (tmX w).cells), (9, (tmX w).cells), (2, (tmX t).cells)], H9⟩ ⟨⟨Le.refl _, ⟨rfl, rfl⟩, Le.refl _, trivial⟩, ⟨⟨rfl, LeL.refl _⟩, ⟨rfl, LeL.refl _⟩, ⟨rfl, LeL.refl _⟩, ⟨rfl, LeL.refl _⟩, ⟨rfl, LeL.refl _⟩, trivial⟩, List.Sublist.refl _⟩ ?_
      have fin9 : ∀ (r : Nat) (ev : AV) (u l : Int) (H4 : Heap), HasW r ev u l H8 H4 → ∃ r H', Le (.b true) r ∧ List.Sublist H' H4 ∧ ∃ H5 : Heap, H5.Perm H' ∧ Q r H5 := fun r ev u l H4 h => by
        obtain ⟨H5, s5, w5⟩ := sub_of_perm (A := [_, _]) (X := H) ((show H4.Perm _ from h).trans (((show H8.Perm _ from hH8).trans (w6.symm.cons _)).cons _))
        exact ⟨_, H5, Le.refl _, s5, H, w5, hq⟩
      have hs9 := fun (Q : AV → Heap → Prop) => wNf_con (Q := Q) hp ha u (n := 65536) (by decide) (by decide) hH9 (fun h => by rw [hup] at h; cases h)
      obtain ⟨x9, k9, hk9⟩ := huo.nf 65536
      refine sem_seq (esc := fun _ => false) tab_ok mixed ?_
      rcases hk9 with hk9 | hk9
      · rw [hk9] at hs9
        refine ⟨_, LeL.refl _, hs9 _ fun _ H10 hH10 => ?_⟩
        clear hs9
        intro hz1 hz2; clear hz1 hz2
        refine sem_of (esc := fun _ => false) tab_ok mixed ?_
        refine ⟨[tmX u, tmX u], LeL.refl _, (SameTerm_con _ _ _ (Nat.le_refl _)).as (sameT u) _ _ ?_⟩
        intro hz1 hz2; clear hz1 hz2
        exact fin9 _ _ _ _ _ hH10
      · rw [hk9] at hs9
        refine ⟨_, LeL.refl _, hs9 _ fun _ H10 hH10 => ?_⟩
        clear hs9
        intro hz1 hz2; clear hz1 hz2
        refine sem_of (esc := fun _ => false) tab_ok mixed ?_
        exact fin9 _ _ _ _ _ hH10
end Go.Proofs.YtahdkhklngjmoaaGreatDoor

/-
  Rows of entries as a law's arguments, with what they take; the law of stopping over these. No condition.
-/
namespace Go.Proofs.YtahdkhklngjmoaaGreatDoor
open Go.ChangeShapes Go.WideShapes Go.ChangeAt Go.RowKit

section
variable {H : Type} {enc : TypeId × Value → H} {P : Program} {W : World}
theorem Op.sliceB {n C B0 : Nat} {t e : TypeId} {B : AV → Prop} (ht : P.underlying t = some (.slice e)) (hC : P.cellsOf e = C) (h0 : C ≠ 0) (hB : P.bytesOf e = B0) (hO : Op enc P W n e fun xs => ∃ y : AV, B y ∧ y.cells = xs) :
    Op enc P W (n + 1) t fun xs => ∃ ys : List AV, (∀ y ∈ ys, B y) ∧ ys.length * B0 ≤ reachBytes ∧ xs = [.sl .no C ys] := fun fuel hf cs x h hs => by
  rcases DataW.trod_slice ht h with ⟨rfl, rfl⟩ | ⟨a, len, cap, elems, rest, m, rfl, rfl, rfl, _, hl, hm, hlen, hel, _, _⟩
  · refine ⟨_, ⟨[], by simp, by simp, rfl⟩, repC.sole rfl ?_⟩
    simp only [rep]
    exact ⟨none, 0, rfl, Nat.le_refl _, by simp, fun _ => rfl, ⟨fun _ => rfl, by simp⟩, trivial, fun h => absurd h (by simp)⟩
  · simp only [DataW.weights, ht] at hs
    have hsz : len * B0 ≤ reachBytes := by
      have h1 := (small_app (a := [_]) hs).1
      unfold small at h1
      simp only [List.all_cons, List.all_nil, Bool.and_true, decide_eq_true_eq, List.length_map, hB] at h1
      have h2 : len ≤ elems.length + rest.length := by omega
      exact Nat.le_trans (Nat.mul_le_mul_right _ h2) h1
    have hs' : small (DataW.weightsAll P e (elems.map (·.1))) := by
      have := small_app (a := [_]) hs
      exact (small_app this.2).1
    have key : ∀ i, i < len → ∃ y : AV, B y ∧ y.cells.length = C ∧ ∃ cs, repC (memW W) y.cells cs ∧ cs.length = C ∧ ∀ j, j < C → W.cell? ((a.add (i * C)).add j) = cs[j]? := fun i hi => by
      have h1 := hel i hi
      have hx : elems[i]? = some elems[i] := List.getElem?_eq_getElem (by omega)
      rw [hx, Option.bind_eq_some_iff] at h1
      obtain ⟨cs', hc, ht'⟩ := h1
      obtain ⟨_, hcl, hat⟩ := World.cells?_some hc
      obtain ⟨xs, ⟨y, hy, rfl⟩, hr⟩ := hO m (by omega) cs' _ ht' (small_mem (List.mem_map.2 ⟨_, List.getElem_mem (by omega), rfl⟩) hs')
      rw [hC] at hcl hat
      exact ⟨y, hy, by rw [← hr.length, hcl], cs', hr, hcl, hat⟩
    have hch : ∃ f : Nat → AV, ∀ i, i < len → B (f i) ∧ (f i).cells.length = C ∧ ∃ cs, repC (memW W) (f i).cells cs ∧ cs.length = C ∧ ∀ j, j < C → W.cell? ((a.add (i * C)).add j) = cs[j]? := by
      refine ⟨fun i => if h : i < len then Classical.choose (key i h) else .v default, fun i hi => ?_⟩
      simp only [hi, dif_pos]
      exact Classical.choose_spec (key i hi)
    obtain ⟨f, hf⟩ := hch
    refine ⟨_, ⟨(List.range len).map f, fun y hy => ?_, by rw [List.length_map, List.length_range]; exact hsz, rfl⟩, repC.sole rfl ?_⟩
    · obtain ⟨i, hi, rfl⟩ := List.mem_map.1 hy
      exact (hf i (List.mem_range.1 hi)).1
    · simp only [rep, List.length_map, List.length_range]
      refine ⟨some a, cap, rfl, hl, hm, (fun h => by cases h), ⟨fun h => absurd h h0, fun y hy => ?_⟩, trivial, fun hn => ?_⟩
      · obtain ⟨i, hi, rfl⟩ := List.mem_map.1 hy
        exact (hf i (List.mem_range.1 hi)).2.1
      · obtain ⟨_, _, cs0, _, hl0, h0'⟩ := hf 0 hn
        have hc0 := h0' 0 (by omega)
        have hv : cs0[0]? = some (cs0[0]'(by omega)) := List.getElem?_eq_getElem (by omega)
        rw [hv] at hc0
        have hsp := addr_cell hc0
        obtain ⟨b, off, spot⟩ := a
        have hsp : spot = none := by simpa [Addr.add] using hsp
        subst hsp
        refine ⟨b, off, rfl, atE_of (C := C) (fun y hy => ?_) fun i y hy => ?_⟩
        · obtain ⟨i, hi, rfl⟩ := List.mem_map.1 hy
          exact (hf i (List.mem_range.1 hi)).2.1
        · simp only [List.getElem?_map, Option.map_eq_some_iff] at hy
          obtain ⟨k, hk, rfl⟩ := hy
          have hil := (List.getElem?_eq_some_iff.1 hk).1
          have hik := (List.getElem?_eq_some_iff.1 hk).2
          rw [List.length_range] at hil
          rw [List.getElem_range] at hik
          subst hik
          obtain ⟨_, _, cs, hr, hcl, hat⟩ := hf i hil
          refine ⟨cs, hr, fun j hj => ?_⟩
          have := hat j (by omega)
          rw [Addr.add_lit, Addr.add_lit] at this
          exact this
end
/-- entries that take no more than a slice may -/
abbrev EnsL := {ls : List En // ls.length * 264 ≤ 140737488351232}
def ensLX (l : EnsL) : AV := ensX l.1
section
variable {H : Type} {enc : TypeId × Value → H} {W : World}
set_option maxRecDepth 100000 in
theorem op_ensL (n : Nat) : Op enc Tryz.prog W n 25 fun xs => ∃ ls : EnsL, xs = [ensLX ls] := by
  cases n with
  | zero => exact Op.zero
  | succ n =>
    refine (Op.sliceB (C := 19) (B0 := 264) (e := 55) (B := fun y => ∃ l, y = enX l) (by kernel_rfl) (by kernel_rfl) (by decide) (by kernel_rfl) ((op_en n).mono fun xs hx => ?_)).mono fun xs hx => ?_
    · obtain ⟨l, rfl⟩ := hx
      exact ⟨enX l, ⟨l, rfl⟩, rfl⟩
    · obtain ⟨ys, hy, hl, rfl⟩ := hx
      obtain ⟨zs, rfl⟩ := map_of hy
      exact ⟨⟨zs, by simpa [reachBytes] using hl⟩, rfl⟩
end
set_option maxRecDepth 100000 in
theorem whnfStopsL_con (t : Tm) (l : EnsL) : Ans Tryz.prog 4 [tmX t, ensLX l] (.b true) := whnfStops_con t l.1 l.2
end Go.Proofs.YtahdkhklngjmoaaGreatDoor

