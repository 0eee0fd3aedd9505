/-
  Texts put together: Lays3, V1, V2, V3, V4. No condition.
-/
import Derived.Test.YtpjolipkmemcoaaGreatDoorM16
import Derived.Shelf.Strings.OnBuilder
import Derived.Ground.NamesProg
import Derived.Test.YtpjolipkmemcoaaGreatDoorM17
import Derived.Test.YtpjolipkmemcoaaGreatDoorM7
/-
  DERIVED: THE SHELF's CONTRACTS AT THIS DUMP, IN PLAIN WORDS (tools/lay-plain.mjs out of 'YtpjolipkmemcoaaGreatDoorLays3.lean', which tools/lay-shelf.mjs wrote): THE SAME DECLARATIONS UNDER THE SAME NAMES: 'import', 'namespace', 'open', 'def', 'theorem' AND NOTHING ELSE: no command of the shelf's: FOR A HAND-IN. Each laying: the table of numbers ('.._ren') and one theorem, a field a fact of the dump's own or the kernel's comparison; each contract: ONE APPLICATION.
-/
namespace Go.Proofs.YtpjolipkmemcoaaGreatDoor
open Go.Shelf
def Tryz.l156_ren : Go.Shelf.Ren := ⟨fun | 156 => 30 | 165 => 48 | 166 => 49 | 169 => 50 | 240 => 67 | 241 => 68 | 276 => 84 | 277 => 85 | n => n, fun | 31 => 22 | 9 => 9 | 3 => 3 | 4 => 4 | 0 => 0 | 20 => 20 | 72 => 58 | 76 => 62 | 70 => 55 | 37 => 56 | 75 => 61 | 127 => 79 | 164 => 91 | 5 => 5 | 80 => 64 | n => n, fun | n => n⟩
theorem Tryz.l156 : Go.Proofs.Lays.n156 Tryz.prog Tryz.l156_ren := {
  mixed := by kernel_rfl
  f156 := Tryz.func30.trans (congrArg some (by kernel_rfl))
  f165 := Tryz.func48.trans (congrArg some (by kernel_rfl))
  f166 := Tryz.func49.trans (congrArg some (by kernel_rfl))
  f169 := Tryz.func50.trans (congrArg some (by kernel_rfl))
  f240 := Tryz.func67.trans (congrArg some (by kernel_rfl))
  f241 := Tryz.func68.trans (congrArg some (by kernel_rfl))
  f276 := Tryz.func84.trans (congrArg some (by kernel_rfl))
  f277 := Tryz.func85.trans (congrArg some (by kernel_rfl))
  t0 := Tryz.underlying0
  a0 := Tryz.isAgg0
  z0 := Tryz.sizeOf0
  v0 := Tryz.zeroValue0
  t3 := Tryz.underlying3
  a3 := Tryz.isAgg3
  z3 := Tryz.sizeOf3
  v3 := Tryz.zeroValue3
  t4 := Tryz.underlying4
  a4 := Tryz.isAgg4
  z4 := Tryz.sizeOf4
  v4 := Tryz.zeroValue4
  t9 := Tryz.underlying9
  a9 := Tryz.isAgg9
  z9 := Tryz.sizeOf9
  v9 := Tryz.zeroValue9
  t20 := Tryz.underlying20
  a20 := Tryz.isAgg20
  z20 := Tryz.sizeOf20
  v20 := Tryz.zeroValue20
  t31 := Tryz.underlying22
  a31 := Tryz.isAgg22
  z31 := Tryz.sizeOf22
  v31 := Tryz.zeroValue22
  t37 := Tryz.underlying56
  a37 := Tryz.isAgg56
  z37 := Tryz.sizeOf56
  v37 := Tryz.zeroValue56
  t70 := Tryz.underlying55
  a70 := Tryz.isAgg55
  z70 := Tryz.sizeOf55
  v70 := Tryz.zeroValue55
  t72 := Tryz.underlying58
  a72 := Tryz.isAgg58
  z72 := Tryz.sizeOf58
  v72 := Tryz.zeroValue58
  t75 := Tryz.underlying61
  a75 := Tryz.isAgg61
  z75 := Tryz.sizeOf61
  v75 := Tryz.zeroValue61
  t76 := Tryz.underlying62
  a76 := Tryz.isAgg62
  z76 := Tryz.sizeOf62
  v76 := Tryz.zeroValue62
  t127 := Tryz.underlying79
  a127 := Tryz.isAgg79
  z127 := Tryz.sizeOf79
  v127 := Tryz.zeroValue79
  t164 := Tryz.underlying91
  a164 := Tryz.isAgg91
  z164 := Tryz.sizeOf91
  v164 := Tryz.zeroValue91 }
end Go.Proofs.YtpjolipkmemcoaaGreatDoor

/-
  deps, plain: a walk from names to what they need; what is sorted; what declarations declare and need. No condition.
-/
namespace Go.Proofs.YtpjolipkmemcoaaGreatDoor
open Go.RowKit

/-! a walk from names to what they need, plain -/
abbrev Sg := List (List UInt8) × List Nat

section
variable (pl : List UInt8 → List Nat) (nd : Nat → List (List UInt8))
/-- a place is gone to -/
def plc (V : List UInt8 → Sg → Sg) (σ : Sg) (i : Nat) : Sg := if i ∈ σ.2 then (σ.1, σ.2 ++ [i]) else (nd i).foldl (fun σ n => V n σ) (σ.1, σ.2 ++ [i])
/-- a name is gone to: names that were, places that were -/
def vis : Nat → List UInt8 → Sg → Sg
  | 0, _, σ => σ
  | N + 1, s, σ => if pl s = [] ∨ s ∈ σ.1 then σ else (pl s).foldl (plc nd (vis N)) (σ.1 ++ [s], σ.2)

variable {pl nd}
theorem vis_yes {N : Nat} {s : List UInt8} {σ : Sg} (h : pl s = [] ∨ s ∈ σ.1) : vis pl nd N s σ = σ := by
  cases N with
  | zero => rfl
  | succ N => rw [vis, if_pos h]
theorem vis_no {N : Nat} {s : List UInt8} {σ : Sg} (h : ¬(pl s = [] ∨ s ∈ σ.1)) : vis pl nd (N + 1) s σ = (pl s).foldl (plc nd (vis pl nd N)) (σ.1 ++ [s], σ.2) := by rw [vis, if_neg h]

/-- what is kept by all steps is kept by the whole walk -/
theorem vis_ind {R : Sg → Sg → Prop} (h0 : ∀ σ, R σ σ) (h1 : ∀ a b c, R a b → R b c → R a c) (hs : ∀ σ s, pl s ≠ [] → s ∉ σ.1 → R σ (σ.1 ++ [s], σ.2)) (hd : ∀ σ i, R σ (σ.1, σ.2 ++ [i])) :
    ∀ (N : Nat) (s : List UInt8) (σ : Sg), R σ (vis pl nd N s σ)
  | 0, _, σ => h0 σ
  | N + 1, s, σ => by
    by_cases h : pl s = [] ∨ s ∈ σ.1
    · rw [vis_yes h]; exact h0 σ
    · rw [vis_no h]
      rw [not_or] at h
      refine h1 _ _ _ (hs σ s h.1 h.2) ?_
      have key : ∀ (is : List Nat) (τ : Sg), R τ (is.foldl (plc nd (vis pl nd N)) τ) := by
        intro is
        induction is with
        | nil => exact h0
        | cons i is ih =>
          intro τ
          rw [List.foldl_cons]
          refine h1 _ _ _ ?_ (ih _)
          unfold plc
          by_cases hi : i ∈ τ.2
          · rw [if_pos hi]; exact hd τ i
          · rw [if_neg hi]
            refine h1 _ _ _ (hd τ i) ?_
            have k2 : ∀ (ns : List (List UInt8)) (τ : Sg), R τ (ns.foldl (fun σ n => vis pl nd N n σ) τ) := by
              intro ns
              induction ns with
              | nil => exact h0
              | cons n ns ih2 =>
                intro τ
                rw [List.foldl_cons]
                exact h1 _ _ _ (vis_ind h0 h1 hs hd N n τ) (ih2 _)
            exact k2 _ _
      exact key _ _
/-- names stay -/
def Sg.le (σ τ : Sg) : Prop := (∀ s ∈ σ.1, s ∈ τ.1) ∧ ∀ i ∈ σ.2, i ∈ τ.2
theorem Sg.le.refl (σ : Sg) : Sg.le σ σ := ⟨fun _ h => h, fun _ h => h⟩
theorem Sg.le.trans {a b c : Sg} (h : Sg.le a b) (k : Sg.le b c) : Sg.le a c := ⟨fun s h1 => k.1 s (h.1 s h1), fun s h1 => k.2 s (h.2 s h1)⟩
theorem vis_le (N : Nat) (s : List UInt8) (σ : Sg) : Sg.le σ (vis pl nd N s σ) :=
  vis_ind (R := Sg.le) Sg.le.refl (fun _ _ _ => Sg.le.trans) (fun _ _ _ _ => ⟨fun _ h => List.mem_append.2 (Or.inl h), fun _ h => h⟩) (fun _ _ => ⟨fun _ h => h, fun _ h => List.mem_append.2 (Or.inl h)⟩) N s σ
/-- each name once, and each has places -/
def Sg.Ok (pl : List UInt8 → List Nat) (σ : Sg) : Prop := σ.1.Nodup ∧ ∀ s ∈ σ.1, pl s ≠ []
theorem Sg.Ok.mark {σ : Sg} {s : List UInt8} (h : Sg.Ok pl σ) (h1 : pl s ≠ []) (h2 : s ∉ σ.1) : Sg.Ok pl (σ.1 ++ [s], σ.2) := by
  refine ⟨?_, fun x hx => ?_⟩
  · simp only
    rw [List.nodup_append]
    refine ⟨h.1, by simp, fun a ha b hb => ?_⟩
    rw [List.mem_singleton] at hb
    subst hb
    rintro rfl
    exact h2 ha
  · rcases List.mem_append.1 hx with hx | hx
    · exact h.2 x hx
    · rw [List.mem_singleton] at hx; subst hx; exact h1
theorem vis_ok (N : Nat) (s : List UInt8) (σ : Sg) : Sg.Ok pl σ → Sg.Ok pl (vis pl nd N s σ) :=
  vis_ind (R := fun a b => Sg.Ok pl a → Sg.Ok pl b) (fun _ h => h) (fun _ _ _ h k x => k (h x)) (fun _ _ h1 h2 h => h.mark h1 h2) (fun _ _ h => h) N s σ

/-! how far it may go -/
/-- names that were not yet -/
def free (keys : List (List UInt8)) (σ : Sg) : Nat := (keys.filter fun s => !decide (s ∈ σ.1)).length
def pot (pl : List UInt8 → List Nat) (keys : List (List UInt8)) (σ : Sg) : Nat := ((keys.filter fun s => !decide (s ∈ σ.1)).map fun s => (pl s).length).sum
theorem filter_len_le {α : Type} {p q : α → Bool} : ∀ {l : List α}, (∀ x ∈ l, p x = true → q x = true) → (l.filter p).length ≤ (l.filter q).length
  | [], _ => Nat.le_refl _
  | a :: l, h => by
    have ih := filter_len_le (l := l) fun x hx => h x (List.mem_cons_of_mem _ hx)
    have ha := h a (by simp)
    cases hp : p a with
    | false =>
      rw [List.filter_cons_of_neg (by simp [hp])]
      cases hq : q a with
      | false => rw [List.filter_cons_of_neg (by simp [hq])]; exact ih
      | true => rw [List.filter_cons_of_pos hq, List.length_cons]; omega
    | true =>
      rw [List.filter_cons_of_pos hp, List.filter_cons_of_pos (ha hp), List.length_cons, List.length_cons]
      omega
theorem free_le {keys : List (List UInt8)} {σ τ : Sg} (h : Sg.le σ τ) : free keys τ ≤ free keys σ := by
  refine filter_len_le fun x _ hx => ?_
  simp only [Bool.not_eq_true', decide_eq_false_iff_not] at hx ⊢
  exact fun k => hx (h.1 x k)
theorem filter_cut {keys : List (List UInt8)} {S : List (List UInt8)} {s : List UInt8} (hn : keys.Nodup) (hk : s ∈ keys) (hs : s ∉ S) (g : List UInt8 → Nat) :
    ((keys.filter fun x => !decide (x ∈ S)).map g).sum = ((keys.filter fun x => !decide (x ∈ S ++ [s])).map g).sum + g s := by
  induction keys with
  | nil => cases hk
  | cons a keys ih =>
    rw [List.nodup_cons] at hn
    by_cases ha : a = s
    · subst ha
      have e : ∀ x ∈ keys, (!decide (x ∈ S)) = !decide (x ∈ S ++ [a]) := fun x hx => by
        have : x ≠ a := by rintro rfl; exact hn.1 hx
        simp [this]
      rw [List.filter_cons_of_pos (by simp [hs]), List.filter_cons_of_neg (by simp), List.filter_congr e, List.map_cons, List.sum_cons]
      omega
    · have ih := ih hn.2 (by rcases List.mem_cons.1 hk with h | h; exact absurd h.symm ha; exact h)
      by_cases h : a ∈ S
      · rw [List.filter_cons_of_neg (by simp [h]), List.filter_cons_of_neg (by simp [h])]
        exact ih
      · rw [List.filter_cons_of_pos (by simp [h]), List.filter_cons_of_pos (by simp [h, ha]), List.map_cons, List.map_cons, List.sum_cons, List.sum_cons]
        omega
theorem sum_ones {α : Type} : ∀ l : List α, (l.map fun _ => 1).sum = l.length
  | [] => rfl
  | a :: l => by rw [List.map_cons, List.sum_cons, sum_ones l, List.length_cons]; omega
theorem free_cut {keys : List (List UInt8)} {σ : Sg} {s : List UInt8} (hn : keys.Nodup) (hk : s ∈ keys) (hs : s ∉ σ.1) : free keys σ = free keys (σ.1 ++ [s], σ.2) + 1 := by
  have := filter_cut hn hk hs fun _ => 1
  rw [sum_ones, sum_ones] at this
  exact this
theorem pot_cut {keys : List (List UInt8)} {σ : Sg} {s : List UInt8} (hn : keys.Nodup) (hk : s ∈ keys) (hs : s ∉ σ.1) : pot pl keys σ = pot pl keys (σ.1 ++ [s], σ.2) + (pl s).length := filter_cut hn hk hs fun s => (pl s).length
theorem free_zero {keys : List (List UInt8)} {σ : Sg} {s : List UInt8} (hk : pl s ≠ [] → s ∈ keys) (h : free keys σ = 0) : pl s = [] ∨ s ∈ σ.1 := by
  by_cases h1 : pl s = []
  · exact Or.inl h1
  · refine Or.inr ?_
    have := List.length_eq_zero_iff.1 h
    rw [List.filter_eq_nil_iff] at this
    simpa using this s (hk h1)
/-- places are gone to but so many times -/
theorem vis_pot {keys : List (List UInt8)} (hn : keys.Nodup) (hk : ∀ s, pl s ≠ [] → s ∈ keys) : ∀ (N : Nat) (s : List UInt8) (σ : Sg), (vis pl nd N s σ).2.length + pot pl keys (vis pl nd N s σ) ≤ σ.2.length + pot pl keys σ
  | 0, _, _ => Nat.le_refl _
  | N + 1, s, σ => by
    by_cases h : pl s = [] ∨ s ∈ σ.1
    · rw [vis_yes h]; exact Nat.le_refl _
    · rw [vis_no h]
      rw [not_or] at h
      have key : ∀ (is : List Nat) (τ : Sg), (is.foldl (plc nd (vis pl nd N)) τ).2.length + pot pl keys (is.foldl (plc nd (vis pl nd N)) τ) ≤ τ.2.length + pot pl keys τ + is.length := by
        intro is
        induction is with
        | nil => intro _; exact Nat.le_refl _
        | cons i is ih =>
          intro τ
          rw [List.foldl_cons]
          refine Nat.le_trans (ih _) ?_
          have k3 : (plc nd (vis pl nd N) τ i).2.length + pot pl keys (plc nd (vis pl nd N) τ i) ≤ τ.2.length + pot pl keys τ + 1 := by
            have e1 : pot pl keys (τ.1, τ.2 ++ [i]) = pot pl keys τ := rfl
            unfold plc
            by_cases hi : i ∈ τ.2
            · rw [if_pos hi, e1]; simp only [List.length_append, List.length_cons, List.length_nil]; omega
            · rw [if_neg hi]
              have k2 : ∀ (ns : List (List UInt8)) (τ : Sg), (ns.foldl (fun σ n => vis pl nd N n σ) τ).2.length + pot pl keys (ns.foldl (fun σ n => vis pl nd N n σ) τ) ≤ τ.2.length + pot pl keys τ := by
                intro ns
                induction ns with
                | nil => intro _; exact Nat.le_refl _
                | cons n ns ih2 =>
                  intro τ
                  rw [List.foldl_cons]
                  exact Nat.le_trans (ih2 _) (vis_pot hn hk N n τ)
              have := k2 (nd i) (τ.1, τ.2 ++ [i])
              rw [e1] at this
              simp only [List.length_append, List.length_cons, List.length_nil] at this
              omega
          rw [List.length_cons]
          omega
      have h1 := key (pl s) (σ.1 ++ [s], σ.2)
      have h2 := pot_cut (pl := pl) hn (hk s h.1) h.2
      simp only at h1
      omega
theorem plc_le (V : List UInt8 → Sg → Sg) (hV : ∀ s σ, Sg.le σ (V s σ)) (σ : Sg) (i : Nat) : Sg.le σ (plc nd V σ i) := by
  have a1 : Sg.le σ (σ.1, σ.2 ++ [i]) := ⟨fun _ h => h, fun _ h => List.mem_append.2 (Or.inl h)⟩
  unfold plc
  by_cases hi : i ∈ σ.2
  · rw [if_pos hi]; exact a1
  · rw [if_neg hi]
    refine a1.trans ?_
    generalize (σ.1, σ.2 ++ [i]) = τ
    generalize nd i = ns
    clear hi a1
    induction ns generalizing τ with
    | nil => exact Sg.le.refl _
    | cons n ns ih => exact (hV n τ).trans (ih _)
theorem fold_le (V : List UInt8 → Sg → Sg) (hV : ∀ s σ, Sg.le σ (V s σ)) : ∀ (ns : List (List UInt8)) (τ : Sg), Sg.le τ (ns.foldl (fun σ n => V n σ) τ)
  | [], _ => Sg.le.refl _
  | n :: ns, τ => (hV n τ).trans (fold_le V hV ns _)
theorem foldp_le (V : List UInt8 → Sg → Sg) (hV : ∀ s σ, Sg.le σ (V s σ)) : ∀ (ns : List Nat) (τ : Sg), Sg.le τ (ns.foldl (plc nd V) τ)
  | [], _ => Sg.le.refl _
  | n :: ns, τ => (plc_le V hV τ n).trans (foldp_le V hV ns _)

/-! where it leads -/
/-- all that names of it need is in it -/
def Shut (pl : List UInt8 → List Nat) (nd : Nat → List (List UInt8)) (C : List UInt8 → Prop) : Prop := ∀ s, C s → ∀ i ∈ pl s, ∀ n ∈ nd i, pl n ≠ [] → C n
theorem vis_in {C : List UInt8 → Prop} (hC : Shut pl nd C) : ∀ (N : Nat) (s : List UInt8) (σ : Sg), (pl s ≠ [] → C s) → (∀ x ∈ σ.1, C x) → ∀ x ∈ (vis pl nd N s σ).1, C x
  | 0, _, _, _, h => h
  | N + 1, s, σ, h0, h => by
    by_cases hs : pl s = [] ∨ s ∈ σ.1
    · rw [vis_yes hs]; exact h
    · rw [vis_no hs]
      rw [not_or] at hs
      have hCs := h0 hs.1
      have key : ∀ (is : List Nat) (τ : Sg), (∀ i ∈ is, i ∈ pl s) → (∀ x ∈ τ.1, C x) → ∀ x ∈ (is.foldl (plc nd (vis pl nd N)) τ).1, C x := by
        intro is
        induction is with
        | nil => exact fun τ _ h => h
        | cons i is ih =>
          intro τ hin hτ
          rw [List.foldl_cons]
          refine ih _ (fun j hj => hin j (List.mem_cons_of_mem _ hj)) ?_
          unfold plc
          by_cases hi : i ∈ τ.2
          · rw [if_pos hi]; exact hτ
          · rw [if_neg hi]
            have k2 : ∀ (ns : List (List UInt8)) (τ : Sg), (∀ n ∈ ns, n ∈ nd i) → (∀ x ∈ τ.1, C x) → ∀ x ∈ (ns.foldl (fun σ n => vis pl nd N n σ) τ).1, C x := by
              intro ns
              induction ns with
              | nil => exact fun τ _ h => h
              | cons n ns ih2 =>
                intro τ hin2 hτ
                rw [List.foldl_cons]
                exact ih2 _ (fun j hj => hin2 j (List.mem_cons_of_mem _ hj)) (vis_in hC N n τ (fun hp => hC s hCs i (hin i (by simp)) n (hin2 n (by simp)) hp) hτ)
            exact k2 _ _ (fun _ h => h) hτ
      refine key _ _ (fun _ h => h) fun x hx => ?_
      rcases List.mem_append.1 hx with hx | hx
      · exact h x hx
      · rw [List.mem_singleton] at hx; subst hx; exact hCs

/-- names that were have all their places gone to, places that were gone to have all their needs; but for those that are under way -/
def Done (pl : List UInt8 → List Nat) (nd : Nat → List (List UInt8)) (G : List UInt8 → Prop) (K : Nat → Prop) (σ : Sg) : Prop := (∀ s ∈ σ.1, ¬G s → ∀ i ∈ pl s, i ∈ σ.2) ∧ ∀ i ∈ σ.2, ¬K i → ∀ n ∈ nd i, pl n ≠ [] → n ∈ σ.1
theorem vis_done {keys : List (List UInt8)} (hn : keys.Nodup) (hk : ∀ s, pl s ≠ [] → s ∈ keys) : ∀ (N : Nat) (s : List UInt8) (σ : Sg) (G : List UInt8 → Prop) (K : Nat → Prop), free keys σ ≤ N → Done pl nd G K σ → Done pl nd G K (vis pl nd N s σ) ∧ (pl s ≠ [] → s ∈ (vis pl nd N s σ).1)
  | N, s, σ, G, K, hN, h => by
    by_cases hs : pl s = [] ∨ s ∈ σ.1
    · rw [vis_yes hs]
      exact ⟨h, fun h1 => hs.resolve_left h1⟩
    · cases N with
      | zero => exact absurd (free_zero (hk s) (by omega)) hs
      | succ N =>
        rw [vis_no hs]
        rw [not_or] at hs
        have hc := free_cut hn (hk s hs.1) hs.2
        have hV : ∀ s σ, Sg.le σ (vis pl nd N s σ) := fun s σ => vis_le N s σ
        -- the places
        have key : ∀ (is : List Nat) (τ : Sg), free keys τ ≤ N → Done pl nd (fun x => G x ∨ x = s) K τ → Done pl nd (fun x => G x ∨ x = s) K (is.foldl (plc nd (vis pl nd N)) τ) ∧ ∀ i ∈ is, i ∈ (is.foldl (plc nd (vis pl nd N)) τ).2 := by
          intro is
          induction is with
          | nil => exact fun τ _ h => ⟨h, nofun⟩
          | cons i is ih =>
            intro τ hf hτ
            rw [List.foldl_cons]
            have hle := plc_le (nd := nd) (vis pl nd N) hV τ i
            have step : Done pl nd (fun x => G x ∨ x = s) K (plc nd (vis pl nd N) τ i) ∧ i ∈ (plc nd (vis pl nd N) τ i).2 := by
              unfold plc
              by_cases hi : i ∈ τ.2
              · rw [if_pos hi]
                refine ⟨⟨fun x hx hg j hj => List.mem_append.2 (Or.inl (hτ.1 x hx hg j hj)), fun j hj hnk n hn2 hp => ?_⟩, by simp⟩
                rcases List.mem_append.1 hj with hj | hj
                · exact hτ.2 j hj hnk n hn2 hp
                · rw [List.mem_singleton] at hj; subst hj
                  exact hτ.2 j hi hnk n hn2 hp
              · rw [if_neg hi]
                have k2 : ∀ (ns : List (List UInt8)) (τ : Sg), free keys τ ≤ N → Done pl nd (fun x => G x ∨ x = s) (fun j => K j ∨ j = i) τ → Done pl nd (fun x => G x ∨ x = s) (fun j => K j ∨ j = i) (ns.foldl (fun σ n => vis pl nd N n σ) τ) ∧ ∀ n ∈ ns, pl n ≠ [] → n ∈ (ns.foldl (fun σ n => vis pl nd N n σ) τ).1 := by
                  intro ns
                  induction ns with
                  | nil => exact fun τ _ h => ⟨h, nofun⟩
                  | cons n ns ih2 =>
                    intro τ hf hτ
                    rw [List.foldl_cons]
                    obtain ⟨g1, g2⟩ := vis_done hn hk N n τ _ _ hf hτ
                    obtain ⟨g3, g4⟩ := ih2 _ (Nat.le_trans (free_le (hV n τ)) hf) g1
                    refine ⟨g3, fun m hm hp => ?_⟩
                    rcases List.mem_cons.1 hm with rfl | hm
                    · exact (fold_le (vis pl nd N) hV ns _).1 _ (g2 hp)
                    · exact g4 m hm hp
                have hd : Done pl nd (fun x => G x ∨ x = s) (fun j => K j ∨ j = i) (τ.1, τ.2 ++ [i]) := by
                  refine ⟨fun x hx hg j hj => List.mem_append.2 (Or.inl (hτ.1 x hx hg j hj)), fun j hj hnk n hn2 hp => ?_⟩
                  rw [not_or] at hnk
                  rcases List.mem_append.1 hj with hj | hj
                  · exact hτ.2 j hj hnk.1 n hn2 hp
                  · rw [List.mem_singleton] at hj; exact absurd hj hnk.2
                obtain ⟨g1, g2⟩ := k2 (nd i) (τ.1, τ.2 ++ [i]) hf hd
                refine ⟨⟨g1.1, fun j hj hnk n hn2 hp => ?_⟩, (fold_le (vis pl nd N) hV (nd i) (τ.1, τ.2 ++ [i])).2 i (by simp)⟩
                by_cases hji : j = i
                · subst hji
                  exact g2 n hn2 hp
                · exact g1.2 j hj (by rw [not_or]; exact ⟨hnk, hji⟩) n hn2 hp
            obtain ⟨g1, g2⟩ := ih _ (Nat.le_trans (free_le hle) hf) step.1
            refine ⟨g1, fun j hj => ?_⟩
            rcases List.mem_cons.1 hj with rfl | hj
            · exact (foldp_le (vis pl nd N) hV is _).2 _ step.2
            · exact g2 j hj
        have h0 : Done pl nd (fun x => G x ∨ x = s) K (σ.1 ++ [s], σ.2) := by
          refine ⟨fun x hx hg j hj => ?_, fun j hj hnk n hn2 hp => List.mem_append.2 (Or.inl (h.2 j hj hnk n hn2 hp))⟩
          rw [not_or] at hg
          rcases List.mem_append.1 hx with hx | hx
          · exact h.1 x hx hg.1 j hj
          · rw [List.mem_singleton] at hx; exact absurd hx hg.2
        obtain ⟨g1, g2⟩ := key (pl s) (σ.1 ++ [s], σ.2) (by omega) h0
        refine ⟨⟨fun x hx hg j hj => ?_, g1.2⟩, fun _ => (foldp_le (vis pl nd N) hV (pl s) (σ.1 ++ [s], σ.2)).1 s (by simp)⟩
        by_cases hxs : x = s
        · subst hxs; exact g2 j hj
        · exact g1.1 x hx (by rw [not_or]; exact ⟨hg, hxs⟩) j hj
/-- from some names -/
def visAll (pl : List UInt8 → List Nat) (nd : Nat → List (List UInt8)) (N : Nat) (ns : List (List UInt8)) : Sg := ns.foldl (fun σ n => vis pl nd N n σ) ([], [])
theorem visAll_snoc (N : Nat) (ns : List (List UInt8)) (n : List UInt8) : visAll pl nd N (ns ++ [n]) = vis pl nd N n (visAll pl nd N ns) := by rw [visAll, List.foldl_append]; rfl
theorem visAll_spec {keys : List (List UInt8)} (hn : keys.Nodup) (hk : ∀ s, pl s ≠ [] → s ∈ keys) (N : Nat) (hN : keys.length ≤ N) (ns : List (List UInt8)) :
    Sg.Ok pl (visAll pl nd N ns) ∧ Done pl nd (fun _ => False) (fun _ => False) (visAll pl nd N ns) ∧ (∀ s ∈ ns, pl s ≠ [] → s ∈ (visAll pl nd N ns).1) ∧ (∀ C, Shut pl nd C → (∀ s ∈ ns, pl s ≠ [] → C s) → ∀ x ∈ (visAll pl nd N ns).1, C x) := by
  have key : ∀ (ns : List (List UInt8)) (σ : Sg), Sg.Ok pl σ → Done pl nd (fun _ => False) (fun _ => False) σ → Sg.Ok pl (ns.foldl (fun σ n => vis pl nd N n σ) σ) ∧ Done pl nd (fun _ => False) (fun _ => False) (ns.foldl (fun σ n => vis pl nd N n σ) σ) ∧ (∀ s ∈ ns, pl s ≠ [] → s ∈ (ns.foldl (fun σ n => vis pl nd N n σ) σ).1) ∧ (∀ C, Shut pl nd C → (∀ s ∈ ns, pl s ≠ [] → C s) → (∀ x ∈ σ.1, C x) → ∀ x ∈ (ns.foldl (fun σ n => vis pl nd N n σ) σ).1, C x) := by
    intro ns
    induction ns with
    | nil => exact fun σ h1 h2 => ⟨h1, h2, nofun, fun C _ _ h => h⟩
    | cons n ns ih =>
      intro σ h1 h2
      have hf : free keys σ ≤ N := Nat.le_trans (List.length_filter_le _ _) hN
      obtain ⟨g1, g2⟩ := vis_done hn hk N n σ _ _ hf h2
      obtain ⟨k1, k2, k3, k4⟩ := ih _ (vis_ok N n σ h1) g1
      refine ⟨k1, k2, fun s hs hp => ?_, fun C hC hs hσ => k4 C hC (fun s h => hs s (List.mem_cons_of_mem _ h)) (vis_in hC N n σ (hs n (by simp)) hσ)⟩
      rcases List.mem_cons.1 hs with rfl | hs
      · exact (fold_le (vis pl nd N) (fun s σ => vis_le N s σ) ns _).1 _ (g2 hp)
      · exact k3 s hs hp
  obtain ⟨k1, k2, k3, k4⟩ := key ns ([], []) ⟨List.nodup_nil, nofun⟩ ⟨nofun, nofun⟩
  exact ⟨k1, k2, k3, fun C hC hs => k4 C hC hs fun x hx => by cases hx⟩
end
/-! texts in order -/
theorem sts_trans (a b c : List UInt8) (h : decide (a ≤ b) = true) (k : decide (b ≤ c) = true) : decide (a ≤ c) = true := decide_eq_true (List.le_trans (of_decide_eq_true h) (of_decide_eq_true k))
theorem sts_total (a b : List UInt8) : (decide (a ≤ b) || decide (b ≤ a)) = true := by
  rcases List.le_total a b with h | h
  · rw [decide_eq_true h]; rfl
  · rw [decide_eq_true h, Bool.or_true]
theorem stsSort_sorted (ss : List (List UInt8)) : (stsSort ss).Pairwise fun a b => a ≤ b := (List.pairwise_mergeSort sts_trans sts_total ss).imp fun h => of_decide_eq_true h
theorem stsSort_perm {a b : List (List UInt8)} (h : a.Perm b) : stsSort a = stsSort b :=
  List.Perm.eq_of_pairwise (le := fun a b => a ≤ b) (fun _ _ _ _ h k => List.le_antisymm h k) (stsSort_sorted a) (stsSort_sorted b) ((List.mergeSort_perm a _).trans (h.trans (List.mergeSort_perm b _).symm))
theorem nmSort_perm {a b : List (List UInt8)} (h : a.Perm b) : nmSort a = nmSort b := by rw [nmSort, nmSort, stsSort_perm h]
theorem once_nodup {l : List (List UInt8)} (h : l.Pairwise fun a b => a ≤ b) : (stsOnce l).Nodup := by
  unfold stsOnce Lib.compact Lib.compactUpTo List.Nodup
  rw [List.pairwise_map]
  refine (List.Pairwise.filter _ (List.pairwise_lt_range (n := l.length))).imp_of_mem fun {i j} hi hj hij => ?_
  have hj1 := List.mem_filter.1 hj
  have hjn : j < l.length := by simpa using List.mem_range.1 hj1.1
  have hk := hj1.2
  unfold Lib.keeps at hk
  rw [decide_eq_true_eq] at hk
  have h0 : j ≠ 0 := by omega
  have h1 := hk.resolve_left h0
  rw [getElem!_pos l.toArray j (by simpa using hjn), getElem!_pos l.toArray (j - 1) (by simp; omega)] at h1
  rw [getElem!_pos l.toArray j (by simpa using hjn), getElem!_pos l.toArray i (by simp; omega)]
  simp only [List.getElem_toArray] at h1 ⊢
  intro e
  have hle : ∀ (a b : Nat) (ha : a < l.length) (hb : b < l.length), a ≤ b → l[a] ≤ l[b] := fun a b ha hb hab => by
    rcases Nat.lt_or_eq_of_le hab with hlt | rfl
    · exact List.pairwise_iff_getElem.1 h a b ha hb hlt
    · exact List.le_refl _
  refine h1 (List.le_antisymm ?_ ?_)
  · rw [← e]; exact hle i (j - 1) (by omega) (by omega) (by omega)
  · exact hle (j - 1) j (by omega) hjn (by omega)
theorem nmSort_nodup (l : List (List UInt8)) : (nmSort l).Nodup := once_nodup (stsSort_sorted l)

/-! each once, as they come -/
section
variable {α : Type} [DecidableEq α]
def firsts (l : List α) : List α := l.foldl (fun acc s => if s ∈ acc then acc else acc ++ [s]) []
theorem firsts_snoc (l : List α) (s : α) : firsts (l ++ [s]) = if s ∈ firsts l then firsts l else firsts l ++ [s] := by rw [firsts, List.foldl_append]; rfl
theorem firsts_spec (l : List α) : (firsts l).Nodup ∧ ∀ s, s ∈ firsts l ↔ s ∈ l := by
  have key : ∀ n, ∀ l : List α, l.length = n → (firsts l).Nodup ∧ ∀ s, s ∈ firsts l ↔ s ∈ l := by
    intro n
    induction n with
    | zero => intro l hl; rw [List.length_eq_zero_iff.1 hl]; exact ⟨List.nodup_nil, fun s => Iff.rfl⟩
    | succ n ih =>
      intro l hl
      obtain ⟨l', s, rfl⟩ : ∃ l' s, l = l' ++ [s] := by
        have hne : l ≠ [] := by rintro rfl; cases hl
        exact ⟨l.dropLast, l.getLast hne, (List.dropLast_concat_getLast hne).symm⟩
      obtain ⟨h1, h2⟩ := ih l' (by simpa using hl)
      rw [firsts_snoc]
      by_cases hs : s ∈ firsts l'
      · rw [if_pos hs]
        refine ⟨h1, fun x => ?_⟩
        rw [h2, List.mem_append, List.mem_singleton]
        exact ⟨Or.inl, fun h => h.elim id fun e => by rw [e]; exact (h2 s).1 hs⟩
      · rw [if_neg hs]
        refine ⟨?_, fun x => by rw [List.mem_append, List.mem_append, h2]⟩
        rw [List.nodup_append]
        refine ⟨h1, by simp, fun a ha b hb => ?_⟩
        rw [List.mem_singleton] at hb
        subst hb
        rintro rfl
        exact hs ha
  exact key _ l rfl
theorem firsts_old {l : List α} {s : α} (h : s ∈ l) : firsts (l ++ [s]) = firsts l := by rw [firsts_snoc, if_pos (((firsts_spec l).2 s).2 h)]
theorem firsts_new {l : List α} {s : α} (h : s ∉ l) : firsts (l ++ [s]) = firsts l ++ [s] := by rw [firsts_snoc, if_neg fun k => h (((firsts_spec l).2 s).1 k)]
theorem firsts_of_nodup {l : List α} (h : l.Nodup) : (firsts l).Perm l := (List.perm_ext_iff_of_nodup (firsts_spec l).1 h).2 (firsts_spec l).2
theorem firsts_len (l : List α) : (firsts l).length ≤ l.length := (firsts_spec l).1.length_le_of_subset fun _ h => ((firsts_spec l).2 _).1 h
end

/-! what a declaration declares, and what it needs -/
def recB : List UInt8 := [114, 101, 99]
/-- a family's recursor -/
def nmRec (s : List UInt8) : List UInt8 := if nameOk s = true ∧ nameOk (s ++ 46 :: recB) = true then s ++ 46 :: recB else []
def dNames (d : Dc) : List (List UInt8) := if d.kind = 5 then d.name :: (d.ctors.map Ct.name ++ [nmRec d.name]) else [d.name]
def dAll (d : Dc) : List (List UInt8) := tmConsts d.type ++ tmConsts d.value ++ (d.ctors.map fun c => tmConsts c.type).flatten
def dNeeds (d : Dc) : List (List UInt8) := nmSort ((dAll d).filter fun s => !decide (s ∈ dNames d))
def dClash (a b : List (List UInt8)) : List UInt8 × Bool :=
  match a.find? fun s => decide (s ≠ []) && decide (s ∈ b) with
  | some s => (s, true)
  | none => ([], false)
def dFirst : List Dc → List (List UInt8) → Nat → Nat × List UInt8 × Bool
  | [], _, _ => (0, [], false)
  | d :: r, kn, i =>
    match (dNeeds d).find? fun s => !decide (s ∈ kn) with
    | some s => (i, s, true)
    | none => dFirst r (kn ++ dNames d) (i + 1)
theorem dNames_cons (d : Dc) : ∃ r, dNames d = d.name :: r := by
  unfold dNames
  split
  · exact ⟨_, rfl⟩
  · exact ⟨_, rfl⟩
theorem dNames_len (d : Dc) : (dNames d).length ≤ d.ctors.length + 2 := by
  unfold dNames
  split <;> simp
theorem dNeeds_mem {d : Dc} {s : List UInt8} : s ∈ dNeeds d ↔ s ∈ dAll d ∧ s ∉ dNames d := by rw [dNeeds, nmSort_mem, List.mem_filter]; simp
theorem dClash_one {s : List UInt8} {b : List (List UInt8)} : (dClash [s] b).2 = true ↔ s ≠ [] ∧ s ∈ b := by
  unfold dClash
  rw [List.find?_cons]
  by_cases h : s ≠ [] ∧ s ∈ b
  · simp [h.1, h.2]
  · have : (decide (s ≠ []) && decide (s ∈ b)) = false := by
      rw [Bool.and_eq_false_iff]
      by_cases h1 : s = []
      · left; simp [h1]
      · right; exact decide_eq_false fun k => h ⟨h1, k⟩
    rw [this]
    simp [h]
/-! DepsNeeds -/
theorem clash_own (d : Dc) : dClash (dNeeds d) (dNames d) = ([], false) := by
  unfold dClash
  rw [List.find?_eq_none.2 fun s hs => ?_]
  simp [(dNeeds_mem.1 hs).2]
theorem first_own (d : Dc) : dFirst [d] (dNeeds d) 0 = (0, [], false) := by
  unfold dFirst
  rw [List.find?_eq_none.2 fun s hs => by simp [hs]]
  rfl
theorem split_at {α : Type} {l : List α} {i : Nat} (h : i < l.length) : l = l.take i ++ l[i] :: l.drop (i + 1) := by
  rw [← List.drop_eq_getElem_cons h, List.take_append_drop]
theorem first_less (d : Dc) {i : Nat} (h : i < (dNeeds d).length) : dFirst [d] ((dNeeds d).take i ++ (dNeeds d).drop (i + 1)) 0 = (0, (dNeeds d)[i], true) := by
  have hn : (dNeeds d).Nodup := nmSort_nodup ((dAll d).filter fun s => !decide (s ∈ dNames d))
  have hs := split_at h
  have hnot : (dNeeds d)[i] ∉ (dNeeds d).take i ++ (dNeeds d).drop (i + 1) := by
    rw [hs] at hn
    have := (List.nodup_append.1 hn)
    rw [List.mem_append, not_or]
    exact ⟨fun hm => this.2.2 _ hm _ List.mem_cons_self rfl, (List.nodup_cons.1 this.2.1).1⟩
  have hf : (dNeeds d).find? (fun s => !decide (s ∈ (dNeeds d).take i ++ (dNeeds d).drop (i + 1))) = some (dNeeds d)[i] := by
    refine List.find?_eq_some_iff_append.2 ⟨by rw [decide_eq_false hnot]; rfl, (dNeeds d).take i, (dNeeds d).drop (i + 1), hs, fun a ha => ?_⟩
    rw [decide_eq_true (List.mem_append.2 (Or.inl ha))]
    rfl
  unfold dFirst
  rw [hf]

/-! DepsFirst -/
theorem dFirst_spec : ∀ (list : List Dc) (kn : List (List UInt8)) (i a : Nat) (s : List UInt8), dFirst list kn i = (a, s, true) → ∃ k, ∃ h : k < list.length, a = i + k ∧ s ∈ dNeeds list[k] ∧ dFirst (list.take k) kn i = (0, [], false)
  | [], _, _, _, _, h => by cases h
  | d :: r, kn, i, a, s, h => by
    unfold dFirst at h
    split at h
    · rename_i s' hf
      cases h
      exact ⟨0, by simp, rfl, List.mem_of_find?_eq_some hf, rfl⟩
    · rename_i hf
      obtain ⟨k, hk, e, h1, h2⟩ := dFirst_spec r _ _ _ _ h
      refine ⟨k + 1, by simpa using hk, by omega, by simpa using h1, ?_⟩
      rw [List.take_succ_cons]
      unfold dFirst
      rw [hf]
      exact h2
theorem dFirst_no : ∀ (list : List Dc) (kn : List (List UInt8)) (i a : Nat) (s : List UInt8), dFirst list kn i = (a, s, false) → a = 0 ∧ s = []
  | [], _, _, _, _, h => by cases h; exact ⟨rfl, rfl⟩
  | d :: r, kn, i, a, s, h => by
    unfold dFirst at h
    split at h
    · cases h
    · exact dFirst_no r _ _ _ _ h
theorem dFirst_more : ∀ (list : List Dc) (kn more : List (List UInt8)) (i a k : Nat) (s t : List UInt8), dFirst list kn i = (a, s, true) → (∀ x ∈ kn, x ∈ more) → s ∈ more → dFirst list more i = (k, t, true) → a < k ∨ (k = a ∧ t ≠ s)
  | [], _, _, _, _, _, _, _, h, _, _, _ => by cases h
  | d :: r, kn, more, i, a, k, s, t, h, hm, hs, g => by
    unfold dFirst at h g
    split at g
    · rename_i t' hg
      cases g
      have hg1 : t ∉ more := by have := List.find?_some hg; simpa using this
      split at h
      · cases h
        exact Or.inr ⟨rfl, fun e => hg1 (e ▸ hs)⟩
      · rename_i hf
        have := List.find?_eq_none.1 hf t (List.mem_of_find?_eq_some hg)
        exact absurd (hm t (by simpa using this)) hg1
    · rename_i hg
      split at h
      · cases h
        obtain ⟨k', _, e, _⟩ := dFirst_spec r _ _ _ _ g
        omega
      · refine dFirst_more r _ _ _ _ _ _ _ h (fun x hx => ?_) (List.mem_append.2 (Or.inl hs)) g
        rcases List.mem_append.1 hx with hx | hx
        · exact List.mem_append.2 (Or.inl (hm x hx))
        · exact List.mem_append.2 (Or.inr hx)

/-! DepsReach -/
/-- names with the places that declare them -/
def prs (list : List Dc) : List (List UInt8 × Nat) := list.zipIdx.flatMap fun p => (dNames p.1).map fun s => (s, p.2)
def plOf (ps : List (List UInt8 × Nat)) (s : List UInt8) : List Nat := (ps.filter fun p => decide (p.1 = s)).map Prod.snd
def ndOf (list : List Dc) (i : Nat) : List (List UInt8) := dNeeds (list.getD i dc0)
def dSeen (list : List Dc) (ns : List (List UInt8)) : Sg := visAll (plOf (prs list)) (ndOf list) (prs list).length ns
def dReach (list : List Dc) (ns : List (List UInt8)) : List (List UInt8) := nmSort (dSeen list ns).1
theorem plOf_mem {ps : List (List UInt8 × Nat)} {s : List UInt8} {i : Nat} : i ∈ plOf ps s ↔ (s, i) ∈ ps := by
  unfold plOf
  simp only [List.mem_map, List.mem_filter, decide_eq_true_eq]
  constructor
  · rintro ⟨p, ⟨h, rfl⟩, rfl⟩; exact h
  · exact fun h => ⟨_, ⟨h, rfl⟩, rfl⟩
theorem prs_mem {list : List Dc} {s : List UInt8} {i : Nat} : (s, i) ∈ prs list ↔ ∃ h : i < list.length, s ∈ dNames list[i] := by
  unfold prs
  simp only [List.mem_flatMap, List.mem_map, Prod.mk.injEq]
  constructor
  · rintro ⟨⟨d, j⟩, hp, x, hx, rfl, rfl⟩
    obtain ⟨h, e⟩ := List.mem_zipIdx' hp
    exact ⟨h, by rw [← e]; exact hx⟩
  · rintro ⟨h, hs⟩
    exact ⟨(list[i], i), List.mem_zipIdx_iff_getElem?.2 (by simp [h]), s, hs, rfl, rfl⟩
theorem plOf_ne {ps : List (List UInt8 × Nat)} {s : List UInt8} : plOf ps s ≠ [] ↔ s ∈ ps.map Prod.fst := by
  constructor
  · intro h
    obtain ⟨i, hi⟩ := List.exists_mem_of_ne_nil _ h
    exact List.mem_map.2 ⟨_, plOf_mem.1 hi, rfl⟩
  · intro h e
    obtain ⟨⟨s', i⟩, hp, rfl⟩ := List.mem_map.1 h
    have : i ∈ plOf ps s' := plOf_mem.2 hp
    rw [e] at this
    cases this
def pkeys (ps : List (List UInt8 × Nat)) : List (List UInt8) := firsts (ps.map Prod.fst)
theorem pkeys_all {ps : List (List UInt8 × Nat)} (s : List UInt8) (h : plOf ps s ≠ []) : s ∈ pkeys ps := ((firsts_spec _).2 s).2 (plOf_ne.1 h)
theorem pkeys_len (ps : List (List UInt8 × Nat)) : (pkeys ps).length ≤ ps.length := Nat.le_trans (firsts_len _) (by simp)
theorem dSeen_spec (list : List Dc) (ns : List (List UInt8)) : Sg.Ok (plOf (prs list)) (dSeen list ns) ∧ Done (plOf (prs list)) (ndOf list) (fun _ => False) (fun _ => False) (dSeen list ns) ∧ (∀ s ∈ ns, plOf (prs list) s ≠ [] → s ∈ (dSeen list ns).1) ∧ (∀ C, Shut (plOf (prs list)) (ndOf list) C → (∀ s ∈ ns, plOf (prs list) s ≠ [] → C s) → ∀ x ∈ (dSeen list ns).1, C x) :=
  visAll_spec (firsts_spec _).1 pkeys_all _ (pkeys_len _) ns
theorem dReach_mem {list : List Dc} {ns : List (List UInt8)} {s : List UInt8} : s ∈ dReach list ns ↔ s ∈ (dSeen list ns).1 := nmSort_mem
theorem dSeen_shut (list : List Dc) (ns : List (List UInt8)) : Shut (plOf (prs list)) (ndOf list) fun s => s ∈ (dSeen list ns).1 := by
  obtain ⟨_, ⟨h1, h2⟩, _, _⟩ := dSeen_spec list ns
  exact fun s hs i hi n hn hp => h2 i (h1 s hs id i hi) id n hn hp
theorem dReach_again (list : List Dc) (ns : List (List UInt8)) : dReach list (dReach list ns) = dReach list ns := by
  obtain ⟨⟨h1, h2⟩, _, _, _⟩ := dSeen_spec list ns
  obtain ⟨⟨g1, _⟩, _, g3, g4⟩ := dSeen_spec list (dReach list ns)
  refine nmSort_perm ((List.perm_ext_iff_of_nodup g1 h1).2 fun s => ⟨fun hs => ?_, fun hs => ?_⟩)
  · exact g4 _ (dSeen_shut list ns) (fun s hs _ => dReach_mem.1 hs) s hs
  · exact g3 s (dReach_mem.2 hs) (h2 s hs)
theorem dReach_needs (list : List Dc) (ns : List (List UInt8)) {i : Nat} (h : i < list.length) {s n : List UInt8} (hs : s ∈ dNames list[i]) (hr : s ∈ dReach list ns) (hn : n ∈ dNeeds list[i]) {j : Nat} (hj : j < list.length) (hd : n ∈ dNames list[j]) : n ∈ dReach list ns := by
  refine dReach_mem.2 (dSeen_shut list ns s (dReach_mem.1 hr) i (plOf_mem.2 (prs_mem.2 ⟨h, hs⟩)) n ?_ ?_)
  · unfold ndOf
    rw [List.getD_eq_getElem?_getD, List.getElem?_eq_getElem h]
    exact hn
  · intro e
    have : j ∈ plOf (prs list) n := plOf_mem.2 (prs_mem.2 ⟨hj, hd⟩)
    rw [e] at this
    cases this
end Go.Proofs.YtpjolipkmemcoaaGreatDoor

/-
  Maps as rows of keys: found, put; counts of keys. No condition.
-/
namespace Go.Proofs.YtpjolipkmemcoaaGreatDoor
open Go.RowKit

section
variable {α : Type} [DecidableEq α] {kx : α → AV}
/-- a map's entries: the keys as they came, each with what stands there -/
def kE (kx v : α → AV) : List α → Nat → List (Nat × AV × AV)
  | [], _ => []
  | s :: r, n => (n, kx s, v s) :: kE kx v r (n + 1)
def updF (v : α → AV) (s : α) (x : AV) : α → AV := fun t => if t = s then x else v t
omit [DecidableEq α] in
theorem kE_congr {v v' : α → AV} : ∀ {ks : List α} {n : Nat}, (∀ s ∈ ks, v s = v' s) → kE kx v ks n = kE kx v' ks n
  | [], _, _ => rfl
  | s :: r, n, h => by rw [kE, kE, h s (by simp), kE_congr fun x hx => h x (List.mem_cons_of_mem _ hx)]
omit [DecidableEq α] in
theorem kE_append (v : α → AV) : ∀ (a b : List α) (n : Nat), kE kx v (a ++ b) n = kE kx v a n ++ kE kx v b (n + a.length)
  | [], b, n => rfl
  | s :: r, b, n => by
    rw [List.cons_append, kE, kE, kE_append v r b, List.cons_append, List.length_cons]
    rw [show n + 1 + r.length = n + (r.length + 1) by omega]
omit [DecidableEq α] in
theorem kE_len (v : α → AV) : ∀ (a : List α) (n : Nat), (kE kx v a n).length = a.length
  | [], _ => rfl
  | s :: r, n => by rw [kE, List.length_cons, List.length_cons, kE_len v r]
omit [DecidableEq α] in
theorem kE_mem {v : α → AV} : ∀ {a : List α} {n : Nat} {p : Nat × AV × AV}, p ∈ kE kx v a n → n ≤ p.1 ∧ p.1 < n + a.length ∧ ∃ h : p.1 - n < a.length, p.2.1 = kx (a[p.1 - n]) ∧ p.2.2 = v (a[p.1 - n])
  | [], _, _, h => by cases h
  | s :: r, n, p, h => by
    rw [kE] at h
    rcases List.mem_cons.1 h with rfl | h
    · simp
    · obtain ⟨h1, h2, h3, h4, h5⟩ := kE_mem h
      refine ⟨by omega, by simp only [List.length_cons]; omega, by simp only [List.length_cons]; omega, ?_, ?_⟩
      · rw [h4]; congr 1
        rw [List.getElem_cons, dif_neg (by omega)]
        congr 1
      · rw [h5]; congr 1
        rw [List.getElem_cons, dif_neg (by omega)]
        congr 1
omit [DecidableEq α] in
theorem kE_get {v : α → AV} : ∀ {a : List α} {n i : Nat} (h : i < a.length), (n + i, kx a[i], v a[i]) ∈ kE kx v a n
  | s :: r, n, 0, _ => by rw [kE]; exact List.mem_cons_self
  | s :: r, n, i + 1, h => by
    rw [kE]
    have := kE_get (v := v) (a := r) (n := n + 1) (i := i) (by simpa using h)
    rw [show n + 1 + i = n + (i + 1) by omega] at this
    exact List.mem_cons_of_mem _ this
omit [DecidableEq α] in
theorem kE_stamps (v : α → AV) : ∀ (a : List α) (n : Nat), (kE kx v a n).map (·.1) = List.range' n a.length
  | [], _ => rfl
  | s :: r, n => by rw [kE, List.map_cons, kE_stamps v r, List.length_cons, List.range'_succ]
omit [DecidableEq α] in
theorem kE_nodup (v : α → AV) (a : List α) (n : Nat) : ((kE kx v a n).map (·.1)).Nodup := by rw [kE_stamps]; exact List.nodup_range'
variable (hk : ∀ a b : α, keyEq (kx a) (kx b) = decide (a = b))
include hk
theorem kE_find (v : α → AV) (s : α) : ∀ (ks : List α) (n : Nat), mpFind (kx s) (kE kx v ks n) = if s ∈ ks then some (n + ks.idxOf s, v s) else none
  | [], _ => rfl
  | t :: r, n => by
    rw [kE, mpFind, hk]
    by_cases h : s = t
    · subst h
      rw [decide_eq_true rfl, if_pos (by simp)]
      simp
    · rw [decide_eq_false h, cond_false, kE_find v s r]
      by_cases hr : s ∈ r
      · rw [if_pos hr, if_pos (by simp [hr])]
        rw [List.idxOf_cons, show (t == s) = false from beq_false_of_ne (Ne.symm h)]
        simp only [cond_false]
        rw [show n + 1 + List.idxOf s r = n + (List.idxOf s r + 1) by omega]
      · rw [if_neg hr, if_neg (by simp [hr, h])]
theorem kE_set (v : α → AV) (s : α) (x : AV) : ∀ (ks : List α) (n : Nat), ks.Nodup → s ∈ ks → mpSet (kx s) x (kE kx v ks n) = kE kx (updF v s x) ks n
  | [], _, _, h => by cases h
  | t :: r, n, hn, h => by
    rw [List.nodup_cons] at hn
    rw [kE, mpSet, hk]
    by_cases e : s = t
    · subst e
      rw [decide_eq_true rfl, cond_true, kE]
      congr 1
      · show _ = (n, kx s, updF v s x s)
        rw [updF, if_pos rfl]
      · refine kE_congr fun y hy => ?_
        rw [updF, if_neg]
        rintro rfl
        exact hn.1 hy
    · rw [decide_eq_false e, cond_false, kE, kE_set v s x r _ hn.2 ((List.mem_cons.1 h).resolve_left e)]
      congr 1
      rw [updF, if_neg (Ne.symm e)]
/-- what a key put does -/
theorem kE_put (v : α → AV) (s : α) (x : AV) (ks : List α) (hn : ks.Nodup) : mpPut (kx s) x (kE kx v ks 0) ks.length = (kE kx (updF v s x) (if s ∈ ks then ks else ks ++ [s]) 0, (if s ∈ ks then ks else ks ++ [s]).length) := by
  unfold mpPut
  rw [kE_find hk]
  by_cases h : s ∈ ks
  · rw [if_pos h, if_pos h]
    simp only
    rw [kE_set hk v s x ks 0 hn h]
  · rw [if_neg h, if_neg h]
    simp only
    rw [kE_append, List.length_append, kE, kE, updF, if_pos rfl, Nat.zero_add]
    congr 2
    exact kE_congr fun y hy => by
      rw [updF, if_neg]
      rintro rfl
      exact h hy

theorem kE_put_old (v : α → AV) (s : α) (x : AV) (ks : List α) (hn : ks.Nodup) (h : s ∈ ks) : mpPut (kx s) x (kE kx v ks 0) ks.length = (kE kx (updF v s x) ks 0, ks.length) := by rw [kE_put hk v s x ks hn, if_pos h]
theorem kE_put_new (v : α → AV) (s : α) (x : AV) (ks : List α) (hn : ks.Nodup) (h : s ∉ ks) : mpPut (kx s) x (kE kx v ks 0) ks.length = (kE kx (updF v s x) (ks ++ [s]) 0, (ks ++ [s]).length) := by rw [kE_put hk v s x ks hn, if_neg h]
theorem kE_find_yes (v : α → AV) (s : α) (ks : List α) (h : s ∈ ks) : ∃ n, mpFind (kx s) (kE kx v ks 0) = some (n, v s) := by rw [kE_find hk, if_pos h]; exact ⟨_, rfl⟩
theorem kE_find_no (v : α → AV) (s : α) (ks : List α) (h : s ∉ ks) : mpFind (kx s) (kE kx v ks 0) = none := by rw [kE_find hk, if_neg h]

/-! counts -/
omit hk in
/-- how often it stands there -/
def cntN (s : α) (l : List α) : Nat := l.count s
omit hk in
def idxN (s : α) (l : List α) : Nat := l.idxOf s
omit hk in
theorem cntN_pos {s : α} {l : List α} (h : s ∈ l) : 0 < cntN s l := List.count_pos_iff.2 h
omit hk in
theorem cntN_zero {s : α} {l : List α} (h : s ∉ l) : cntN s l = 0 := List.count_eq_zero.2 h
omit hk in
theorem cntN_le (s : α) (l : List α) : cntN s l ≤ l.length := List.count_le_length
omit hk in
theorem cntN_snoc (s : α) (l : List α) : cntN s (l ++ [s]) = cntN s l + 1 := by unfold cntN; rw [List.count_append]; simp
omit hk in
/-- how many times each key came -/
def talV (l : List α) : α → AV := fun s => .i ((l.count s : Nat) : Int)
omit hk in
def talE (kx : α → AV) (l : List α) : List (Nat × AV × AV) := kE kx (talV l) (firsts l) 0
theorem tal_find (l : List α) (s : α) : mpFind (kx s) (talE kx l) = if s ∈ l then some (idxN s (firsts l), .i ((cntN s l : Nat) : Int)) else none := by
  rw [talE, kE_find hk]
  by_cases h : s ∈ l
  · rw [if_pos h, if_pos (((firsts_spec l).2 s).2 h), Nat.zero_add]; rfl
  · rw [if_neg h, if_neg fun k => h (((firsts_spec l).2 s).1 k)]
theorem tal_val (l : List α) (s : α) : (match mpFind (kx s) (talE kx l) with
    | some (_, x) => x
    | none => AV.i 0) = .i ((cntN s l : Nat) : Int) := by
  rw [tal_find hk]
  by_cases h : s ∈ l
  · rw [if_pos h]
  · rw [if_neg h, cntN_zero h]; rfl
theorem tal_put (l : List α) (s : α) : mpPut (kx s) (.i ((cntN s l : Nat) + 1 : Int)) (talE kx l) (firsts l).length = (talE kx (l ++ [s]), (firsts (l ++ [s])).length) := by
  obtain ⟨h1, h2⟩ := firsts_spec l
  have e : (if s ∈ firsts l then firsts l else firsts l ++ [s]) = firsts (l ++ [s]) := (firsts_snoc l s).symm
  rw [talE, kE_put hk _ _ _ _ h1, e, talE]
  congr 1
  refine kE_congr fun t ht => ?_
  unfold updF talV
  by_cases hts : t = s
  · subst hts
    rw [if_pos rfl, show List.count t (l ++ [t]) = cntN t l + 1 from cntN_snoc t l]
    simp
  · unfold cntN
    rw [if_neg hts, List.count_append, List.count_singleton]
    rw [show (s == t) = false from beq_false_of_ne (Ne.symm hts)]
    simp
end
theorem key_str (a b : List UInt8) : keyEq (.str a) (.str b) = decide (a = b) := rfl
theorem key_nat (a b : Nat) : keyEq (.i (a : Int)) (.i (b : Int)) = decide (a = b) := by
  show decide ((a : Int) = (b : Int)) = _
  rw [Bool.eq_iff_iff, decide_eq_true_eq, decide_eq_true_eq]
  omega
theorem keys_str {v : List UInt8 → AV} {ks : List (List UInt8)} {n : Nat} (s : List UInt8) : KeysOk .string (.str s) (kE .str v ks n) := ⟨trivial, fun p hp => by
  obtain ⟨_, _, _, e, _⟩ := kE_mem hp
  rw [e]; trivial⟩
theorem keys_nat {v : Nat → AV} {ks : List Nat} {n : Nat} (s : Nat) : KeysOk (.int .i64) (.i (s : Int)) (kE (fun k : Nat => AV.i (k : Int)) v ks n) := ⟨rfl, fun p hp => by
  obtain ⟨_, _, _, e, _⟩ := kE_mem hp
  rw [e]; rfl⟩
end Go.Proofs.YtpjolipkmemcoaaGreatDoor

/-
  slices.IndexFunc and DeleteFunc over texts in memory that may turn. No condition.
-/
namespace Go.Proofs.YtpjolipkmemcoaaGreatDoor
open Go.RowKit

theorem run_cells {f : List AV → Rs} {K : T → Prop} {a r : List AV} (hd : a = r) (h : (f r).run K) : (f a).run K := by subst hd; exact h
/-- the cells while texts are struck: those that were kept, what is left over, those that come -/
def delC (p : List UInt8 → Bool) (ss : List (List UInt8)) (rest : List AV) (mid : List AV) (j : Nat) : List AV := ((ss.take j).filter fun s => !p s).map AV.str ++ (mid ++ ((ss.drop j).map AV.str ++ rest))
theorem del_at {p : List UInt8 → Bool} {ss : List (List UInt8)} {rest mid : List AV} {j : Nat} (h : j < ss.length) (hm : ((ss.take j).filter fun s => !p s).length + mid.length = j) : (delC p ss rest mid j).drop (0 + j * 1) = .str ss[j] :: ((ss.drop (j + 1)).map AV.str ++ rest) := by
  rw [Nat.zero_add, Nat.mul_one, delC, ← List.append_assoc, List.drop_left' (by rw [List.length_append, List.length_map]; exact hm), List.drop_eq_getElem_cons h]
  rfl
theorem del_no {p : List UInt8 → Bool} {ss : List (List UInt8)} {rest mid : List AV} {j : Nat} (h : j < ss.length) (hp : p ss[j] = true) : delC p ss rest mid j = delC p ss rest (mid ++ [.str ss[j]]) (j + 1) := by
  rw [delC, delC, List.take_succ_eq_append_getElem h, List.filter_append, List.drop_eq_getElem_cons h, List.map_cons]
  simp only [List.filter_cons, List.filter_nil, hp, Bool.not_true, Bool.false_eq_true, if_false, List.append_nil, List.append_assoc, List.cons_append, List.nil_append]
theorem del_yes {p : List UInt8 → Bool} {ss : List (List UInt8)} {rest mid : List AV} {m0 : AV} {j : Nat} (h : j < ss.length) (hp : p ss[j] = false) : putCells (delC p ss rest (m0 :: mid) j) (0 + ((ss.take j).filter fun s => !p s).length * 1) [.str ss[j]] = delC p ss rest (mid ++ [.str ss[j]]) (j + 1) := by
  have hl : (((ss.take j).filter fun s => !p s).map AV.str).length = ((ss.take j).filter fun s => !p s).length := List.length_map _
  rw [delC, delC, Nat.zero_add, Nat.mul_one, putCells, List.take_left' hl, ← List.drop_drop, List.drop_left' hl, List.take_succ_eq_append_getElem h, List.filter_append, List.drop_eq_getElem_cons h, List.map_cons]
  simp only [List.filter_cons, List.filter_nil, hp, Bool.not_false, if_true, List.map_append, List.map_cons, List.map_nil, List.length_cons, List.length_nil, List.drop_succ_cons, List.drop_zero, List.cons_append, List.append_assoc, List.nil_append, Nat.zero_add]
theorem del_len {p : List UInt8 → Bool} {ss : List (List UInt8)} {rest mid : List AV} {j : Nat} : (delC p ss rest mid j).length = ((ss.take j).filter fun s => !p s).length + (mid.length + ((ss.drop j).length + rest.length)) := by
  rw [delC]; simp
/-- the first at which it holds -/
def idxP (p : List UInt8 → Bool) (ss : List (List UInt8)) : Int := if ss.any p = true then (ss.findIdx p : Int) else -1
theorem findIdx_take {p : List UInt8 → Bool} {ss : List (List UInt8)} {k : Nat} (h : k < ss.length) (h1 : (ss.take k).any p = false) (h2 : p ss[k] = true) : ss.findIdx p = k := by
  rw [List.findIdx_eq h]
  refine ⟨h2, fun j hj => ?_⟩
  have hjl : j < (ss.take k).length := by rw [List.length_take]; omega
  have := List.any_eq_false.1 h1 (ss.take k)[j] (List.getElem_mem hjl)
  rw [List.getElem_take] at this
  simpa using this
set_option maxRecDepth 100000 in
theorem IndexM_con {g : FuncId} {caps : List AV} {p : List UInt8 → Bool} (ss : List (List UInt8)) {b cap : Nat} {rest : List AV} {H : Heap} (hn1 : ss.length ≤ 1000000)
    (hg : ∀ s ∈ ss, ∀ Q : AV → Heap → Prop, Q (.b (p s)) ((b, .cells (ss.map .str ++ rest)) :: H) → Con Tryz.prog g ([.str s] ++ caps) ((b, .cells (ss.map .str ++ rest)) :: H) Q) (q : Int) (hqi : idxP p ss = q) (Q : AV → Heap → Prop) (hq : Q (.i q) ((b, .cells (ss.map .str ++ rest)) :: H)) :
    Con Tryz.prog 47 [hs b ss.length cap, .fn (.func g) caps] ((b, .cells (ss.map .str ++ rest)) :: H) Q := by
  refine con_of_awp (esc := fun _ => false) tab_ok mixed Tryz.func47 rfl (ent Tryz.func47 (by kernel_rfl) rfl) (by kernel_rfl) ?_
  intro hw hn
  clear hw hn
  refine ⟨Nat, fun k => ⟨[(0, .g (hs b ss.length cap)), (1, .g (.fn (.func g) caps)), (4, .g (.i 0)), (7, .g (.i ss.length)), (8, .g (.i k))], [], (b, .cells (ss.map .str ++ rest)) :: H⟩, fun k => k ≤ ss.length ∧ (ss.take k).any p = false, fun k => ss.length - k, ⟨0, ⟨Nat.zero_le _, rfl⟩, ?_⟩, ?_⟩
  · (constructor <;> repeat' (first | exact trivial | exact ⟨rfl, rfl⟩ | exact ⟨rfl, LeL.refl _⟩ | exact Le.refl _ | exact List.Sublist.refl _ | (show Le (AV.i _) (AV.i _); rw [List.length_map]; exact Le.refl _) | refine And.intro ?_ ?_))
  · rintro k ⟨hk, hpre⟩
    refine ifB_dec (fun h => ?_) (fun h => ?_)
    · have hlt : k < ss.length := by omega
      have hd : (ss.map AV.str ++ rest).drop (0 + k * 1) = .str ss[k] :: ((ss.drop (k + 1)).map AV.str ++ rest) := by
        rw [Nat.zero_add, Nat.mul_one, List.drop_append_of_le_length (by simp; omega), ← List.map_drop, List.drop_eq_getElem_cons hlt]
        rfl
      refine ⟨k, rfl, hlt, ?_⟩
      refine ⟨_, List.mem_cons_self, run_cells (f := partR tab 9) hd ?_⟩
      refine ⟨_, LeL.refl _, hg _ (List.getElem_mem hlt) _ ?_⟩
      intro hz1 hz2; clear hz1 hz2
      cases hh : p ss[k] with
      | true =>
        refine ⟨_, _, Le.refl _, List.Sublist.refl _, ?_⟩
        rw [idxP, if_pos (any_yes hlt hh), findIdx_take hlt hpre hh] at hqi
        rw [hqi]
        exact hq
      | false =>
        refine ⟨in64_of (by first | omega | (dsimp only; omega)) (by first | omega | (dsimp only; omega)), ?_⟩
        refine ⟨k + 1, ⟨by omega, any_take hlt hpre hh⟩, by (try dsimp only); omega, ?_⟩
        (constructor <;> repeat' (first | exact trivial | exact ⟨rfl, rfl⟩ | exact ⟨rfl, LeL.refl _⟩ | exact Le.refl _ | exact List.Sublist.refl _ | (show Le (AV.i _) (AV.i _); rw [List.length_map]; exact Le.refl _) | refine And.intro ?_ ?_))
    · have hk' : k = ss.length := by omega
      rw [hk', List.take_length] at hpre
      rw [idxP, hpre] at hqi
      subst hqi
      exact ⟨_, _, Le.refl _, List.Sublist.refl _, hq⟩
end Go.Proofs.YtpjolipkmemcoaaGreatDoor

/-
  strings.Join over texts; name.Join. No condition.
-/
namespace Go.Proofs.YtpjolipkmemcoaaGreatDoor
open Go.RowKit

theorem strs_cells {M : Mem} {w : World} (hm : ∀ b o v, M b o = some v → w.cell? ⟨b, o, none⟩ = some v) : ∀ {ss : List (List UInt8)} {b o : Nat}, atE M (ss.map .str) b o → ∀ (j : Nat) (x : ByteArray), (ss.map fun l => (⟨l.toArray⟩ : ByteArray))[j]? = some x → w.cell? ⟨b, o + j, none⟩ = some (.string x)
  | [], _, _, _, j, x, hx => by simp at hx
  | s :: ss, b, o, h, j, x, hx => by
    simp only [List.map_cons, atE] at h
    obtain ⟨⟨c, h1, _, h2⟩, h3⟩ := h
    simp only [rep] at h2
    cases j with
    | zero =>
      simp only [List.map_cons, List.getElem?_cons_zero, Option.some.injEq] at hx
      subst hx
      rw [Nat.add_zero, hm _ _ _ h1, h2.1]
    | succ j =>
      rw [List.map_cons, List.getElem?_cons_succ] at hx
      have := strs_cells hm h3 j x hx
      rwa [show o + 1 + j = o + (j + 1) by omega] at this
theorem evo_below {M : Mem} {H : Heap} {w w' : World} (h : Inv M H w) (hb : Below w.heap.size w w') : Evo [] M w M w' ∧ Inv M H w' := by
  have e : Evo [] M w M w' := ⟨hb.os, hb.tape, hb.output, hb.size, fun k hk _ => hb.block k hk, Mem.le.refl M, fun _ _ _ h => Or.inl h⟩
  refine ⟨e, h.evo0 e fun b o v hv => ?_⟩
  rw [← h.mem b o v hv]
  simp only [World.cell?, hb.block b (h.lt hv)]
theorem bx_ok : Builder.Extra Tryz.prog Tryz.l156_ren where
  sizeBuilder := by kernel_rfl
  liesBuilder := by kernel_rfl
  t5 := Tryz.underlying5
  a5 := Tryz.isAgg5
  z5 := Tryz.sizeOf5
  v5 := Tryz.zeroValue5
  infoByte := by kernel_rfl
  cellsByte := by kernel_rfl
  sizeByte := by kernel_rfl
  neB5 := by decide
set_option maxRecDepth 100000 in
theorem sJoin_con (o : Own) (ss : List (List UInt8)) (sep : List UInt8) (hl : ss.length ≤ 1000000) (hlen : (Lib.join ss sep).length ≤ 140737488355328) : Ans Tryz.prog 30 [.sl o 1 (ss.map .str), .str sep] (.str (Lib.join ss sep)) := by
  intro H Q hq M w vs _ hI hargs
  simp only [repT] at hargs
  obtain ⟨v, _, rfl, hv, v2, _, rfl, hv2, rfl⟩ := hargs
  simp only [rep] at hv hv2
  obtain ⟨rfl, _⟩ := hv2
  obtain ⟨a, cap, rfl, h1, h2, h3, _, _, h4⟩ := hv
  rw [List.length_map] at h1 h4 ⊢
  rw [ent Tryz.func30 (by kernel_rfl) rfl]
  have fin : ∀ w', Below w.heap.size w w' → ∃ v : Value, Ending.returned (.string ⟨(Lib.join ss sep).toArray⟩) = .returned v ∧ ∃ M' r H', Evo H.keys M w M' w' ∧ Inv M' H' w' ∧ (∀ b ∈ H'.keys, b ∈ H.keys ∨ w.heap.size ≤ b) ∧ rep M' r v ∧ Q r H' := fun w' hb => by
    obtain ⟨e1, e2⟩ := evo_below hI hb
    refine ⟨_, rfl, M, .str (Lib.join ss sep), H, e1.mono (by simp), e2, fun q hq => Or.inl hq, ?_, hq⟩
    simp only [rep, true_and]
    omega
  have hdat : ∀ l : List (List UInt8), (l.map fun x => (⟨x.toArray⟩ : ByteArray)).map (·.data.toList) = l := fun l => by
    rw [List.map_map]
    exact List.map_id' l
  have hsep : (⟨sep.toArray⟩ : ByteArray).data.toList = sep := by simp
  cases ss with
  | nil =>
    refine Calls.mono (Any.strings_Join_none Tryz.l156 bx_ok a cap ⟨sep.toArray⟩ w) ?_
    rintro e w' ⟨rfl, hw⟩
    rw [hw]
    have := fin w (Below.refl _ _)
    rw [show Lib.join [] sep = [] from rfl] at this
    exact this
  | cons s ss0 =>
    obtain ⟨ss, hss⟩ : ∃ ss, ss = s :: ss0 := ⟨_, rfl⟩
    rw [← hss] at h1 h4 fin hl hlen ⊢
    have hpos : 0 < ss.length := by rw [hss]; simp
    obtain ⟨b, off, rfl, hat⟩ := h4 hpos
    have hb : b < w.heap.size := by
      have := strs_cells hI.mem hat 0 ⟨s.toArray⟩ (by rw [hss]; rfl)
      rcases Nat.lt_or_ge b w.heap.size with h | h
      · exact h
      · simp [World.cell?, Array.getElem?_eq_none h] at this
    have hc := Any.strings_Join Tryz.l156 bx_ok b off cap (ss.map fun l => ⟨l.toArray⟩) ⟨sep.toArray⟩ w (strs_cells hI.mem hat) hb (by rw [List.length_map]; omega) (by rw [List.length_map]; exact h1) (by rw [hdat, hsep]; exact hlen)
    rw [hdat, hsep, List.length_map] at hc
    refine Calls.mono hc ?_
    rintro e w' ⟨rfl, hw⟩
    exact fin w' hw
/-- the name of parts -/
def nmJoin (ss : List (List UInt8)) : List UInt8 × Bool := if (ss.any fun s => !nameOk s) = true ∨ nameOk (Lib.join ss [46]) = false then ([], false) else (Lib.join ss [46], true)
theorem join_len (ss : List (List UInt8)) (h : ∀ s ∈ ss, s.length ≤ 40) : (Lib.join ss [46]).length ≤ 41 * ss.length := by
  have key : ∀ r : List (List UInt8), (∀ s ∈ r, s.length ≤ 40) → (Lib.joinTail [46] r).length ≤ 41 * r.length := by
    intro r
    induction r with
    | nil => intro _; exact Nat.zero_le _
    | cons s r ih =>
      intro h
      have h1 := h s (by simp)
      have h2 := ih fun x hx => h x (List.mem_cons_of_mem _ hx)
      unfold Lib.joinTail at h2 ⊢
      rw [List.map_cons, List.flatten_cons, List.length_append, List.length_append, List.length_cons]
      simp only [List.length_cons, List.length_nil]
      omega
  cases ss with
  | nil => exact Nat.zero_le _
  | cons s r =>
    have h1 := h s (by simp)
    have h2 := key r fun x hx => h x (List.mem_cons_of_mem _ hx)
    rw [Lib.join_cons, List.length_append, List.length_cons]
    omega
theorem nameOk_len {s : List UInt8} (h : nameOk s = true) : s.length ≤ 40 := by
  unfold nameOk at h
  simp only [Bool.and_eq_true, decide_eq_true_eq] at h
  exact h.1.2
set_option maxRecDepth 100000 in
theorem Join_con (o : Own) (ss : List (List UInt8)) (hl : ss.length ≤ 1000000) : Ans Tryz.prog 11 [.sl o 1 (ss.map .str)] (.tup [.str (nmJoin ss).1, .b (nmJoin ss).2]) := by
  intro H Q hq
  have inner : ∀ (s : List UInt8) (Q : AV → Heap → Prop), Q (.b (!nameOk s)) H → Con Tryz.prog 28 ([.str s] ++ []) H Q := by
    intro s Q hQ
    refine con_of_awp (esc := fun _ => false) tab_ok mixed Tryz.func28 rfl (ent Tryz.func28 (by kernel_rfl) rfl) (by kernel_rfl) ?_
    intro hw hn
    refine ⟨_, LeL.refl _, nameRight_con _ _ _ ?_⟩
    intro hz1 hz2; clear hz1 hz2
    exact ⟨_, H, Le.refl _, List.Sublist.refl _, hQ⟩
  refine con_of_awp (esc := fun _ => false) tab_ok mixed Tryz.func11 rfl (ent Tryz.func11 (by kernel_rfl) rfl) (by kernel_rfl) ?_
  intro hw hn
  have fin : ∀ q : List UInt8 × Bool, q = nmJoin ss → ∃ r H', Le (.tup [.str q.1, .b q.2]) r ∧ List.Sublist H' H ∧ Q r H' := fun q h => ⟨_, H, Le.refl _, List.Sublist.refl _, by rw [h]; exact hq⟩
  refine ⟨[.sl .no 1 (ss.map .str), .fn (.func 28) []], ⟨Le.own _ _ _, Le.refl _, trivial⟩, anySt (p := fun s => !nameOk s) ss H (fun s _ Q hQ => inner s Q hQ) _ ?_⟩
  intro hz1 hz2; clear hz1 hz2
  cases hany : ss.any fun s => !nameOk s with
  | true => exact fin ([], false) (by rw [nmJoin, if_pos (Or.inl hany)])
  | false =>
    have hjl := join_len ss fun s hs => by
      have := List.any_eq_false.1 hany s hs
      have h : nameOk s = true := by simpa using this
      exact nameOk_len h
    refine ⟨_, LeL.refl _, sJoin_con o ss [46] hl (by omega) _ _ ?_⟩
    intro hz1 hz2; clear hz1 hz2
    cases hok : nameOk (Lib.join ss [46]) with
    | false =>
      refine ⟨_, LeL.refl _, (nameRight_con (Lib.join ss [46])).as hok _ _ ?_⟩
      intro hz1 hz2; clear hz1 hz2
      exact fin ([], false) (by rw [nmJoin, if_pos (Or.inr hok)])
    | true =>
      refine ⟨_, LeL.refl _, (nameRight_con (Lib.join ss [46])).as hok _ _ ?_⟩
      intro hz1 hz2; clear hz1 hz2
      exact fin (Lib.join ss [46], true) (by rw [nmJoin, if_neg]; rw [hany, hok]; simp)
theorem nmJoin_rec (s : List UInt8) : (nmJoin [s, recB]).1 = nmRec s := by
  have hr : nameOk recB = true := by decide
  have hj : Lib.join [s, recB] [46] = s ++ 46 :: recB := by rw [Lib.join_cons]; rfl
  unfold nmJoin nmRec
  rw [hj, List.any_cons, List.any_cons, List.any_nil, hr]
  cases nameOk s <;> cases nameOk (s ++ 46 :: recB) <;> rfl
end Go.Proofs.YtpjolipkmemcoaaGreatDoor
