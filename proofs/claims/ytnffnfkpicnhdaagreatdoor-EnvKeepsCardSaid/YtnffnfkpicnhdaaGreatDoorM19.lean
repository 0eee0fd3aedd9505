/-
  Texts put together: R6, Lays5, Z1, Z2, Z3, Z4. No condition.
-/
import Derived.Test.YtnffnfkpicnhdaaGreatDoorM15
import Derived.Test.YtnffnfkpicnhdaaGreatDoorM13
import Derived.Test.YtnffnfkpicnhdaaGreatDoorM12
import Derived.Test.YtnffnfkpicnhdaaGreatDoorM16
import Derived.Shelf.Slices.Clone
import Derived.Ground.Names2Prog
import Derived.Test.YtnffnfkpicnhdaaGreatDoorM17
/-
  The reference's entries: span, Right, Plain, at, Type, Value. No condition.
-/
namespace Go.Proofs.YtnffnfkpicnhdaaGreatDoor
open Go.RowKit

/-- an entry's parts, one by one -/
def EnH (e : En) : Prop := (e.kind = 2 → spanB e.height 1 1048576 = true) ∧ (e.kind ≠ 2 → e.height = 0)
def EnI (e : En) : Prop := (e.kind = 6 ∨ e.kind = 7) → nameOk e.family = true ∧ spanB e.fixed 0 32 = true ∧ spanB e.index 0 32 = true ∧ spanB e.fields 0 32 = true
def EnO (e : En) : Prop := ¬ (e.kind = 6 ∨ e.kind = 7) → e.family = [] ∧ e.index = 0 ∧ e.fields = 0 ∧ (e.kind = 5 → spanB e.fixed 0 16 = true) ∧ (e.kind ≠ 5 → e.fixed = 0)
def EnC (e : En) : Prop := (¬ (e.kind = 5 ∨ e.kind = 7) → e.ctors.length = 0) ∧ e.ctors.length ≤ 8
theorem enNumbered_iff (e : En) : enNumbered e = true ↔ EnH e ∧ EnI e ∧ EnO e := by
  unfold enNumbered EnH EnI EnO
  by_cases k : e.kind = 6 ∨ e.kind = 7
  · have k2 : e.kind ≠ 2 := by omega
    rw [if_pos k]
    simp only [Bool.and_eq_true, decide_eq_true_eq]
    constructor
    · rintro ⟨h1, h2⟩
      exact ⟨⟨fun h => absurd h k2, fun _ => h1⟩, fun _ => h2, fun h => absurd k h⟩
    · rintro ⟨h1, h2, _⟩
      exact ⟨h1.2 k2, h2 k⟩
  · rw [if_neg k]
    by_cases k5 : e.kind = 5
    · have k2 : e.kind ≠ 2 := by omega
      rw [if_pos k5]
      simp only [Bool.and_eq_true, decide_eq_true_eq]
      constructor
      · rintro ⟨h1, h2, h3, h4, h5⟩
        exact ⟨⟨fun h => absurd h k2, fun _ => h1⟩, fun h => absurd h k, fun _ => ⟨h2, h4, h5, fun _ => h3, fun h => absurd k5 h⟩⟩
      · rintro ⟨h1, _, h3⟩
        obtain ⟨a, b, c, d, _⟩ := h3 k
        exact ⟨h1.2 k2, a, d k5, b, c⟩
    · rw [if_neg k5]
      by_cases k2 : e.kind = 2
      · rw [if_pos k2]
        simp only [Bool.and_eq_true, decide_eq_true_eq]
        constructor
        · rintro ⟨h1, h2, h3, h4, h5⟩
          exact ⟨⟨fun _ => h1, fun h => absurd k2 h⟩, fun h => absurd h k, fun _ => ⟨h2, h4, h5, fun h => absurd h k5, fun _ => h3⟩⟩
        · rintro ⟨h1, _, h3⟩
          obtain ⟨a, b, c, _, d⟩ := h3 k
          exact ⟨h1.1 k2, a, d k5, b, c⟩
      · rw [if_neg k2]
        simp only [Bool.and_eq_true, decide_eq_true_eq]
        constructor
        · rintro ⟨h1, h2, h3, h4, h5⟩
          exact ⟨⟨fun h => absurd h k2, fun _ => h1⟩, fun h => absurd h k, fun _ => ⟨h2, h4, h5, fun h => absurd h k5, fun _ => h3⟩⟩
        · rintro ⟨h1, _, h3⟩
          obtain ⟨a, b, c, _, d⟩ := h3 k
          exact ⟨h1.2 k2, a, d k5, b, c⟩
theorem enListed_iff (e : En) : enListed e = true ↔ EnC e ∧ (e.ctors.any fun s => !nameOk s) = false := by
  unfold enListed EnC
  by_cases k : e.kind = 5 ∨ e.kind = 7
  · rw [if_pos k]
    simp only [Bool.and_eq_true, decide_eq_true_eq, Bool.not_eq_true']
    exact ⟨fun h => ⟨⟨fun h => absurd k h, h.1⟩, h.2⟩, fun h => ⟨h.1.2, h.2⟩⟩
  · rw [if_neg k]
    simp only [decide_eq_true_eq]
    constructor
    · intro h
      exact ⟨⟨fun _ => h, by omega⟩, by rw [List.eq_nil_of_length_eq_zero h]; rfl⟩
    · intro h
      exact h.1.1 k
theorem enRight_iff (e : En) : enRight e = true ↔ spanB e.kind 1 7 = true ∧ nameOk e.name = true ∧ spanB e.params 0 4 = true ∧ tmRight e.params 0 e.type = true ∧ enValued e = true ∧ (EnH e ∧ EnI e ∧ EnO e) ∧ EnC e ∧ (e.ctors.any fun s => !nameOk s) = false := by
  unfold enRight
  simp only [Bool.and_eq_true, enNumbered_iff, enListed_iff]

set_option maxRecDepth 100000 in
theorem ref11span_con (n a b : Int) : Ans Tryz.prog 64 [.i n, .i a, .i b] (.b (spanB n a b)) := by
  intro H Q hq
  refine con_of_awp (esc := fun _ => false) tab_ok mixed Tryz.func64 rfl (ent Tryz.func64 (by kernel_rfl) rfl) (by kernel_rfl) ?_
  intro hw hn
  have fin : ∀ q : Bool, q = spanB n a b → ∃ r H', Le (.b q) r ∧ List.Sublist H' H ∧ Q r H' := fun q h => ⟨_, H, ret_b h, List.Sublist.refl _, hq⟩
  refine ifB_dec (fun h1 => ?_) (fun h1 => ?_)
  · refine ifB_dec (fun h2 => ?_) (fun h2 => ?_)
    · exact fin _ (by simp [spanB, show a ≤ n from h1, show n ≤ b from h2])
    · exact fin _ (by simp [spanB, show ¬ n ≤ b from h2])
  · exact fin _ (by simp [spanB, show ¬ a ≤ n from h1])
set_option maxRecDepth 100000 in
set_option maxHeartbeats 1000000 in
theorem ref11Right_con (e : En) : Ans Tryz.prog 41 [enX e] (.b (enRight e)) := by
  intro H Q hq
  have hiff := enRight_iff e
  have fin : ∀ q : Bool, q = enRight e → ∃ r H', Le (.b q) r ∧ List.Sublist H' H ∧ Q r H' := fun q h => ⟨_, H, ret_b h, List.Sublist.refl _, hq⟩
  have no : ¬ enRight e = true → ∃ r H', Le (.b false) r ∧ List.Sublist H' H ∧ Q r H' := fun h => fin _ (ntrue h).symm
  refine con_of_sem tab_ok Tryz.func41 rfl (ent Tryz.func41 (by kernel_rfl) rfl) (by kernel_rfl) ?_
  intro hw hn
  clear hw hn
  refine sem_seq (esc := fun _ => false) tab_ok mixed ?_
  refine sem_seq (esc := fun _ => false) tab_ok mixed ?_
  by_cases k1 : spanB e.kind 1 7 = true
  rotate_left
  · refine ⟨_, LeL.refl _, (ref11span_con e.kind 1 7).no k1 _ _ ?_⟩
    intro hz1 hz2; clear hz1 hz2
    exact no (fun h => k1 ((fun h => h.1) (hiff.1 h)))
  refine ⟨_, LeL.refl _, (ref11span_con e.kind 1 7).yes k1 _ _ ?_⟩
  intro hz1 hz2; clear hz1 hz2
  by_cases k2 : nameOk e.name = true
  rotate_left
  · refine ⟨_, LeL.refl _, (ref01Right_con e.name).no k2 _ _ ?_⟩
    intro hz1 hz2; clear hz1 hz2
    exact no (fun h => k2 ((fun h => h.2.1) (hiff.1 h)))
  refine ⟨_, LeL.refl _, (ref01Right_con e.name).yes k2 _ _ ?_⟩
  intro hz1 hz2; clear hz1 hz2
  by_cases k4 : tmRight e.params 0 e.type = true
  rotate_left
  · refine ⟨_, LeL.refl _, (ref04Right_con e.params 0 e.type).no k4 _ _ ?_⟩
    intro hz1 hz2; clear hz1 hz2
    exact no (fun h => k4 ((fun h => h.2.2.2.1) (hiff.1 h)))
  refine ⟨_, LeL.refl _, (ref04Right_con e.params 0 e.type).yes k4 _ _ ?_⟩
  intro hz1 hz2; clear hz1 hz2
  by_cases k3 : spanB e.params 0 4 = true
  rotate_left
  · refine ⟨_, LeL.refl _, (ref11span_con e.params 0 4).no k3 _ _ ?_⟩
    intro hz1 hz2; clear hz1 hz2
    exact no (fun h => k3 ((fun h => h.2.2.1) (hiff.1 h)))
  refine ⟨_, LeL.refl _, (ref11span_con e.params 0 4).yes k3 _ _ ?_⟩
  intro hz1 hz2; clear hz1 hz2
  have hp : 0 ≤ e.params ∧ e.params ≤ 4 := by simpa [spanB] using k3
  refine sem_seq (esc := fun _ => false) tab_ok mixed ?_
  refine ⟨[tmX e.value, tmX tm0], ⟨Le.refl _, le_tm0, trivial⟩, SameTerm_con _ e.value tm0 (Nat.le_refl _) _ _ ?_⟩
  intro hz1 hz2; clear hz1 hz2
  obtain ⟨none, hnone⟩ : ∃ q, tmEq e.value tm0 = q := ⟨_, rfl⟩
  refine sem_le ⟨[(1, .lp 1 0), (2, .g (.b false)), (3, .g (.b none))], [(1, (enX e).cells)], H⟩ ?_ ?_
  · exact ⟨⟨⟨rfl, rfl⟩, Le.refl _, ret_b hnone, trivial⟩, ⟨⟨rfl, LeL.refl _⟩, trivial⟩, List.Sublist.refl _⟩
  refine sem_join (esc := fun _ => false) tab_ok mixed (X := Unit) (fun q => ⟨[(1, .lp 1 0), (2, .g (.b false))], [(1, (enX e).cells)], H⟩) (fun q => enValued e = true) ?_ (fun q hI => ?_)
  · have hv := hiff
    refine ifB_dec (fun h2 => ?_) (fun h2 => ?_)
    · have hval : enValued e = tmRight e.params 0 e.value := by rw [enValued, if_pos (by omega)]
      by_cases h7 : tmRight e.params 0 e.value = true
      rotate_left
      · refine ⟨_, LeL.refl _, (ref04Right_con e.params 0 e.value).no h7 _ _ ?_⟩
        intro hz1 hz2; clear hz1 hz2
        exact no (fun h => h7 (by rw [← hval]; exact (hiff.1 h).2.2.2.2.1))
      refine ⟨_, LeL.refl _, (ref04Right_con e.params 0 e.value).yes h7 _ _ ?_⟩
      intro hz1 hz2; clear hz1 hz2
      refine ⟨(), by rw [hval]; exact h7, ?_⟩
      (constructor <;> repeat' (first | exact trivial | exact ⟨rfl, rfl⟩ | exact ⟨rfl, LeL.refl _⟩ | exact Le.refl _ | exact List.Sublist.refl _ | (show Le (AV.i _) (AV.i _); rw [List.length_map]; exact Le.refl _) | refine And.intro ?_ ?_))
    refine ifB_dec (fun h3 => ?_) (fun h3 => ?_)
    · have hval : enValued e = tmRight e.params 0 e.value := by rw [enValued, if_pos (by omega)]
      by_cases h7 : tmRight e.params 0 e.value = true
      rotate_left
      · refine ⟨_, LeL.refl _, (ref04Right_con e.params 0 e.value).no h7 _ _ ?_⟩
        intro hz1 hz2; clear hz1 hz2
        exact no (fun h => h7 (by rw [← hval]; exact (hiff.1 h).2.2.2.2.1))
      refine ⟨_, LeL.refl _, (ref04Right_con e.params 0 e.value).yes h7 _ _ ?_⟩
      intro hz1 hz2; clear hz1 hz2
      refine ⟨(), by rw [hval]; exact h7, ?_⟩
      (constructor <;> repeat' (first | exact trivial | exact ⟨rfl, rfl⟩ | exact ⟨rfl, LeL.refl _⟩ | exact Le.refl _ | exact List.Sublist.refl _ | (show Le (AV.i _) (AV.i _); rw [List.length_map]; exact Le.refl _) | refine And.intro ?_ ?_))
    refine ifB_dec (fun h4 => ?_) (fun h4 => ?_)
    · have hval : enValued e = tmRight e.params 0 e.value := by rw [enValued, if_pos (by omega)]
      by_cases h7 : tmRight e.params 0 e.value = true
      rotate_left
      · refine ⟨_, LeL.refl _, (ref04Right_con e.params 0 e.value).no h7 _ _ ?_⟩
        intro hz1 hz2; clear hz1 hz2
        exact no (fun h => h7 (by rw [← hval]; exact (hiff.1 h).2.2.2.2.1))
      refine ⟨_, LeL.refl _, (ref04Right_con e.params 0 e.value).yes h7 _ _ ?_⟩
      intro hz1 hz2; clear hz1 hz2
      refine ⟨(), by rw [hval]; exact h7, ?_⟩
      (constructor <;> repeat' (first | exact trivial | exact ⟨rfl, rfl⟩ | exact ⟨rfl, LeL.refl _⟩ | exact Le.refl _ | exact List.Sublist.refl _ | (show Le (AV.i _) (AV.i _); rw [List.length_map]; exact Le.refl _) | refine And.intro ?_ ?_))
    have hno : ¬ (2 ≤ e.kind ∧ e.kind ≤ 4) := by omega
    refine ifB_dec (fun h6 => ?_) (fun h6 => ?_)
    · have hval : enValued e = (tmEq e.value tm0 || tmRight (min (e.params + 1) 4) 0 e.value) := by rw [enValued, if_neg hno, if_pos h6]
      rw [hnone] at hval
      cases none with
      | true =>
        refine ⟨(), by rw [hval]; rfl, ?_⟩
        (constructor <;> repeat' (first | exact trivial | exact ⟨rfl, rfl⟩ | exact ⟨rfl, LeL.refl _⟩ | exact Le.refl _ | exact List.Sublist.refl _ | (show Le (AV.i _) (AV.i _); rw [List.length_map]; exact Le.refl _) | refine And.intro ?_ ?_))
      | false =>
        refine ⟨in64_of (by first | omega | (dsimp only; omega)) (by first | omega | (dsimp only; omega)), ?_⟩
        by_cases h7 : tmRight (min (e.params + 1) 4) 0 e.value = true
        rotate_left
        · refine ⟨_, LeL.refl _, (ref04Right_con (min (e.params + 1) 4) 0 e.value).no h7 _ _ ?_⟩
          intro hz1 hz2; clear hz1 hz2
          exact no (fun h => h7 (by have := (hiff.1 h).2.2.2.2.1; rw [hval] at this; exact this))
        refine ⟨_, LeL.refl _, (ref04Right_con (min (e.params + 1) 4) 0 e.value).yes h7 _ _ ?_⟩
        intro hz1 hz2; clear hz1 hz2
        refine ⟨(), by rw [hval]; exact h7, ?_⟩
        (constructor <;> repeat' (first | exact trivial | exact ⟨rfl, rfl⟩ | exact ⟨rfl, LeL.refl _⟩ | exact Le.refl _ | exact List.Sublist.refl _ | (show Le (AV.i _) (AV.i _); rw [List.length_map]; exact Le.refl _) | refine And.intro ?_ ?_))
    · have hval : enValued e = tmEq e.value tm0 := by rw [enValued, if_neg hno, if_neg h6]
      rw [hnone] at hval
      cases none with
      | true =>
        refine ⟨(), hval, ?_⟩
        (constructor <;> repeat' (first | exact trivial | exact ⟨rfl, rfl⟩ | exact ⟨rfl, LeL.refl _⟩ | exact Le.refl _ | exact List.Sublist.refl _ | (show Le (AV.i _) (AV.i _); rw [List.length_map]; exact Le.refl _) | refine And.intro ?_ ?_))
      | false => exact no (fun h => by have := (hiff.1 h).2.2.2.2.1; rw [hval] at this; cases this)
  have kv := hI
  clear hI
  refine sem_join (esc := fun _ => false) tab_ok mixed (X := Unit) (fun q => ⟨[(1, .lp 1 0), (2, .g (.b false))], [(1, (enX e).cells)], H⟩) (fun q => EnH e) ?_ (fun q hI => ?_)
  · by_cases k : e.kind = 2
    · refine ifB_t k ?_
      by_cases k5 : spanB e.height 1 1048576 = true
      rotate_left
      · refine ⟨_, LeL.refl _, (ref11span_con e.height 1 1048576).no k5 _ _ ?_⟩
        intro hz1 hz2; clear hz1 hz2
        exact no (fun h => k5 ((fun h => h.2.2.2.2.2.1.1.1 k) (hiff.1 h)))
      refine ⟨_, LeL.refl _, (ref11span_con e.height 1 1048576).yes k5 _ _ ?_⟩
      intro hz1 hz2; clear hz1 hz2
      refine ifB_t k ?_
      refine ⟨(), ⟨fun _ => k5, fun h => absurd k h⟩, ?_⟩
      (constructor <;> repeat' (first | exact trivial | exact ⟨rfl, rfl⟩ | exact ⟨rfl, LeL.refl _⟩ | exact Le.refl _ | exact List.Sublist.refl _ | (show Le (AV.i _) (AV.i _); rw [List.length_map]; exact Le.refl _) | refine And.intro ?_ ?_))
    · refine ifB_f k ?_
      refine ifB_f k ?_
      refine ifB_dec (fun k5 => ?_) (fun k5 => ?_)
      · refine ⟨(), ⟨fun h => absurd h k, fun _ => k5⟩, ?_⟩
        (constructor <;> repeat' (first | exact trivial | exact ⟨rfl, rfl⟩ | exact ⟨rfl, LeL.refl _⟩ | exact Le.refl _ | exact List.Sublist.refl _ | (show Le (AV.i _) (AV.i _); rw [List.length_map]; exact Le.refl _) | refine And.intro ?_ ?_))
      · exact no (fun h => k5 ((hiff.1 h).2.2.2.2.2.1.1.2 k))
  have kh := hI
  clear hI
  refine sem_join (esc := fun _ => false) tab_ok mixed (X := Bool) (fun q => ⟨[(1, .lp 1 0), (2, .g (.b false)), (4, .g (.b q))], [(1, (enX e).cells)], H⟩) (fun q => (q = true ↔ e.kind = 6 ∨ e.kind = 7)) ?_ (fun q hI => ?_)
  · refine ifB_dec (fun k6 => ?_) (fun k6 => ?_)
    · refine ⟨true, ⟨fun _ => Or.inl k6, fun _ => rfl⟩, ?_⟩
      (constructor <;> repeat' (first | exact trivial | exact ⟨rfl, rfl⟩ | exact ⟨rfl, LeL.refl _⟩ | exact Le.refl _ | exact List.Sublist.refl _ | (show Le (AV.i _) (AV.i _); rw [List.length_map]; exact Le.refl _) | refine And.intro ?_ ?_))
    refine ifB_dec (fun k7 => ?_) (fun k7 => ?_)
    · refine ⟨true, ⟨fun _ => Or.inr k7, fun _ => rfl⟩, ?_⟩
      (constructor <;> repeat' (first | exact trivial | exact ⟨rfl, rfl⟩ | exact ⟨rfl, LeL.refl _⟩ | exact Le.refl _ | exact List.Sublist.refl _ | (show Le (AV.i _) (AV.i _); rw [List.length_map]; exact Le.refl _) | refine And.intro ?_ ?_))
    · refine ⟨false, ⟨nofun, fun h => absurd h (by omega)⟩, ?_⟩
      (constructor <;> repeat' (first | exact trivial | exact ⟨rfl, rfl⟩ | exact ⟨rfl, LeL.refl _⟩ | exact Le.refl _ | exact List.Sublist.refl _ | (show Le (AV.i _) (AV.i _); rw [List.length_map]; exact Le.refl _) | refine And.intro ?_ ?_))
  have kq := hI
  clear hI
  refine sem_join (esc := fun _ => false) tab_ok mixed (X := Unit) (fun _ => ⟨[(1, .lp 1 0), (2, .g (.b false)), (4, .g (.b q))], [(1, (enX e).cells)], H⟩) (fun _ => EnI e) ?_ (fun _ hI => ?_)
  · cases q with
    | false =>
      refine ⟨(), fun h => absurd (kq.2 h) nofun, ?_⟩
      (constructor <;> repeat' (first | exact trivial | exact ⟨rfl, rfl⟩ | exact ⟨rfl, LeL.refl _⟩ | exact Le.refl _ | exact List.Sublist.refl _ | (show Le (AV.i _) (AV.i _); rw [List.length_map]; exact Le.refl _) | refine And.intro ?_ ?_))
    | true =>
      have k67 := kq.1 rfl
      by_cases m1 : nameOk e.family = true
      rotate_left
      · refine ⟨_, LeL.refl _, (ref01Right_con e.family).no m1 _ _ ?_⟩
        intro hz1 hz2; clear hz1 hz2
        exact no (fun h => m1 ((fun h => (h.2.2.2.2.2.1.2.1 k67).1) (hiff.1 h)))
      refine ⟨_, LeL.refl _, (ref01Right_con e.family).yes m1 _ _ ?_⟩
      intro hz1 hz2; clear hz1 hz2
      by_cases m2 : spanB e.fixed 0 32 = true
      rotate_left
      · refine ⟨_, LeL.refl _, (ref11span_con e.fixed 0 32).no m2 _ _ ?_⟩
        intro hz1 hz2; clear hz1 hz2
        exact no (fun h => m2 ((fun h => (h.2.2.2.2.2.1.2.1 k67).2.1) (hiff.1 h)))
      refine ⟨_, LeL.refl _, (ref11span_con e.fixed 0 32).yes m2 _ _ ?_⟩
      intro hz1 hz2; clear hz1 hz2
      by_cases m3 : spanB e.index 0 32 = true
      rotate_left
      · refine ⟨_, LeL.refl _, (ref11span_con e.index 0 32).no m3 _ _ ?_⟩
        intro hz1 hz2; clear hz1 hz2
        exact no (fun h => m3 ((fun h => (h.2.2.2.2.2.1.2.1 k67).2.2.1) (hiff.1 h)))
      refine ⟨_, LeL.refl _, (ref11span_con e.index 0 32).yes m3 _ _ ?_⟩
      intro hz1 hz2; clear hz1 hz2
      by_cases m4 : spanB e.fields 0 32 = true
      rotate_left
      · refine ⟨_, LeL.refl _, (ref11span_con e.fields 0 32).no m4 _ _ ?_⟩
        intro hz1 hz2; clear hz1 hz2
        exact no (fun h => m4 ((fun h => (h.2.2.2.2.2.1.2.1 k67).2.2.2) (hiff.1 h)))
      refine ⟨_, LeL.refl _, (ref11span_con e.fields 0 32).yes m4 _ _ ?_⟩
      intro hz1 hz2; clear hz1 hz2
      refine ⟨(), fun _ => ⟨m1, m2, m3, m4⟩, ?_⟩
      (constructor <;> repeat' (first | exact trivial | exact ⟨rfl, rfl⟩ | exact ⟨rfl, LeL.refl _⟩ | exact Le.refl _ | exact List.Sublist.refl _ | (show Le (AV.i _) (AV.i _); rw [List.length_map]; exact Le.refl _) | refine And.intro ?_ ?_))
  have ki := hI
  clear hI
  refine sem_join (esc := fun _ => false) tab_ok mixed (X := Unit) (fun q => ⟨[(1, .lp 1 0), (2, .g (.b false))], [(1, (enX e).cells)], H⟩) (fun q => EnO e) ?_ (fun q hI => ?_)
  · cases q with
    | true =>
      refine ⟨(), fun h => absurd (kq.1 rfl) h, ?_⟩
      (constructor <;> repeat' (first | exact trivial | exact ⟨rfl, rfl⟩ | exact ⟨rfl, LeL.refl _⟩ | exact Le.refl _ | exact List.Sublist.refl _ | (show Le (AV.i _) (AV.i _); rw [List.length_map]; exact Le.refl _) | refine And.intro ?_ ?_))
    | false =>
      have k67 : ¬ (e.kind = 6 ∨ e.kind = 7) := fun h => absurd (kq.2 h) nofun
      have ho : enRight e = true → _ := fun h => (hiff.1 h).2.2.2.2.2.1.2.2 k67
      refine ifB_dec (fun m1 => ?_) (fun m1 => ?_)
      rotate_left
      · exact no (fun h => m1 (ho h).1)
      refine ifB_dec (fun m2 => ?_) (fun m2 => ?_)
      rotate_left
      · exact no (fun h => m2 (ho h).2.1)
      refine ifB_dec (fun m3 => ?_) (fun m3 => ?_)
      rotate_left
      · exact no (fun h => m3 (ho h).2.2.1)
      by_cases k5 : e.kind = 5
      · refine ifB_t k5 ?_
        by_cases m4 : spanB e.fixed 0 16 = true
        rotate_left
        · refine ⟨_, LeL.refl _, (ref11span_con e.fixed 0 16).no m4 _ _ ?_⟩
          intro hz1 hz2; clear hz1 hz2
          exact no (fun h => m4 ((fun h => (h.2.2.2.2.2.1.2.2 k67).2.2.2.1 k5) (hiff.1 h)))
        refine ⟨_, LeL.refl _, (ref11span_con e.fixed 0 16).yes m4 _ _ ?_⟩
        intro hz1 hz2; clear hz1 hz2
        refine ifB_t k5 ?_
        refine ⟨(), fun _ => ⟨m1, m2, m3, fun _ => m4, fun h => absurd k5 h⟩, ?_⟩
        (constructor <;> repeat' (first | exact trivial | exact ⟨rfl, rfl⟩ | exact ⟨rfl, LeL.refl _⟩ | exact Le.refl _ | exact List.Sublist.refl _ | (show Le (AV.i _) (AV.i _); rw [List.length_map]; exact Le.refl _) | refine And.intro ?_ ?_))
      · refine ifB_f k5 ?_
        refine ifB_f k5 ?_
        refine ifB_dec (fun m4 => ?_) (fun m4 => ?_)
        rotate_left
        · exact no (fun h => m4 ((ho h).2.2.2.2 k5))
        refine ⟨(), fun _ => ⟨m1, m2, m3, fun h => absurd h k5, fun _ => m4⟩, ?_⟩
        (constructor <;> repeat' (first | exact trivial | exact ⟨rfl, rfl⟩ | exact ⟨rfl, LeL.refl _⟩ | exact Le.refl _ | exact List.Sublist.refl _ | (show Le (AV.i _) (AV.i _); rw [List.length_map]; exact Le.refl _) | refine And.intro ?_ ?_))
  have ko := hI
  clear hI
  refine sem_join (esc := fun _ => false) tab_ok mixed (X := Unit) (fun q => ⟨[(1, .lp 1 0), (2, .g (.b false))], [(1, (enX e).cells)], H⟩) (fun q => EnC e) ?_ (fun q hI => ?_)
  · skip
    by_cases k5 : e.kind = 5
    · refine ifB_t k5 ?_
      refine ifB_dec (fun m8 => ?_) (fun m8 => ?_)
      · simp only [List.length_map] at m8
        exact no (fun h => by have := (hiff.1 h).2.2.2.2.2.2.1.2; omega)
      simp only [List.length_map] at m8
      refine ⟨(), ⟨fun h => absurd (Or.inl k5) h, by omega⟩, ?_⟩
      (constructor <;> repeat' (first | exact trivial | exact ⟨rfl, rfl⟩ | exact ⟨rfl, LeL.refl _⟩ | exact Le.refl _ | exact List.Sublist.refl _ | (show Le (AV.i _) (AV.i _); rw [List.length_map]; exact Le.refl _) | refine And.intro ?_ ?_))
    · refine ifB_f k5 ?_
      by_cases k7 : e.kind = 7
      · refine ifB_t k7 ?_
        refine ifB_dec (fun m8 => ?_) (fun m8 => ?_)
        · simp only [List.length_map] at m8
          exact no (fun h => by have := (hiff.1 h).2.2.2.2.2.2.1.2; omega)
        simp only [List.length_map] at m8
        refine ⟨(), ⟨fun h => absurd (Or.inr k7) h, by omega⟩, ?_⟩
        (constructor <;> repeat' (first | exact trivial | exact ⟨rfl, rfl⟩ | exact ⟨rfl, LeL.refl _⟩ | exact Le.refl _ | exact List.Sublist.refl _ | (show Le (AV.i _) (AV.i _); rw [List.length_map]; exact Le.refl _) | refine And.intro ?_ ?_))
      · refine ifB_f k7 ?_
        refine ifB_dec (fun m0 => ?_) (fun m0 => ?_)
        rotate_left
        · simp only [List.length_map] at m0
          exact no (fun h => by have := (hiff.1 h).2.2.2.2.2.2.1.1 (by omega); omega)
        simp only [List.length_map] at m0
        refine ifB_dec (fun m8 => ?_) (fun m8 => ?_)
        · simp only [List.length_map] at m8
          exact no (fun h => by have := (hiff.1 h).2.2.2.2.2.2.1.2; omega)
        simp only [List.length_map] at m8
        refine ⟨(), ⟨fun _ => by omega, by omega⟩, ?_⟩
        (constructor <;> repeat' (first | exact trivial | exact ⟨rfl, rfl⟩ | exact ⟨rfl, LeL.refl _⟩ | exact Le.refl _ | exact List.Sublist.refl _ | (show Le (AV.i _) (AV.i _); rw [List.length_map]; exact Le.refl _) | refine And.intro ?_ ?_))
  have kc := hI
  clear hI
  have hc8 := kc.2
  refine sem_join (esc := fun _ => false) tab_ok mixed (X := Unit) (fun q => ⟨[], [], H⟩) (fun q => (e.ctors.any fun s => !nameOk s) = false) ?_ (fun q hI => ?_)
  · refine ⟨Nat, fun j => ⟨[(1, .lp 1 0), (2, .g (.b false)), (5, .g (.i j))], [(1, (enX e).cells)], H⟩, fun j => j ≤ e.ctors.length ∧ ((e.ctors.take j).any fun s => !nameOk s) = false, fun j => e.ctors.length - j, ⟨0, ⟨Nat.zero_le _, rfl⟩, ?_⟩, ?_⟩
    · (constructor <;> repeat' (first | exact trivial | exact ⟨rfl, rfl⟩ | exact ⟨rfl, LeL.refl _⟩ | exact Le.refl _ | exact List.Sublist.refl _ | (show Le (AV.i _) (AV.i _); rw [List.length_map]; exact Le.refl _) | refine And.intro ?_ ?_))
    · rintro j ⟨hj, hall⟩
      refine ifB_dec (fun h1 => ?_) (fun h1 => ?_)
      · simp only [List.length_map] at h1
        have hlt : j < e.ctors.length := by omega
        refine ⟨j, rfl, _, stAt hlt, ?_⟩
        by_cases m1 : nameOk e.ctors[j] = true
        rotate_left
        · refine ⟨_, LeL.refl _, (ref01Right_con e.ctors[j]).no m1 _ _ ?_⟩
          intro hz1 hz2; clear hz1 hz2
          exact no (fun h => by
            have h2 := (hiff.1 h).2.2.2.2.2.2.2
            rw [any_yes (f := fun s => !nameOk s) hlt (by rw [ntrue m1]; rfl)] at h2
            cases h2)
        refine ⟨_, LeL.refl _, (ref01Right_con e.ctors[j]).yes m1 _ _ ?_⟩
        intro hz1 hz2; clear hz1 hz2
        refine ⟨in64_of (by first | omega | (dsimp only; omega)) (by first | omega | (dsimp only; omega)), ?_⟩
        refine ⟨j + 1, ⟨by omega, any_take_step hlt hall (by rw [m1]; rfl)⟩, by (try dsimp only); omega, ?_⟩
        (constructor <;> repeat' (first | exact trivial | exact ⟨rfl, rfl⟩ | exact ⟨rfl, LeL.refl _⟩ | exact Le.refl _ | exact List.Sublist.refl _ | (show Le (AV.i _) (AV.i _); rw [List.length_map]; exact Le.refl _) | refine And.intro ?_ ?_))
      · simp only [List.length_map] at h1
        have hj' : e.ctors.length = j := by omega
        subst hj'
        rw [List.take_length] at hall
        exact ⟨(), hall, ⟨trivial, trivial, List.Sublist.refl _⟩⟩
  refine sem_of (esc := fun _ => false) tab_ok mixed ?_
  exact fin _ (hiff.2 ⟨k1, k2, k3, k4, kv, ⟨kh, ki, ko⟩, kc, hI⟩).symm


end Go.Proofs.YtnffnfkpicnhdaaGreatDoor

/-
  DERIVED: THE SHELF's CONTRACTS AT THIS DUMP, IN PLAIN WORDS (tools/lay-plain.mjs out of 'YtnffnfkpicnhdaaGreatDoorLays5.lean', which tools/lay-shelf.mjs wrote): THE SAME DECLARATIONS UNDER THE SAME NAMES: 'import', 'namespace', 'open', 'def', 'theorem' AND NOTHING ELSE: no command of the shelf's: FOR A HAND-IN. Each laying: the table of numbers ('.._ren') and one theorem, a field a fact of the dump's own or the kernel's comparison; each contract: ONE APPLICATION.
-/
namespace Go.Proofs.YtnffnfkpicnhdaaGreatDoor
open Go.Shelf
def Tryz.l16_ren : Go.Shelf.Ren := ⟨fun | 16 => 83 | n => n, fun | 24 => 59 | 9 => 9 | 4 => 4 | n => n, fun | n => n⟩
theorem Tryz.l16 : Go.Proofs.Lays2.n16 Tryz.prog Tryz.l16_ren := {
  mixed := by kernel_rfl
  f16 := Tryz.func83.trans (congrArg some (by kernel_rfl))
  t4 := Tryz.underlying4
  a4 := Tryz.isAgg4
  z4 := Tryz.sizeOf4
  v4 := Tryz.zeroValue4
  t9 := Tryz.underlying9
  a9 := Tryz.isAgg9
  z9 := Tryz.sizeOf9
  v9 := Tryz.zeroValue9
  t24 := Tryz.underlying59
  a24 := Tryz.isAgg59
  z24 := Tryz.sizeOf59
  v24 := Tryz.zeroValue59
  i9 := by kernel_rfl }
end Go.Proofs.YtnffnfkpicnhdaaGreatDoor

/-
  term.fresh and App of a term whose rows lie in memory that turns: what is made is as always. No condition.
-/
namespace Go.Proofs.YtnffnfkpicnhdaaGreatDoor
open Go.RowKit

theorem mem_buf {q : Option Cap} {H : Heap} {p : Nat × AObj} (h : p ∈ H) : p ∈ bufH q H := (bufH_sub q H).subset h
theorem turn_at {f : List AV → Rs} {K : T → Prop} {a r : List AV} (hd : a = r) (h : (f r).run K) : (f a).run K := by subst hd; exact h
/-- a row that may turn, somewhere among the objects -/
def MvIn (n : Nat) (xs : List AV) (H : Heap) : Mv → Prop
  | none => n = 0
  | some (b, cap, cs) => (b, .cells cs) ∈ H ∧ ∃ r, cs = xs.flatMap AV.cells ++ r ∧ n ≤ cap ∧ cap ≤ maxLen
theorem MvIn.of {size n : Nat} {xs : List AV} {H H' : Heap} {m : Mv} (h : MvOk size n xs H m) (hs : (mvH m H).Sublist H') : MvIn n xs H' m := by
  cases m with
  | none => exact h.1
  | some p =>
    obtain ⟨b, cap, cs⟩ := p
    exact ⟨hs.subset List.mem_cons_self, cs.drop (n * size), by rw [← h.2.here, List.take_append_drop], h.2.le, h.2.max⟩
theorem MvIn.up {n : Nat} {xs : List AV} {H H' : Heap} {m : Mv} (h : MvIn n xs H m) (hs : ∀ p ∈ H, p ∈ H') : MvIn n xs H' m := by
  cases m with
  | none => exact h
  | some p => exact ⟨hs _ h.1, h.2⟩
theorem row_at {size : Nat} {xs r : List AV} (hw : wide size xs) {j : Nat} (hj : j < xs.length) : (xs.flatMap AV.cells ++ r).drop (0 + j * size) = xs[j].cells ++ ((xs.drop (j + 1)).flatMap AV.cells ++ r) := by
  have e : xs.flatMap AV.cells = (xs.take j).flatMap AV.cells ++ (xs[j].cells ++ (xs.drop (j + 1)).flatMap AV.cells) := by
    conv => lhs; rw [← List.take_append_drop j xs, List.drop_eq_getElem_cons hj]
    rw [List.flatMap_append, List.flatMap_cons]
  have hl : ((xs.take j).flatMap AV.cells).length = 0 + j * size := by
    rw [flat_len ⟨fun h => by rw [hw.1 h, List.take_nil], fun y hy => hw.2 y (List.mem_of_mem_take hy)⟩, List.length_take, Nat.min_eq_left (Nat.le_of_lt hj), Nat.zero_add]
  rw [e, List.append_assoc, ← hl, List.drop_left' rfl, List.append_assoc]
theorem row_lv {ls : List Lv} {r : List AV} {j : Nat} (hj : j < ls.length) : ((ls.map lvA).flatMap AV.cells ++ r).drop (0 + j * 3) = .i ls[j].kind :: .i ls[j].n :: .sl .no 3 (ls[j].args.map lvA) :: (((ls.map lvA).drop (j + 1)).flatMap AV.cells ++ r) := by
  rw [row_at (wide_lvs ls) (by rw [List.length_map]; exact hj), List.getElem_map, lvA_eq]
  rfl
theorem row_tm {ls : List Tm} {r : List AV} {j : Nat} (hj : j < ls.length) : ((ls.map tmA).flatMap AV.cells ++ r).drop (0 + j * 5) = .i ls[j].kind :: .i ls[j].n :: .str ls[j].name :: .sl .no 3 (ls[j].levels.map lvA) :: .sl .no 5 (ls[j].args.map tmA) :: (((ls.map tmA).drop (j + 1)).flatMap AV.cells ++ r) := by
  rw [row_at (wide_tms ls) (by rw [List.length_map]; exact hj), List.getElem_map, tmA_eq]
  rfl
/-- a term whose rows may turn -/
def tmM (t : Tm) (mL mA : Mv) : AV := .agg [.i t.kind, .i t.n, .str t.name, mvV 3 mL t.levels.length, mvV 5 mA t.args.length]
set_option maxRecDepth 100000 in
set_option maxHeartbeats 2000000 in
theorem freshM_con (t : Tm) (hN1 : t.nodes ≤ 1000000) (mL mA : Mv) (H : Heap) (Q : AV → Heap → Prop) (hL : MvIn t.levels.length (t.levels.map lvA) H mL) (hA : MvIn t.args.length (t.args.map tmA) H mA) (hq : Q (tmX t) H) : Con Tryz.prog 104 [tmM t mL mA] H Q := by
  have hnd := t.nodes_eq
  have hll := lvLen_nodes t.levels
  have htl := tmLen_nodes t.args
  cases mL with
  | none =>
    have h0 : t.levels.length = 0 := hL
    have k0 : Le (.i (0 : Nat)) (.i (t.levels.length : Nat)) := ret_i (by omega)
    cases mA with
    | none =>
      have h2 : t.args.length = 0 := hA
      have k2 : Le (.i (0 : Nat)) (.i (t.args.length : Nat)) := ret_i (by omega)
      refine con_of_awp (esc := fun _ => false) tab_ok mixed Tryz.func104 rfl (ent Tryz.func104 (by kernel_rfl) rfl) (by kernel_rfl) ?_
      intro hw hn
      clear hw hn
      refine ⟨Option Cap × Nat, fun p => ⟨[(1, .lp 1 0), (2, .lp 2 0), (3, .lp 3 0), (16, .g (.sl .no 3 [])), (17, .g (.i t.levels.length)), (18, .g (.i p.2))], [(3, [.i t.kind, .i t.n, .str t.name, .sl (ownQ p.1) 3 ((t.levels.take p.2).map lvA), .sl .full 0 []]), (2, [.i 0, .i 0, .str [], .sl .full 0 [], .sl .full 0 []]), (1, [.i t.kind, .i t.n, .str t.name, .sl .no 3 [], .sl .no 5 []])], bufH p.1 H⟩,
        fun p => p.2 ≤ t.levels.length, fun p => t.levels.length - p.2, ⟨(none, 0), Nat.zero_le _, ?_⟩, ?_⟩
      · exact ⟨⟨⟨rfl, rfl⟩, ⟨rfl, rfl⟩, ⟨rfl, rfl⟩, Le.refl _, k0, Le.refl _, trivial⟩, ⟨⟨rfl, ⟨Le.refl _, Le.refl _, Le.refl _, Le.nil' _, Le.refl _, trivial⟩⟩, ⟨rfl, LeL.refl _⟩, ⟨rfl, LeL.refl _⟩, trivial⟩, List.Sublist.refl _⟩
      · rintro ⟨q, j⟩ hj
        simp only at hj
        refine ifB_dec (fun h1 => ?_) (fun h1 => ?_)
        · simp only at h1
          have hlt : j < t.levels.length := by omega
          have hmem := Lv.nodesL_mem (List.getElem_mem hlt)
          have hsn : (t.levels.take j).map lvA ++ [lvX t.levels[j]] = (t.levels.take (j + 1)).map lvA := by rw [List.take_succ_eq_append_getElem hlt, List.map_append, ← lvA_eq]; rfl
          have hnext : ∀ c' : Cap, Le (.sl (.own c') 3 ((t.levels.take j).map lvA ++ [lvX t.levels[j]])) (.sl (ownQ (some c')) 3 ((t.levels.take (j + 1)).map lvA)) := fun c' => by rw [hsn]; exact Le.refl _
          refine ⟨j, rfl, lvX t.levels[j], absurd hlt (by omega), ?_⟩
          refine ⟨[0, 1, 2, 3, 4, 5, 6, 7, 8], [], by kernel_rfl, by simp, ?_⟩
          refine ⟨[.sl .full 3 [lvX t.levels[j]]], LeL.refl _, Max1_con _ t.levels[j] (by omega) _ _ ?_⟩
          intro hz1 hz2; clear hz1 hz2
          refine ⟨?_, ?_⟩
          · simp only [List.length_map, List.length_cons, List.length_nil]
            try simp only [List.length_take]
            show _ * (40 + 1) ≤ _
            omega
          refine own_of (q := q) (H0 := H) ?_ ?_ ?_ (fun c hc => ?_)
          · exact rfl
          · exact rfl
          · exact fun _ h => h
          refine ⟨in64_of (by first | omega | (dsimp only; omega)) (by first | omega | (dsimp only; omega)), ?_⟩
          exact ⟨(some c, j + 1), (by simp only; omega), by (try dsimp only); omega, ⟨⟨⟨rfl, rfl⟩, ⟨rfl, rfl⟩, ⟨rfl, rfl⟩, Le.refl _, Le.refl _, Le.refl _, trivial⟩, ⟨⟨rfl, ⟨Le.refl _, Le.refl _, Le.refl _, hnext c, Le.refl _, trivial⟩⟩, ⟨rfl, LeL.refl _⟩, ⟨rfl, LeL.refl _⟩, trivial⟩, List.Sublist.refl _⟩⟩
        · simp only at h1
          have hj' : t.levels.length = j := by omega
          subst hj'
          have hlv : Le (.sl (ownQ q) 3 ((t.levels.take t.levels.length).map lvA)) (.sl .no 3 (t.levels.map lvA)) := Le.trans (ownQ_le _ _ _) (le_of_eq (by rw [List.take_length]))
          refine ⟨Option Cap × Nat, fun p => ⟨[(2, .lp 2 0), (3, .lp 3 0), (32, .g (.sl .no 5 [])), (33, .g (.i t.args.length)), (34, .g (.i p.2))], [(3, [.i t.kind, .i t.n, .str t.name, .sl .no 3 (t.levels.map lvA), .sl (ownQ p.1) 5 ((t.args.take p.2).map tmA)]), (2, [.i 0, .i 0, .str [], .sl .full 0 [], .sl .full 0 []]), (1, [.i t.kind, .i t.n, .str t.name, .sl .no 3 [], .sl .no 5 []])], bufH p.1 H⟩,
            fun p => p.2 ≤ t.args.length, fun p => t.args.length - p.2, ⟨(none, 0), Nat.zero_le _, ?_⟩, ?_⟩
          · exact ⟨⟨⟨rfl, rfl⟩, ⟨rfl, rfl⟩, Le.refl _, k2, Le.refl _, trivial⟩, ⟨⟨rfl, ⟨Le.refl _, Le.refl _, Le.refl _, hlv, Le.nil' _, trivial⟩⟩, ⟨rfl, LeL.refl _⟩, ⟨rfl, LeL.refl _⟩, trivial⟩, bufH_sub q _⟩
          · rintro ⟨q, j⟩ hj
            simp only at hj
            refine ifB_dec (fun h1 => ?_) (fun h1 => ?_)
            · simp only at h1
              have hlt : j < t.args.length := by omega
              have hmem := Tm.nodesL_mem (List.getElem_mem hlt)
              have hsn : (t.args.take j).map tmA ++ [tmX t.args[j]] = (t.args.take (j + 1)).map tmA := by rw [List.take_succ_eq_append_getElem hlt, List.map_append, ← tmA_eq]; rfl
              have hnext : ∀ c' : Cap, Le (.sl (.own c') 5 ((t.args.take j).map tmA ++ [tmX t.args[j]])) (.sl (ownQ (some c')) 5 ((t.args.take (j + 1)).map tmA)) := fun c' => by rw [hsn]; exact Le.refl _
              refine ⟨j, rfl, tmX t.args[j], absurd hlt (by omega), ?_⟩
              refine ⟨[0, 1, 2, 3, 4, 5, 6, 7], [], by kernel_rfl, by simp, ?_⟩
              refine ⟨[tmX t.args[j]], LeL.refl _, fresh_con _ t.args[j] (Nat.le_refl _) (by omega) _ _ ?_⟩
              intro hz1 hz2; clear hz1 hz2
              refine ⟨?_, ?_⟩
              · simp only [List.length_map, List.length_cons, List.length_nil]
                try simp only [List.length_take]
                show _ * (80 + 1) ≤ _
                omega
              refine own_of (q := q) (H0 := H) ?_ ?_ ?_ (fun c hc => ?_)
              · exact rfl
              · exact rfl
              · exact fun _ h => h
              refine ⟨in64_of (by first | omega | (dsimp only; omega)) (by first | omega | (dsimp only; omega)), ?_⟩
              exact ⟨(some c, j + 1), (by simp only; omega), by (try dsimp only); omega, ⟨⟨⟨rfl, rfl⟩, ⟨rfl, rfl⟩, Le.refl _, Le.refl _, Le.refl _, trivial⟩, ⟨⟨rfl, ⟨Le.refl _, Le.refl _, Le.refl _, Le.refl _, hnext c, trivial⟩⟩, ⟨rfl, LeL.refl _⟩, ⟨rfl, LeL.refl _⟩, trivial⟩, List.Sublist.refl _⟩⟩
            · simp only at h1
              have hj' : t.args.length = j := by omega
              subst hj'
              have hfin : Le (.agg [.i t.kind, .i t.n, .str t.name, .sl .no 3 (t.levels.map lvA), .sl (ownQ q) 5 ((t.args.take t.args.length).map tmA)]) (tmX t) := Le.agg ⟨Le.refl _, Le.refl _, Le.refl _, Le.refl _, Le.trans (ownQ_le _ _ _) (le_of_eq (by rw [List.take_length])), trivial⟩
              exact ⟨_, _, hfin, bufH_sub q _, hq⟩
    | some p =>
      obtain ⟨bA, capA, csA⟩ := p
      obtain ⟨hinA, rA, rfl, _⟩ := hA
      refine con_of_awp (esc := fun _ => false) tab_ok mixed Tryz.func104 rfl (ent Tryz.func104 (by kernel_rfl) rfl) (by kernel_rfl) ?_
      intro hw hn
      clear hw hn
      refine ⟨Option Cap × Nat, fun p => ⟨[(1, .lp 1 0), (2, .lp 2 0), (3, .lp 3 0), (16, .g (.sl .no 3 [])), (17, .g (.i t.levels.length)), (18, .g (.i p.2))], [(3, [.i t.kind, .i t.n, .str t.name, .sl (ownQ p.1) 3 ((t.levels.take p.2).map lvA), .sl .full 0 []]), (2, [.i 0, .i 0, .str [], .sl .full 0 [], .sl .full 0 []]), (1, [.i t.kind, .i t.n, .str t.name, .sl .no 3 [], hs bA t.args.length capA])], bufH p.1 H⟩,
        fun p => p.2 ≤ t.levels.length, fun p => t.levels.length - p.2, ⟨(none, 0), Nat.zero_le _, ?_⟩, ?_⟩
      · exact ⟨⟨⟨rfl, rfl⟩, ⟨rfl, rfl⟩, ⟨rfl, rfl⟩, Le.refl _, k0, Le.refl _, trivial⟩, ⟨⟨rfl, ⟨Le.refl _, Le.refl _, Le.refl _, Le.nil' _, Le.refl _, trivial⟩⟩, ⟨rfl, LeL.refl _⟩, ⟨rfl, LeL.refl _⟩, trivial⟩, List.Sublist.refl _⟩
      · rintro ⟨q, j⟩ hj
        simp only at hj
        refine ifB_dec (fun h1 => ?_) (fun h1 => ?_)
        · simp only at h1
          have hlt : j < t.levels.length := by omega
          have hmem := Lv.nodesL_mem (List.getElem_mem hlt)
          have hsn : (t.levels.take j).map lvA ++ [lvX t.levels[j]] = (t.levels.take (j + 1)).map lvA := by rw [List.take_succ_eq_append_getElem hlt, List.map_append, ← lvA_eq]; rfl
          have hnext : ∀ c' : Cap, Le (.sl (.own c') 3 ((t.levels.take j).map lvA ++ [lvX t.levels[j]])) (.sl (ownQ (some c')) 3 ((t.levels.take (j + 1)).map lvA)) := fun c' => by rw [hsn]; exact Le.refl _
          refine ⟨j, rfl, lvX t.levels[j], absurd hlt (by omega), ?_⟩
          refine ⟨[0, 1, 2, 3, 4, 5, 6, 7, 8], [], by kernel_rfl, by simp, ?_⟩
          refine ⟨[.sl .full 3 [lvX t.levels[j]]], LeL.refl _, Max1_con _ t.levels[j] (by omega) _ _ ?_⟩
          intro hz1 hz2; clear hz1 hz2
          refine ⟨?_, ?_⟩
          · simp only [List.length_map, List.length_cons, List.length_nil]
            try simp only [List.length_take]
            show _ * (40 + 1) ≤ _
            omega
          refine own_of (q := q) (H0 := H) ?_ ?_ ?_ (fun c hc => ?_)
          · exact rfl
          · exact rfl
          · exact fun _ h => h
          refine ⟨in64_of (by first | omega | (dsimp only; omega)) (by first | omega | (dsimp only; omega)), ?_⟩
          exact ⟨(some c, j + 1), (by simp only; omega), by (try dsimp only); omega, ⟨⟨⟨rfl, rfl⟩, ⟨rfl, rfl⟩, ⟨rfl, rfl⟩, Le.refl _, Le.refl _, Le.refl _, trivial⟩, ⟨⟨rfl, ⟨Le.refl _, Le.refl _, Le.refl _, hnext c, Le.refl _, trivial⟩⟩, ⟨rfl, LeL.refl _⟩, ⟨rfl, LeL.refl _⟩, trivial⟩, List.Sublist.refl _⟩⟩
        · simp only at h1
          have hj' : t.levels.length = j := by omega
          subst hj'
          have hlv : Le (.sl (ownQ q) 3 ((t.levels.take t.levels.length).map lvA)) (.sl .no 3 (t.levels.map lvA)) := Le.trans (ownQ_le _ _ _) (le_of_eq (by rw [List.take_length]))
          refine ⟨Option Cap × Nat, fun p => ⟨[(2, .lp 2 0), (3, .lp 3 0), (32, .g (hs bA t.args.length capA)), (33, .g (.i t.args.length)), (34, .g (.i p.2))], [(3, [.i t.kind, .i t.n, .str t.name, .sl .no 3 (t.levels.map lvA), .sl (ownQ p.1) 5 ((t.args.take p.2).map tmA)]), (2, [.i 0, .i 0, .str [], .sl .full 0 [], .sl .full 0 []]), (1, [.i t.kind, .i t.n, .str t.name, .sl .no 3 [], hs bA t.args.length capA])], bufH p.1 H⟩,
            fun p => p.2 ≤ t.args.length, fun p => t.args.length - p.2, ⟨(none, 0), Nat.zero_le _, ?_⟩, ?_⟩
          · exact ⟨⟨⟨rfl, rfl⟩, ⟨rfl, rfl⟩, Le.refl _, Le.refl _, Le.refl _, trivial⟩, ⟨⟨rfl, ⟨Le.refl _, Le.refl _, Le.refl _, hlv, Le.nil' _, trivial⟩⟩, ⟨rfl, LeL.refl _⟩, ⟨rfl, LeL.refl _⟩, trivial⟩, bufH_sub q _⟩
          · rintro ⟨q, j⟩ hj
            simp only at hj
            refine ifB_dec (fun h1 => ?_) (fun h1 => ?_)
            · simp only at h1
              have hlt : j < t.args.length := by omega
              have hmem := Tm.nodesL_mem (List.getElem_mem hlt)
              have hsn : (t.args.take j).map tmA ++ [tmX t.args[j]] = (t.args.take (j + 1)).map tmA := by rw [List.take_succ_eq_append_getElem hlt, List.map_append, ← tmA_eq]; rfl
              have hnext : ∀ c' : Cap, Le (.sl (.own c') 5 ((t.args.take j).map tmA ++ [tmX t.args[j]])) (.sl (ownQ (some c')) 5 ((t.args.take (j + 1)).map tmA)) := fun c' => by rw [hsn]; exact Le.refl _
              refine ⟨j, rfl, hlt, ?_⟩
              refine ⟨_, mem_buf hinA, turn_at (row_tm hlt) ?_⟩
              refine ⟨[0, 1, 2, 3, 4, 5, 6, 7], [], by kernel_rfl, by simp, ?_⟩
              refine ⟨[tmX t.args[j]], LeL.refl _, fresh_con _ t.args[j] (Nat.le_refl _) (by omega) _ _ ?_⟩
              intro hz1 hz2; clear hz1 hz2
              refine ⟨?_, ?_⟩
              · simp only [List.length_map, List.length_cons, List.length_nil]
                try simp only [List.length_take]
                show _ * (80 + 1) ≤ _
                omega
              refine own_of (q := q) (H0 := H) ?_ ?_ ?_ (fun c hc => ?_)
              · exact rfl
              · exact rfl
              · exact fun _ h => h
              refine ⟨in64_of (by first | omega | (dsimp only; omega)) (by first | omega | (dsimp only; omega)), ?_⟩
              exact ⟨(some c, j + 1), (by simp only; omega), by (try dsimp only); omega, ⟨⟨⟨rfl, rfl⟩, ⟨rfl, rfl⟩, Le.refl _, Le.refl _, Le.refl _, trivial⟩, ⟨⟨rfl, ⟨Le.refl _, Le.refl _, Le.refl _, Le.refl _, hnext c, trivial⟩⟩, ⟨rfl, LeL.refl _⟩, ⟨rfl, LeL.refl _⟩, trivial⟩, List.Sublist.refl _⟩⟩
            · simp only at h1
              have hj' : t.args.length = j := by omega
              subst hj'
              have hfin : Le (.agg [.i t.kind, .i t.n, .str t.name, .sl .no 3 (t.levels.map lvA), .sl (ownQ q) 5 ((t.args.take t.args.length).map tmA)]) (tmX t) := Le.agg ⟨Le.refl _, Le.refl _, Le.refl _, Le.refl _, Le.trans (ownQ_le _ _ _) (le_of_eq (by rw [List.take_length])), trivial⟩
              exact ⟨_, _, hfin, bufH_sub q _, hq⟩
  | some p =>
    obtain ⟨bL, capL, csL⟩ := p
    obtain ⟨hinL, rL, rfl, _⟩ := hL
    cases mA with
    | none =>
      have h2 : t.args.length = 0 := hA
      have k2 : Le (.i (0 : Nat)) (.i (t.args.length : Nat)) := ret_i (by omega)
      refine con_of_awp (esc := fun _ => false) tab_ok mixed Tryz.func104 rfl (ent Tryz.func104 (by kernel_rfl) rfl) (by kernel_rfl) ?_
      intro hw hn
      clear hw hn
      refine ⟨Option Cap × Nat, fun p => ⟨[(1, .lp 1 0), (2, .lp 2 0), (3, .lp 3 0), (16, .g (hs bL t.levels.length capL)), (17, .g (.i t.levels.length)), (18, .g (.i p.2))], [(3, [.i t.kind, .i t.n, .str t.name, .sl (ownQ p.1) 3 ((t.levels.take p.2).map lvA), .sl .full 0 []]), (2, [.i 0, .i 0, .str [], .sl .full 0 [], .sl .full 0 []]), (1, [.i t.kind, .i t.n, .str t.name, hs bL t.levels.length capL, .sl .no 5 []])], bufH p.1 H⟩,
        fun p => p.2 ≤ t.levels.length, fun p => t.levels.length - p.2, ⟨(none, 0), Nat.zero_le _, ?_⟩, ?_⟩
      · exact ⟨⟨⟨rfl, rfl⟩, ⟨rfl, rfl⟩, ⟨rfl, rfl⟩, Le.refl _, Le.refl _, Le.refl _, trivial⟩, ⟨⟨rfl, ⟨Le.refl _, Le.refl _, Le.refl _, Le.nil' _, Le.refl _, trivial⟩⟩, ⟨rfl, LeL.refl _⟩, ⟨rfl, LeL.refl _⟩, trivial⟩, List.Sublist.refl _⟩
      · rintro ⟨q, j⟩ hj
        simp only at hj
        refine ifB_dec (fun h1 => ?_) (fun h1 => ?_)
        · simp only at h1
          have hlt : j < t.levels.length := by omega
          have hmem := Lv.nodesL_mem (List.getElem_mem hlt)
          have hsn : (t.levels.take j).map lvA ++ [lvX t.levels[j]] = (t.levels.take (j + 1)).map lvA := by rw [List.take_succ_eq_append_getElem hlt, List.map_append, ← lvA_eq]; rfl
          have hnext : ∀ c' : Cap, Le (.sl (.own c') 3 ((t.levels.take j).map lvA ++ [lvX t.levels[j]])) (.sl (ownQ (some c')) 3 ((t.levels.take (j + 1)).map lvA)) := fun c' => by rw [hsn]; exact Le.refl _
          refine ⟨j, rfl, hlt, ?_⟩
          refine ⟨_, mem_buf hinL, turn_at (row_lv hlt) ?_⟩
          refine ⟨[0, 1, 2, 3, 4, 5, 6, 7, 8], [], by kernel_rfl, by simp, ?_⟩
          refine ⟨[.sl .full 3 [lvX t.levels[j]]], LeL.refl _, Max1_con _ t.levels[j] (by omega) _ _ ?_⟩
          intro hz1 hz2; clear hz1 hz2
          refine ⟨?_, ?_⟩
          · simp only [List.length_map, List.length_cons, List.length_nil]
            try simp only [List.length_take]
            show _ * (40 + 1) ≤ _
            omega
          refine own_of (q := q) (H0 := H) ?_ ?_ ?_ (fun c hc => ?_)
          · exact rfl
          · exact rfl
          · exact fun _ h => h
          refine ⟨in64_of (by first | omega | (dsimp only; omega)) (by first | omega | (dsimp only; omega)), ?_⟩
          exact ⟨(some c, j + 1), (by simp only; omega), by (try dsimp only); omega, ⟨⟨⟨rfl, rfl⟩, ⟨rfl, rfl⟩, ⟨rfl, rfl⟩, Le.refl _, Le.refl _, Le.refl _, trivial⟩, ⟨⟨rfl, ⟨Le.refl _, Le.refl _, Le.refl _, hnext c, Le.refl _, trivial⟩⟩, ⟨rfl, LeL.refl _⟩, ⟨rfl, LeL.refl _⟩, trivial⟩, List.Sublist.refl _⟩⟩
        · simp only at h1
          have hj' : t.levels.length = j := by omega
          subst hj'
          have hlv : Le (.sl (ownQ q) 3 ((t.levels.take t.levels.length).map lvA)) (.sl .no 3 (t.levels.map lvA)) := Le.trans (ownQ_le _ _ _) (le_of_eq (by rw [List.take_length]))
          refine ⟨Option Cap × Nat, fun p => ⟨[(2, .lp 2 0), (3, .lp 3 0), (32, .g (.sl .no 5 [])), (33, .g (.i t.args.length)), (34, .g (.i p.2))], [(3, [.i t.kind, .i t.n, .str t.name, .sl .no 3 (t.levels.map lvA), .sl (ownQ p.1) 5 ((t.args.take p.2).map tmA)]), (2, [.i 0, .i 0, .str [], .sl .full 0 [], .sl .full 0 []]), (1, [.i t.kind, .i t.n, .str t.name, hs bL t.levels.length capL, .sl .no 5 []])], bufH p.1 H⟩,
            fun p => p.2 ≤ t.args.length, fun p => t.args.length - p.2, ⟨(none, 0), Nat.zero_le _, ?_⟩, ?_⟩
          · exact ⟨⟨⟨rfl, rfl⟩, ⟨rfl, rfl⟩, Le.refl _, k2, Le.refl _, trivial⟩, ⟨⟨rfl, ⟨Le.refl _, Le.refl _, Le.refl _, hlv, Le.nil' _, trivial⟩⟩, ⟨rfl, LeL.refl _⟩, ⟨rfl, LeL.refl _⟩, trivial⟩, bufH_sub q _⟩
          · rintro ⟨q, j⟩ hj
            simp only at hj
            refine ifB_dec (fun h1 => ?_) (fun h1 => ?_)
            · simp only at h1
              have hlt : j < t.args.length := by omega
              have hmem := Tm.nodesL_mem (List.getElem_mem hlt)
              have hsn : (t.args.take j).map tmA ++ [tmX t.args[j]] = (t.args.take (j + 1)).map tmA := by rw [List.take_succ_eq_append_getElem hlt, List.map_append, ← tmA_eq]; rfl
              have hnext : ∀ c' : Cap, Le (.sl (.own c') 5 ((t.args.take j).map tmA ++ [tmX t.args[j]])) (.sl (ownQ (some c')) 5 ((t.args.take (j + 1)).map tmA)) := fun c' => by rw [hsn]; exact Le.refl _
              refine ⟨j, rfl, tmX t.args[j], absurd hlt (by omega), ?_⟩
              refine ⟨[0, 1, 2, 3, 4, 5, 6, 7], [], by kernel_rfl, by simp, ?_⟩
              refine ⟨[tmX t.args[j]], LeL.refl _, fresh_con _ t.args[j] (Nat.le_refl _) (by omega) _ _ ?_⟩
              intro hz1 hz2; clear hz1 hz2
              refine ⟨?_, ?_⟩
              · simp only [List.length_map, List.length_cons, List.length_nil]
                try simp only [List.length_take]
                show _ * (80 + 1) ≤ _
                omega
              refine own_of (q := q) (H0 := H) ?_ ?_ ?_ (fun c hc => ?_)
              · exact rfl
              · exact rfl
              · exact fun _ h => h
              refine ⟨in64_of (by first | omega | (dsimp only; omega)) (by first | omega | (dsimp only; omega)), ?_⟩
              exact ⟨(some c, j + 1), (by simp only; omega), by (try dsimp only); omega, ⟨⟨⟨rfl, rfl⟩, ⟨rfl, rfl⟩, Le.refl _, Le.refl _, Le.refl _, trivial⟩, ⟨⟨rfl, ⟨Le.refl _, Le.refl _, Le.refl _, Le.refl _, hnext c, trivial⟩⟩, ⟨rfl, LeL.refl _⟩, ⟨rfl, LeL.refl _⟩, trivial⟩, List.Sublist.refl _⟩⟩
            · simp only at h1
              have hj' : t.args.length = j := by omega
              subst hj'
              have hfin : Le (.agg [.i t.kind, .i t.n, .str t.name, .sl .no 3 (t.levels.map lvA), .sl (ownQ q) 5 ((t.args.take t.args.length).map tmA)]) (tmX t) := Le.agg ⟨Le.refl _, Le.refl _, Le.refl _, Le.refl _, Le.trans (ownQ_le _ _ _) (le_of_eq (by rw [List.take_length])), trivial⟩
              exact ⟨_, _, hfin, bufH_sub q _, hq⟩
    | some p =>
      obtain ⟨bA, capA, csA⟩ := p
      obtain ⟨hinA, rA, rfl, _⟩ := hA
      refine con_of_awp (esc := fun _ => false) tab_ok mixed Tryz.func104 rfl (ent Tryz.func104 (by kernel_rfl) rfl) (by kernel_rfl) ?_
      intro hw hn
      clear hw hn
      refine ⟨Option Cap × Nat, fun p => ⟨[(1, .lp 1 0), (2, .lp 2 0), (3, .lp 3 0), (16, .g (hs bL t.levels.length capL)), (17, .g (.i t.levels.length)), (18, .g (.i p.2))], [(3, [.i t.kind, .i t.n, .str t.name, .sl (ownQ p.1) 3 ((t.levels.take p.2).map lvA), .sl .full 0 []]), (2, [.i 0, .i 0, .str [], .sl .full 0 [], .sl .full 0 []]), (1, [.i t.kind, .i t.n, .str t.name, hs bL t.levels.length capL, hs bA t.args.length capA])], bufH p.1 H⟩,
        fun p => p.2 ≤ t.levels.length, fun p => t.levels.length - p.2, ⟨(none, 0), Nat.zero_le _, ?_⟩, ?_⟩
      · exact ⟨⟨⟨rfl, rfl⟩, ⟨rfl, rfl⟩, ⟨rfl, rfl⟩, Le.refl _, Le.refl _, Le.refl _, trivial⟩, ⟨⟨rfl, ⟨Le.refl _, Le.refl _, Le.refl _, Le.nil' _, Le.refl _, trivial⟩⟩, ⟨rfl, LeL.refl _⟩, ⟨rfl, LeL.refl _⟩, trivial⟩, List.Sublist.refl _⟩
      · rintro ⟨q, j⟩ hj
        simp only at hj
        refine ifB_dec (fun h1 => ?_) (fun h1 => ?_)
        · simp only at h1
          have hlt : j < t.levels.length := by omega
          have hmem := Lv.nodesL_mem (List.getElem_mem hlt)
          have hsn : (t.levels.take j).map lvA ++ [lvX t.levels[j]] = (t.levels.take (j + 1)).map lvA := by rw [List.take_succ_eq_append_getElem hlt, List.map_append, ← lvA_eq]; rfl
          have hnext : ∀ c' : Cap, Le (.sl (.own c') 3 ((t.levels.take j).map lvA ++ [lvX t.levels[j]])) (.sl (ownQ (some c')) 3 ((t.levels.take (j + 1)).map lvA)) := fun c' => by rw [hsn]; exact Le.refl _
          refine ⟨j, rfl, hlt, ?_⟩
          refine ⟨_, mem_buf hinL, turn_at (row_lv hlt) ?_⟩
          refine ⟨[0, 1, 2, 3, 4, 5, 6, 7, 8], [], by kernel_rfl, by simp, ?_⟩
          refine ⟨[.sl .full 3 [lvX t.levels[j]]], LeL.refl _, Max1_con _ t.levels[j] (by omega) _ _ ?_⟩
          intro hz1 hz2; clear hz1 hz2
          refine ⟨?_, ?_⟩
          · simp only [List.length_map, List.length_cons, List.length_nil]
            try simp only [List.length_take]
            show _ * (40 + 1) ≤ _
            omega
          refine own_of (q := q) (H0 := H) ?_ ?_ ?_ (fun c hc => ?_)
          · exact rfl
          · exact rfl
          · exact fun _ h => h
          refine ⟨in64_of (by first | omega | (dsimp only; omega)) (by first | omega | (dsimp only; omega)), ?_⟩
          exact ⟨(some c, j + 1), (by simp only; omega), by (try dsimp only); omega, ⟨⟨⟨rfl, rfl⟩, ⟨rfl, rfl⟩, ⟨rfl, rfl⟩, Le.refl _, Le.refl _, Le.refl _, trivial⟩, ⟨⟨rfl, ⟨Le.refl _, Le.refl _, Le.refl _, hnext c, Le.refl _, trivial⟩⟩, ⟨rfl, LeL.refl _⟩, ⟨rfl, LeL.refl _⟩, trivial⟩, List.Sublist.refl _⟩⟩
        · simp only at h1
          have hj' : t.levels.length = j := by omega
          subst hj'
          have hlv : Le (.sl (ownQ q) 3 ((t.levels.take t.levels.length).map lvA)) (.sl .no 3 (t.levels.map lvA)) := Le.trans (ownQ_le _ _ _) (le_of_eq (by rw [List.take_length]))
          refine ⟨Option Cap × Nat, fun p => ⟨[(2, .lp 2 0), (3, .lp 3 0), (32, .g (hs bA t.args.length capA)), (33, .g (.i t.args.length)), (34, .g (.i p.2))], [(3, [.i t.kind, .i t.n, .str t.name, .sl .no 3 (t.levels.map lvA), .sl (ownQ p.1) 5 ((t.args.take p.2).map tmA)]), (2, [.i 0, .i 0, .str [], .sl .full 0 [], .sl .full 0 []]), (1, [.i t.kind, .i t.n, .str t.name, hs bL t.levels.length capL, hs bA t.args.length capA])], bufH p.1 H⟩,
            fun p => p.2 ≤ t.args.length, fun p => t.args.length - p.2, ⟨(none, 0), Nat.zero_le _, ?_⟩, ?_⟩
          · exact ⟨⟨⟨rfl, rfl⟩, ⟨rfl, rfl⟩, Le.refl _, Le.refl _, Le.refl _, trivial⟩, ⟨⟨rfl, ⟨Le.refl _, Le.refl _, Le.refl _, hlv, Le.nil' _, trivial⟩⟩, ⟨rfl, LeL.refl _⟩, ⟨rfl, LeL.refl _⟩, trivial⟩, bufH_sub q _⟩
          · rintro ⟨q, j⟩ hj
            simp only at hj
            refine ifB_dec (fun h1 => ?_) (fun h1 => ?_)
            · simp only at h1
              have hlt : j < t.args.length := by omega
              have hmem := Tm.nodesL_mem (List.getElem_mem hlt)
              have hsn : (t.args.take j).map tmA ++ [tmX t.args[j]] = (t.args.take (j + 1)).map tmA := by rw [List.take_succ_eq_append_getElem hlt, List.map_append, ← tmA_eq]; rfl
              have hnext : ∀ c' : Cap, Le (.sl (.own c') 5 ((t.args.take j).map tmA ++ [tmX t.args[j]])) (.sl (ownQ (some c')) 5 ((t.args.take (j + 1)).map tmA)) := fun c' => by rw [hsn]; exact Le.refl _
              refine ⟨j, rfl, hlt, ?_⟩
              refine ⟨_, mem_buf hinA, turn_at (row_tm hlt) ?_⟩
              refine ⟨[0, 1, 2, 3, 4, 5, 6, 7], [], by kernel_rfl, by simp, ?_⟩
              refine ⟨[tmX t.args[j]], LeL.refl _, fresh_con _ t.args[j] (Nat.le_refl _) (by omega) _ _ ?_⟩
              intro hz1 hz2; clear hz1 hz2
              refine ⟨?_, ?_⟩
              · simp only [List.length_map, List.length_cons, List.length_nil]
                try simp only [List.length_take]
                show _ * (80 + 1) ≤ _
                omega
              refine own_of (q := q) (H0 := H) ?_ ?_ ?_ (fun c hc => ?_)
              · exact rfl
              · exact rfl
              · exact fun _ h => h
              refine ⟨in64_of (by first | omega | (dsimp only; omega)) (by first | omega | (dsimp only; omega)), ?_⟩
              exact ⟨(some c, j + 1), (by simp only; omega), by (try dsimp only); omega, ⟨⟨⟨rfl, rfl⟩, ⟨rfl, rfl⟩, Le.refl _, Le.refl _, Le.refl _, trivial⟩, ⟨⟨rfl, ⟨Le.refl _, Le.refl _, Le.refl _, Le.refl _, hnext c, trivial⟩⟩, ⟨rfl, LeL.refl _⟩, ⟨rfl, LeL.refl _⟩, trivial⟩, List.Sublist.refl _⟩⟩
            · simp only at h1
              have hj' : t.args.length = j := by omega
              subst hj'
              have hfin : Le (.agg [.i t.kind, .i t.n, .str t.name, .sl .no 3 (t.levels.map lvA), .sl (ownQ q) 5 ((t.args.take t.args.length).map tmA)]) (tmX t) := Le.agg ⟨Le.refl _, Le.refl _, Le.refl _, Le.refl _, Le.trans (ownQ_le _ _ _) (le_of_eq (by rw [List.take_length])), trivial⟩
              exact ⟨_, _, hfin, bufH_sub q _, hq⟩
set_option maxRecDepth 100000 in
theorem App0M_con (t : Tm) (hN1 : t.nodes ≤ 1000000) (mL mA : Mv) (H : Heap) (Q : AV → Heap → Prop) (hL : MvIn t.levels.length (t.levels.map lvA) H mL) (hA : MvIn t.args.length (t.args.map tmA) H mA) (hq : Q (tmX t) H) : Con Tryz.prog 82 [tmM t mL mA, .sl .full 0 []] H Q := by
  refine con_of_awp (esc := fun _ => false) tab_ok mixed Tryz.func82 rfl (ent Tryz.func82 (by kernel_rfl) rfl) (by kernel_rfl) ?_
  intro hw hn
  refine ⟨[tmM t mL mA], LeL.refl _, freshM_con t hN1 mL mA _ _ hL hA ?_⟩
  intro hz1 hz2; clear hz1 hz2
  refine ⟨Unit, fun _ => ⟨[(4, .lp 4 0), (5, .lp 5 0), (10, .g (.sl .full 0 [])), (11, .g (.i 0)), (12, .g (.i 0))], [(5, (tmX t).cells), (4, [.i 0, .i 0, .str [], .sl .full 0 [], .sl .full 0 []]), (2, (tmM t mL mA).cells)], H⟩, fun _ => True, fun _ => 0, ⟨(), trivial, ?_⟩, ?_⟩
  · exact ⟨⟨⟨rfl, rfl⟩, ⟨rfl, rfl⟩, Le.refl _, Le.refl _, Le.refl _, trivial⟩, ⟨⟨rfl, LeL.refl _⟩, ⟨rfl, LeL.refl _⟩, ⟨rfl, LeL.refl _⟩, trivial⟩, List.Sublist.refl _⟩
  · intro u hu
    exact ⟨_, H, Le.refl _, List.Sublist.refl _, hq⟩
end Go.Proofs.YtnffnfkpicnhdaaGreatDoor

/-
  slices.Clone over texts that lie in memory that turns; decl.Clone of an entry whose rows turn. No condition.
-/
namespace Go.Proofs.YtnffnfkpicnhdaaGreatDoor
open Go.RowKit

/-- a row that a call has laid is read for ever -/
theorem inv_row {M : Mem} {H : Heap} {w w' : World} (hI : Inv M H w) (hb : Below w.heap.size w w') {g : Nat} (hg : w.heap.size ≤ g) {cur : Array Value} {T : TypeId} (hcell : w'.heap[g]? = some (.cells cur T (0, 0))) {xs : List AV} {vs : List Value} (htake : cur.toList.take vs.length = vs) (hrep : repC M xs vs) :
    ∃ M', Evo [] M w M' w' ∧ Inv M' H w' ∧ atL M' xs g 0 := by
  have hMg : ∀ o, M g o = none := fun o => by
    cases hv : M g o with
    | none => rfl
    | some v => have := hI.lt hv; omega
  have hsub : M.le (M.add g vs) := fun b o v hv => by
    unfold Mem.add
    by_cases h : b = g
    · subst h; rw [hMg] at hv; cases hv
    · rw [if_neg h]; exact hv
  have e : Evo [] M w (M.add g vs) w' := by
    refine ⟨hb.os, hb.tape, hb.output, hb.size, fun k hk _ => hb.block k hk, hsub, fun b o v hv => ?_⟩
    unfold Mem.add at hv
    by_cases h : b = g
    · subst h; exact Or.inr (Or.inr hg)
    · rw [if_neg h] at hv; exact Or.inl hv
  refine ⟨M.add g vs, e, hI.evo0 e fun b o v hv => ?_, atL.of_vals (repC.mono hsub _ _ hrep) fun j c hj => ?_⟩
  · unfold Mem.add at hv
    by_cases h : b = g
    · subst h
      rw [if_pos rfl] at hv
      have hlt : o < vs.length := (List.getElem?_eq_some_iff.1 hv).1
      have h1 : cur.toList[o]? = some v := by
        rw [← htake, List.getElem?_take, if_pos hlt] at hv
        exact hv
      simp only [World.cell?, hcell]
      simpa using h1
    · rw [if_neg h] at hv
      rw [← hI.mem b o v hv]
      simp only [World.cell?, hb.block b (hI.lt hv)]
  · unfold Mem.add
    rw [if_pos rfl, Nat.zero_add]
    exact hj
set_option maxRecDepth 100000 in
theorem CloneStsM_con (ss : List (List UInt8)) (hl : ss.length ≤ 1000000) (m : Mv) (H : Heap) (Q : AV → Heap → Prop) (hC : MvIn ss.length (ss.map .str) H m) (hq : Q (stsX ss) H) : Con Tryz.prog 83 [mvV 1 m ss.length] H Q := by
  cases m with
  | none =>
    obtain rfl : ss = [] := List.length_eq_zero_iff.1 hC
    exact CloneSts_con .no [] hl H Q hq
  | some p =>
    obtain ⟨b, cap, cs⟩ := p
    obtain ⟨hin, r, rfl, _⟩ := hC
    rw [flat_strs] at hin
    intro M w vs hG hI hargs
    simp only [repT] at hargs
    obtain ⟨v, _, rfl, hv, rfl⟩ := hargs
    unfold mvV hs at hv
    simp only [rep] at hv
    obtain ⟨rfl, _⟩ := hv
    obtain ⟨_, us, T, hg, hrep⟩ := hI.obj b _ hin
    have hml : (ss.map AV.str).length = ss.length := List.length_map _
    have ht := hrep.take ss.length
    rw [List.take_left' hml] at ht
    obtain ⟨k1, k2⟩ := strs_vals ht
    have hul : ss.length ≤ us.length := by
      have := congrArg List.length k1
      rw [List.length_take, List.length_map] at this
      omega
    have hcall := Any.slices_Clone_string Tryz.l16 b 0 ss.length cap (ss.map fun s => ⟨s.toArray⟩) w (by rw [List.length_map]; exact Nat.le_refl _) (by omega) fun j hj => by
      rw [List.length_map] at hj
      have e1 : us[j]? = some (encStr ss[j]) := by
        have : (us.take ss.length)[j]? = (ss.map encStr)[j]? := by rw [k1]
        rw [List.getElem?_take, if_pos hj, List.getElem?_map, List.getElem?_eq_getElem hj] at this
        exact this
      simp only [World.cell?, hg, Nat.zero_add]
      rw [List.getD_eq_getElem?_getD, List.getElem?_map, List.getElem?_eq_getElem hj]
      simpa using e1
    rw [ent Tryz.func83 (by kernel_rfl) rfl]
    refine Calls.mono hcall ?_
    rintro e w' ⟨v', rfl, ⟨hxl, hv'⟩, hne, hb⟩
    rcases hv' with ⟨h1, _⟩ | ⟨g, cap', cur, rfl, hbg, hcell, hn', hc', hsz, htake⟩
    · exact absurd h1 hne
    · have hvs : ((ss.map fun s => (⟨s.toArray⟩ : ByteArray)).take ss.length).map Value.string = ss.map encStr := by
        rw [List.take_of_length_le (by rw [List.length_map]; exact Nat.le_refl _), List.map_map]
        rfl
      rw [hvs, Nat.mul_one] at htake
      have hel : (ss.map encStr).length = ss.length := List.length_map _
      obtain ⟨M', g1, g2, g3⟩ := inv_row (xs := ss.map .str) (vs := ss.map encStr) hI hb hbg hcell (by rw [hel]; exact htake) (strs_rep k2)
      refine ⟨_, rfl, M', stsX ss, H, g1.mono (by simp), g2, fun q hq => Or.inl hq, ?_, hq⟩
      simp only [stsX, rep]
      rw [hml]
      exact ⟨_, _, rfl, hn', hc', nofun, wide_sts _, trivial, fun _ => ⟨_, _, rfl, atE.flat.2 (by rw [flat_strs]; exact g3)⟩⟩
/-- an entry of which the type's rows, and the constructors', may turn -/
def enM3 (e : En) (SL SA SC : AV) : AV := .agg [.i e.kind, .i e.params, .str e.name, .i e.type.kind, .i e.type.n, .str e.type.name, SL, SA, .i e.value.kind, .i e.value.n, .str e.value.name, .sl .no 3 (e.value.levels.map lvA), .sl .no 5 (e.value.args.map tmA), .i e.height, .str e.family, .i e.fixed, .i e.index, .i e.fields, SC]
set_option maxRecDepth 100000 in
theorem declCloneM_con (e : En) (h1 : e.type.nodes ≤ 1000000) (h2 : e.value.nodes ≤ 1000000) (h3 : e.ctors.length ≤ 1000000) (mL mA mC : Mv) (H : Heap) (Q : AV → Heap → Prop)
    (hL : MvIn e.type.levels.length (e.type.levels.map lvA) H mL) (hA : MvIn e.type.args.length (e.type.args.map tmA) H mA) (hC : MvIn e.ctors.length (e.ctors.map .str) H mC) (hq : Q (enX e) H) :
    Con Tryz.prog 62 [enM3 e (mvV 3 mL e.type.levels.length) (mvV 5 mA e.type.args.length) (mvV 1 mC e.ctors.length)] H Q := by
  refine con_of_awp (esc := fun _ => false) tab_ok mixed Tryz.func62 rfl (ent Tryz.func62 (by kernel_rfl) rfl) (by kernel_rfl) ?_
  intro hw hn
  clear hw hn
  refine ⟨[0, 1, 3, 4, 6, 7, 2, 9, 5, 8, 10, 11, 12, 13, 14], [], by kernel_rfl, by simp, ?_⟩
  refine ⟨[tmM e.type mL mA, .sl .full 0 []], LeL.refl _, App0M_con e.type h1 mL mA _ _ hL hA ?_⟩
  intro hz1 hz2; clear hz1 hz2
  refine ⟨_, LeL.refl _, App0_con e.value h2 _ _ ?_⟩
  intro hz1 hz2; clear hz1 hz2
  refine ⟨[mvV 1 mC e.ctors.length], LeL.refl _, CloneStsM_con e.ctors h3 mC _ _ hC ?_⟩
  intro hz1 hz2; clear hz1 hz2
  exact ⟨_, H, Le.refl _, List.Sublist.refl _, hq⟩
end Go.Proofs.YtnffnfkpicnhdaaGreatDoor

/-
  An entry whose rows turn is added to an environment. No condition.
-/
namespace Go.Proofs.YtnffnfkpicnhdaaGreatDoor
open Go.RowKit

theorem MvIn.see {size n : Nat} {xs : List AV} {H : Heap} {m : Mv} (h : MvIn n xs H m) (hw : wide size xs) (hn : n = xs.length) {M : Mem} (hat : ∀ b cs, (b, .cells cs) ∈ H → atL M cs b 0) : LeM M (mvV size m n) (.sl .no size xs) := by
  cases m with
  | none =>
    have h0 : n = 0 := h
    obtain rfl : xs = [] := List.length_eq_zero_iff.1 (by omega)
    exact LeM.refl _
  | some p =>
    obtain ⟨b, cap, cs⟩ := p
    obtain ⟨hin, r, rfl, h1, h2⟩ := h
    exact hs_ice (hat b _ hin) hn h1 h2 hw
section
variable {e : En} {mL mA mC : Mv} {H : Heap}
theorem see3 (hL : MvIn e.type.levels.length (e.type.levels.map lvA) H mL) (hA : MvIn e.type.args.length (e.type.args.map tmA) H mA) (hC : MvIn e.ctors.length (e.ctors.map .str) H mC) {M : Mem} (hat : ∀ b cs, (b, .cells cs) ∈ H → atL M cs b 0) :
    LeM M (enM3 e (mvV 3 mL e.type.levels.length) (mvV 5 mA e.type.args.length) (mvV 1 mC e.ctors.length)) (enX e) :=
  LeM.agg ⟨LeM.refl _, LeM.refl _, LeM.refl _, LeM.refl _, LeM.refl _, LeM.refl _, hL.see (wide_lvs _) (List.length_map _).symm hat, hA.see (wide_tms _) (List.length_map _).symm hat, LeM.refl _, LeM.refl _, LeM.refl _, LeM.refl _, LeM.refl _, LeM.refl _, LeM.refl _, LeM.refl _, LeM.refl _, LeM.refl _, hC.see (wide_sts _) (List.length_map _).symm hat, trivial⟩
set_option maxRecDepth 100000 in
set_option maxHeartbeats 1000000 in
theorem envAddM_con (t : Tre) (l : List En) (h : enRight e = true) (hg : getT e.name t = (0, false)) (hl : l.length ≤ 100000) (hc : t.cnt ≤ 900000) (Q : AV → Heap → Prop)
    (hL : MvIn e.type.levels.length (e.type.levels.map lvA) H mL) (hA : MvIn e.type.args.length (e.type.args.map tmA) H mA) (hC : MvIn e.ctors.length (e.ctors.map .str) H mC) (hq : Q (.tup [envX (putT e.name (l.length : Nat) t) (l ++ [e]), .i 0]) H) :
    Con Tryz.prog 60 [envX t l, enM3 e (mvV 3 mL e.type.levels.length) (mvV 5 mA e.type.args.length) (mvV 1 mC e.ctors.length)] H Q := by
  obtain ⟨k1, k2, k3⟩ := enRight_small h
  have hel := ens_len l
  have htk : ((l.map enX).drop 0).take ((l.map enX).length - 0) = l.map enX := by rw [List.drop_zero, Nat.sub_zero, List.take_length]
  have hup : ∀ c : Cap, ∀ p ∈ H, p ∈ ((c.b, AObj.cap c) :: H : Heap) := fun c p hp => List.mem_cons_of_mem _ hp
  refine Con.ice ?_
  refine con_of_awp (esc := ([56].contains ·)) tab_ok mixed Tryz.func60 rfl (ent Tryz.func60 (by kernel_rfl) rfl) (by kernel_rfl) ?_
  intro hw hn
  clear hw hn
  refine ⟨[enM3 e (mvV 3 mL e.type.levels.length) (mvV 5 mA e.type.args.length) (mvV 1 mC e.ctors.length)], LeL.refl _, Con.look (args' := [enX e]) (fun H Q hQ => ((declRight_con e).as h) H Q hQ) (fun M hM => ⟨see3 hL hA hC hM, trivial⟩) ?_⟩
  intro hz1 hz2; clear hz1 hz2
  refine ⟨[0, 1, 2, 3, 4, 5, 6, 7, 8, 9, 10, 11], [], by kernel_rfl, by simp, ?_⟩
  refine ⟨_, LeL.refl _, (Get_con e.name t).to (congrArg (fun p : Int × Bool => AV.tup [.i p.1, .b p.2]) hg) _ _ ?_⟩
  intro hz1 hz2; clear hz1 hz2
  refine ⟨[0, 1, 2, 3, 4, 5, 6, 7, 8, 9, 10, 11, 12, 13, 14, 15, 16, 17, 18, 19], [], by kernel_rfl, by simp, ?_⟩
  refine ⟨(l.map enX).length, rfl, ⟨Nat.zero_le _, Nat.le_refl _⟩, (l.map enX).length, rfl, rfl, ?_⟩
  refine ⟨[enM3 e (mvV 3 mL e.type.levels.length) (mvV 5 mA e.type.args.length) (mvV 1 mC e.ctors.length)], LeL.refl _, declCloneM_con e (by omega) (by omega) (by omega) mL mA mC _ _ hL hA hC ?_⟩
  intro hz1 hz2; clear hz1 hz2
  refine ⟨(by rw [htk, hel]; show (_ + 1) * (264 + 1) ≤ _; omega), fun c hc1 => ?_⟩
  refine ⟨[0, 1, 2, 3, 4, 5, 6, 7, 8, 9, 10, 12, 11, 13, 14, 15, 16], [], by kernel_rfl, by simp, ?_⟩
  refine ⟨[.ip [trX t], .str e.name, .i (l.length : Nat)], ⟨Le.refl _, Le.refl _, ret_i (congrArg Int.ofNat hel), trivial⟩, Put_con e.name (l.length : Nat) t hc _ _ ?_⟩
  intro hz1 hz2; clear hz1 hz2
  intro b hb
  have hfin : Le (.ip [.ip [trX (putT e.name (l.length : Nat) t)], .sl (.own c) 19 (((l.map enX).drop 0).take ((l.map enX).length - 0) ++ [enX e])]) (envX (putT e.name (l.length : Nat) t) (l ++ [e])) := by
    refine Le.ip ⟨Le.refl _, Le.trans (Le.own _ _ _) (le_of_eq ?_), trivial⟩
    rw [htk, ensX, List.map_append]
    rfl
  exact ⟨_, _, Le.refl _, List.Sublist.cons_cons _ (List.sublist_cons_self _ _), b, [.ip [trX (putT e.name (l.length : Nat) t)], .sl (.own c) 19 (((l.map enX).drop 0).take ((l.map enX).length - 0) ++ [enX e])], H, .tup [envX (putT e.name (l.length : Nat) t) (l ++ [e]), .i 0], .here, fun M h => LeM.tup ⟨(ptr_ice h).trans (hfin.m M), LeM.refl _, trivial⟩, hq⟩
/-- so far -/
def addV (e : En) : Bool → AV
  | false => envX .nil []
  | true => envX (putT e.name ((0 : Nat) : Int) .nil) [e]
def addI : Bool → Int
  | false => 0
  | true => 1
set_option maxRecDepth 100000 in
set_option maxHeartbeats 1000000 in
theorem envAddOneM_con (h : enRight e = true) (Q : AV → Heap → Prop)
    (hL : MvIn e.type.levels.length (e.type.levels.map lvA) H mL) (hA : MvIn e.type.args.length (e.type.args.map tmA) H mA) (hC : MvIn e.ctors.length (e.ctors.map .str) H mC) (hq : Q (.tup [envX (putT e.name ((0 : Nat) : Int) .nil) [e], .i 0]) H) :
    Con Tryz.prog 35 [envX .nil [], .sl .full 19 [enM3 e (mvV 3 mL e.type.levels.length) (mvV 5 mA e.type.args.length) (mvV 1 mC e.ctors.length)]] H Q := by
  obtain ⟨x, hx⟩ : ∃ x, enM3 e (mvV 3 mL e.type.levels.length) (mvV 5 mA e.type.args.length) (mvV 1 mC e.ctors.length) = x := ⟨_, rfl⟩
  refine con_of_awp (esc := fun _ => false) tab_ok mixed Tryz.func35 rfl (ent Tryz.func35 (by kernel_rfl) rfl) (by kernel_rfl) ?_
  intro hw hn
  clear hw hn
  refine ⟨Bool, fun q => ⟨[(4, .g (.v (.pointer none))), (5, .g (.i 0)), (6, .g (addV e q)), (12, .g (.sl .full 19 [enM3 e (mvV 3 mL e.type.levels.length) (mvV 5 mA e.type.args.length) (mvV 1 mC e.ctors.length)])), (13, .g (.i 1)), (14, .g (.i (addI q)))], [], H⟩, fun _ => True, fun q => 1 - (addI q).toNat, ⟨false, trivial, ?_⟩, ?_⟩
  · exact ⟨⟨Le.refl _, Le.refl _, Le.refl _, Le.refl _, Le.refl _, Le.refl _, trivial⟩, trivial, List.Sublist.refl _⟩
  · intro q _
    cases q with
    | false =>
      refine ⟨0, rfl, enM3 e (mvV 3 mL e.type.levels.length) (mvV 5 mA e.type.args.length) (mvV 1 mC e.ctors.length), rfl, ?_⟩
      refine ⟨[envX .nil [], enM3 e (mvV 3 mL e.type.levels.length) (mvV 5 mA e.type.args.length) (mvV 1 mC e.ctors.length)], LeL.refl _, envAddM_con .nil [] h (by rfl) (by decide) (by decide) _ hL hA hC ?_⟩
      intro hz1 hz2; clear hz1 hz2
      refine ⟨in64_of (show (-9223372036854775808 : Int) ≤ 0 + 1 by decide) (show (0 : Int) + 1 ≤ 9223372036854775807 by decide), ?_⟩
      refine ⟨true, trivial, (by decide), ?_⟩
      exact ⟨⟨Le.refl _, Le.refl _, Le.refl _, Le.refl _, Le.refl _, Le.refl _, trivial⟩, trivial, List.Sublist.refl _⟩
    | true => exact ⟨_, H, Le.refl _, List.Sublist.refl _, hq⟩
end
end Go.Proofs.YtnffnfkpicnhdaaGreatDoor

/-
  Fresh memory that may turn later: term's fresh and App, decl.Clone, env.Get, with all rows; the reference's CopyTerm, CopyTexts. No condition.
-/
namespace Go.Proofs.YtnffnfkpicnhdaaGreatDoor
open Go.RowKit

/-- a term whose rows are new -/
def TmNew (t : Tm) (H : Heap) (Q : AV → Heap → Prop) : Prop := ∀ mL mA : Mv, MvOk 3 t.levels.length (t.levels.map lvA) H mL → MvOk 5 t.args.length (t.args.map tmA) (mvH mL H) mA → Q (tmM t mL mA) (mvH mA (mvH mL H))
set_option maxRecDepth 100000 in
set_option maxHeartbeats 2000000 in
theorem freshAL_con (t : Tm) (hN1 : t.nodes ≤ 1000000) (H : Heap) (Q : AV → Heap → Prop) (hq : TmNew t H Q) : Con Tryz.prog 104 [tmX t] H Q := by
  have hnd := t.nodes_eq
  have hll := lvLen_nodes t.levels
  have htl := tmLen_nodes t.args
  refine con_of_awp (esc := ([28,43].contains ·)) tab_ok mixed Tryz.func104 rfl (ent Tryz.func104 (by kernel_rfl) rfl) (by kernel_rfl) ?_
  intro hw hn
  clear hw hn
  refine ⟨Mv × Nat, fun p => ⟨[(1, .lp 1 0), (2, .lp 2 0), (3, .lp 3 0), (16, .g (.sl .no 3 (t.levels.map lvA))), (17, .g (.i t.levels.length)), (18, .g (.i p.2))], [(3, [.i t.kind, .i t.n, .str t.name, mvS p.1 p.2, .sl .full 0 []]), (2, [.i 0, .i 0, .str [], .sl .full 0 [], .sl .full 0 []]), (1, (tmX t).cells)], mvH p.1 H⟩,
    fun p => p.2 ≤ t.levels.length ∧ MvOk 3 p.2 ((t.levels.take p.2).map lvA) H p.1, fun p => t.levels.length - p.2, ⟨(none, 0), ⟨Nat.zero_le _, ⟨rfl, rfl⟩⟩, ?_⟩, ?_⟩
  · refine ⟨⟨⟨rfl, rfl⟩, ⟨rfl, rfl⟩, ⟨rfl, rfl⟩, Le.refl _, le_of_eq ?_, Le.refl _, trivial⟩, ⟨⟨rfl, LeL.refl _⟩, ⟨rfl, LeL.refl _⟩, ⟨rfl, LeL.refl _⟩, trivial⟩, List.Sublist.refl _⟩
    show AV.i _ = AV.i _
    rw [List.length_map]
  · rintro ⟨m, j⟩ ⟨hj, hz⟩
    simp only at hj hz
    refine ifB_dec (fun h1 => ?_) (fun h1 => ?_)
    · simp only at h1
      have hlt : j < t.levels.length := by omega
      have hmem := Lv.nodesL_mem (List.getElem_mem hlt)
      have hsn : (t.levels.take j).map lvA ++ [lvX t.levels[j]] = (t.levels.take (j + 1)).map lvA := by rw [List.take_succ_eq_append_getElem hlt, List.map_append, ← lvA_eq]; rfl
      refine ⟨j, rfl, _, lvAt hlt, ?_⟩
      refine ⟨[0, 1, 2, 3, 4, 5, 6, 7, 8], [], by kernel_rfl, by simp, ?_⟩
      refine ⟨_, LeL.refl _, Max1_con _ t.levels[j] (by omega) _ _ ?_⟩
      intro hz1 hz2; clear hz1 hz2
      cases m with
      | none =>
        have hj0 : j = 0 := hz.1
        subst hj0
        refine ⟨(by show (0 + 1) * (40 + 1) ≤ 140737488355328; decide), by simp, rfl, fun b cap rest k1 k2 k3 k4 => ?_⟩
        have hok : MvOk 3 1 ((t.levels.take (0 + 1)).map lvA) (H) (some (b, cap, ([] ++ [lvX t.levels[0]]).flatMap AV.cells ++ rest)) := by
          rw [← hsn]
          exact ⟨by decide, TurnOk.first rfl k1 k2 k3 k4⟩
        refine ⟨in64_of (by first | omega | (dsimp only; omega)) (by first | omega | (dsimp only; omega)), ?_⟩
        exact ⟨(some (b, cap, ([] ++ [lvX t.levels[0]]).flatMap AV.cells ++ rest), 1), ⟨by simp only; omega, hok⟩, by (try dsimp only); omega, ⟨⟨⟨rfl, rfl⟩, ⟨rfl, rfl⟩, ⟨rfl, rfl⟩, Le.refl _, Le.refl _, Le.refl _, trivial⟩, ⟨⟨rfl, ⟨Le.refl _, Le.refl _, Le.refl _, Le.refl _, Le.refl _, trivial⟩⟩, ⟨rfl, LeL.refl _⟩, ⟨rfl, LeL.refl _⟩, trivial⟩, List.Sublist.refl _⟩⟩
      | some p =>
        obtain ⟨b0, cap0, cs0⟩ := p
        obtain ⟨hj0, htk⟩ := hz
        refine ⟨?_, by simp, cs0, (H), Heap.Rem.here, htk.le, htk.max, htk.room, fun b cap rest k1 k2 k3 k4 => ?_⟩
        · simp only [List.length_cons, List.length_nil]
          show _ * (40 + 1) ≤ _
          omega
        have hok : MvOk 3 (j + 1) ((t.levels.take (j + 1)).map lvA) (H) (some (b, cap, cs0.take (j * 3) ++ [lvX t.levels[j]].flatMap AV.cells ++ rest)) := by
          rw [← hsn]
          exact ⟨by omega, htk.next (wide_lvs _) rfl k1 k2 k3 k4⟩
        refine ⟨in64_of (by first | omega | (dsimp only; omega)) (by first | omega | (dsimp only; omega)), ?_⟩
        exact ⟨(some (b, cap, cs0.take (j * 3) ++ [lvX t.levels[j]].flatMap AV.cells ++ rest), j + 1), ⟨by simp only; omega, hok⟩, by (try dsimp only); omega, ⟨⟨⟨rfl, rfl⟩, ⟨rfl, rfl⟩, ⟨rfl, rfl⟩, Le.refl _, Le.refl _, Le.refl _, trivial⟩, ⟨⟨rfl, ⟨Le.refl _, Le.refl _, Le.refl _, Le.refl _, Le.refl _, trivial⟩⟩, ⟨rfl, LeL.refl _⟩, ⟨rfl, LeL.refl _⟩, trivial⟩, List.Sublist.refl _⟩⟩
    · simp only at h1
      have hj' : t.levels.length = j := by omega
      subst hj'
      rw [List.take_length] at hz
      refine ⟨Mv × Nat, fun p => ⟨[(2, .lp 2 0), (3, .lp 3 0), (32, .g (.sl .no 5 (t.args.map tmA))), (33, .g (.i t.args.length)), (34, .g (.i p.2))], [(3, [.i t.kind, .i t.n, .str t.name, mvV 3 m t.levels.length, mvS p.1 p.2]), (2, [.i 0, .i 0, .str [], .sl .full 0 [], .sl .full 0 []]), (1, (tmX t).cells)], mvH p.1 (mvH m H)⟩,
        fun p => p.2 ≤ t.args.length ∧ MvOk 5 p.2 ((t.args.take p.2).map tmA) (mvH m H) p.1, fun p => t.args.length - p.2, ⟨(none, 0), ⟨Nat.zero_le _, ⟨rfl, rfl⟩⟩, ?_⟩, ?_⟩
      · refine ⟨⟨⟨rfl, rfl⟩, ⟨rfl, rfl⟩, Le.refl _, le_of_eq ?_, Le.refl _, trivial⟩, ⟨⟨rfl, ⟨Le.refl _, Le.refl _, Le.refl _, mvS_le 3 m _, Le.refl _, trivial⟩⟩, ⟨rfl, LeL.refl _⟩, ⟨rfl, LeL.refl _⟩, trivial⟩, List.Sublist.refl _⟩
        show AV.i _ = AV.i _
        rw [List.length_map]
      · rintro ⟨mA, j⟩ ⟨hj, hzA⟩
        simp only at hj hzA
        refine ifB_dec (fun h1 => ?_) (fun h1 => ?_)
        · simp only at h1
          have hlt : j < t.args.length := by omega
          have hmem := Tm.nodesL_mem (List.getElem_mem hlt)
          have hsn : (t.args.take j).map tmA ++ [tmX t.args[j]] = (t.args.take (j + 1)).map tmA := by rw [List.take_succ_eq_append_getElem hlt, List.map_append, ← tmA_eq]; rfl
          refine ⟨j, rfl, _, tmAt' hlt, ?_⟩
          refine ⟨[0, 1, 2, 3, 4, 5, 6, 7], [], by kernel_rfl, by simp, ?_⟩
          refine ⟨_, LeL.refl _, fresh_con _ t.args[j] (Nat.le_refl _) (by omega) _ _ ?_⟩
          intro hz1 hz2; clear hz1 hz2
          cases mA with
          | none =>
            have hj0 : j = 0 := hzA.1
            subst hj0
            refine ⟨(by show (0 + 1) * (80 + 1) ≤ 140737488355328; decide), by simp, rfl, fun b cap rest k1 k2 k3 k4 => ?_⟩
            have hok : MvOk 5 1 ((t.args.take (0 + 1)).map tmA) (mvH m H) (some (b, cap, ([] ++ [tmX t.args[0]]).flatMap AV.cells ++ rest)) := by
              rw [← hsn]
              exact ⟨by decide, TurnOk.first rfl k1 k2 k3 k4⟩
            refine ⟨in64_of (by first | omega | (dsimp only; omega)) (by first | omega | (dsimp only; omega)), ?_⟩
            exact ⟨(some (b, cap, ([] ++ [tmX t.args[0]]).flatMap AV.cells ++ rest), 1), ⟨by simp only; omega, hok⟩, by (try dsimp only); omega, ⟨⟨⟨rfl, rfl⟩, ⟨rfl, rfl⟩, Le.refl _, Le.refl _, Le.refl _, trivial⟩, ⟨⟨rfl, ⟨Le.refl _, Le.refl _, Le.refl _, Le.refl _, Le.refl _, trivial⟩⟩, ⟨rfl, LeL.refl _⟩, ⟨rfl, LeL.refl _⟩, trivial⟩, List.Sublist.refl _⟩⟩
          | some p =>
            obtain ⟨b0, cap0, cs0⟩ := p
            obtain ⟨hj0, htk⟩ := hzA
            refine ⟨?_, by simp, cs0, (mvH m H), Heap.Rem.here, htk.le, htk.max, htk.room, fun b cap rest k1 k2 k3 k4 => ?_⟩
            · simp only [List.length_cons, List.length_nil]
              show _ * (80 + 1) ≤ _
              omega
            have hok : MvOk 5 (j + 1) ((t.args.take (j + 1)).map tmA) (mvH m H) (some (b, cap, cs0.take (j * 5) ++ [tmX t.args[j]].flatMap AV.cells ++ rest)) := by
              rw [← hsn]
              exact ⟨by omega, htk.next (wide_tms _) rfl k1 k2 k3 k4⟩
            refine ⟨in64_of (by first | omega | (dsimp only; omega)) (by first | omega | (dsimp only; omega)), ?_⟩
            exact ⟨(some (b, cap, cs0.take (j * 5) ++ [tmX t.args[j]].flatMap AV.cells ++ rest), j + 1), ⟨by simp only; omega, hok⟩, by (try dsimp only); omega, ⟨⟨⟨rfl, rfl⟩, ⟨rfl, rfl⟩, Le.refl _, Le.refl _, Le.refl _, trivial⟩, ⟨⟨rfl, ⟨Le.refl _, Le.refl _, Le.refl _, Le.refl _, Le.refl _, trivial⟩⟩, ⟨rfl, LeL.refl _⟩, ⟨rfl, LeL.refl _⟩, trivial⟩, List.Sublist.refl _⟩⟩
        · simp only at h1
          have hj' : t.args.length = j := by omega
          subst hj'
          rw [List.take_length] at hzA
          have hfin : Le (.agg [.i t.kind, .i t.n, .str t.name, mvV 3 m t.levels.length, mvS mA t.args.length]) (tmM t m mA) := Le.agg ⟨Le.refl _, Le.refl _, Le.refl _, Le.refl _, mvS_le 5 mA _, trivial⟩
          exact ⟨_, _, hfin, List.Sublist.refl _, hq m mA hz hzA⟩
end Go.Proofs.YtnffnfkpicnhdaaGreatDoor
