/-
  Texts put together: R6, R7, R8, I19, I20, I21, I22, I23. No condition.
-/
import Derived.Test.YtahdkhklngjmoaaGreatDoorM15
import Derived.Test.YtahdkhklngjmoaaGreatDoorM13
import Derived.Test.YtahdkhklngjmoaaGreatDoorM12
import Derived.Test.YtahdkhklngjmoaaGreatDoorM20
import Derived.Test.YtahdkhklngjmoaaGreatDoorM18
import Derived.Test.YtahdkhklngjmoaaGreatDoorM9
/-
  The reference's entries: span, Right, Plain, at, Type, Value. No condition.
-/
namespace Go.Proofs.YtahdkhklngjmoaaGreatDoor
open Go.RowKit

/-- an entry's parts, one by one -/
def EnH (e : En) : Prop := (e.kind = 2 → spanB e.height 1 1048576 = true) ∧ (e.kind ≠ 2 → e.height = 0)
def EnI (e : En) : Prop := (e.kind = 6 ∨ e.kind = 7) → nameOk e.family = true ∧ spanB e.fixed 0 32 = true ∧ spanB e.index 0 32 = true ∧ spanB e.fields 0 32 = true
def EnO (e : En) : Prop := ¬ (e.kind = 6 ∨ e.kind = 7) → e.family = [] ∧ e.index = 0 ∧ e.fields = 0 ∧ (e.kind = 5 → spanB e.fixed 0 16 = true) ∧ (e.kind ≠ 5 → e.fixed = 0)
def EnC (e : En) : Prop := (¬ (e.kind = 5 ∨ e.kind = 7) → e.ctors.length = 0) ∧ e.ctors.length ≤ 8
theorem enNumbered_iff (e : En) : enNumbered e = true ↔ EnH e ∧ EnI e ∧ EnO e := by
  unfold enNumbered EnH EnI EnO
  by_cases k : e.kind = 6 ∨ e.kind = 7
  · have k2 : e.kind ≠ 2 := by omega
    rw [if_pos k]
    simp only [Bool.and_eq_true, decide_eq_true_eq]
    constructor
    · rintro ⟨h1, h2⟩
      exact ⟨⟨fun h => absurd h k2, fun _ => h1⟩, fun _ => h2, fun h => absurd k h⟩
    · rintro ⟨h1, h2, _⟩
      exact ⟨h1.2 k2, h2 k⟩
  · rw [if_neg k]
    by_cases k5 : e.kind = 5
    · have k2 : e.kind ≠ 2 := by omega
      rw [if_pos k5]
      simp only [Bool.and_eq_true, decide_eq_true_eq]
      constructor
      · rintro ⟨h1, h2, h3, h4, h5⟩
        exact ⟨⟨fun h => absurd h k2, fun _ => h1⟩, fun h => absurd h k, fun _ => ⟨h2, h4, h5, fun _ => h3, fun h => absurd k5 h⟩⟩
      · rintro ⟨h1, _, h3⟩
        obtain ⟨a, b, c, d, _⟩ := h3 k
        exact ⟨h1.2 k2, a, d k5, b, c⟩
    · rw [if_neg k5]
      by_cases k2 : e.kind = 2
      · rw [if_pos k2]
        simp only [Bool.and_eq_true, decide_eq_true_eq]
        constructor
        · rintro ⟨h1, h2, h3, h4, h5⟩
          exact ⟨⟨fun _ => h1, fun h => absurd k2 h⟩, fun h => absurd h k, fun _ => ⟨h2, h4, h5, fun h => absurd h k5, fun _ => h3⟩⟩
        · rintro ⟨h1, _, h3⟩
          obtain ⟨a, b, c, _, d⟩ := h3 k
          exact ⟨h1.1 k2, a, d k5, b, c⟩
      · rw [if_neg k2]
        simp only [Bool.and_eq_true, decide_eq_true_eq]
        constructor
        · rintro ⟨h1, h2, h3, h4, h5⟩
          exact ⟨⟨fun h => absurd h k2, fun _ => h1⟩, fun h => absurd h k, fun _ => ⟨h2, h4, h5, fun h => absurd h k5, fun _ => h3⟩⟩
        · rintro ⟨h1, _, h3⟩
          obtain ⟨a, b, c, _, d⟩ := h3 k
          exact ⟨h1.2 k2, a, d k5, b, c⟩
theorem enListed_iff (e : En) : enListed e = true ↔ EnC e ∧ (e.ctors.any fun s => !nameOk s) = false := by
  unfold enListed EnC
  by_cases k : e.kind = 5 ∨ e.kind = 7
  · rw [if_pos k]
    simp only [Bool.and_eq_true, decide_eq_true_eq, Bool.not_eq_true']
    exact ⟨fun h => ⟨⟨fun h => absurd k h, h.1⟩, h.2⟩, fun h => ⟨h.1.2, h.2⟩⟩
  · rw [if_neg k]
    simp only [decide_eq_true_eq]
    constructor
    · intro h
      exact ⟨⟨fun _ => h, by omega⟩, by rw [List.eq_nil_of_length_eq_zero h]; rfl⟩
    · intro h
      exact h.1.1 k
theorem enRight_iff (e : En) : enRight e = true ↔ spanB e.kind 1 7 = true ∧ nameOk e.name = true ∧ spanB e.params 0 4 = true ∧ tmRight e.params 0 e.type = true ∧ enValued e = true ∧ (EnH e ∧ EnI e ∧ EnO e) ∧ EnC e ∧ (e.ctors.any fun s => !nameOk s) = false := by
  unfold enRight
  simp only [Bool.and_eq_true, enNumbered_iff, enListed_iff]

set_option maxRecDepth 100000 in
theorem ref11span_con (n a b : Int) : Ans Tryz.prog 66 [.i n, .i a, .i b] (.b (spanB n a b)) := by
  intro H Q hq
  refine con_of_awp (esc := fun _ => false) tab_ok mixed Tryz.func66 rfl (ent Tryz.func66 (by kernel_rfl) rfl) (by kernel_rfl) ?_
  intro hw hn
  have fin : ∀ q : Bool, q = spanB n a b → ∃ r H', Le (.b q) r ∧ List.Sublist H' H ∧ Q r H' := fun q h => ⟨_, H, ret_b h, List.Sublist.refl _, hq⟩
  refine ifB_dec (fun h1 => ?_) (fun h1 => ?_)
  · refine ifB_dec (fun h2 => ?_) (fun h2 => ?_)
    · exact fin _ (by simp [spanB, show a ≤ n from h1, show n ≤ b from h2])
    · exact fin _ (by simp [spanB, show ¬ n ≤ b from h2])
  · exact fin _ (by simp [spanB, show ¬ a ≤ n from h1])
set_option maxRecDepth 100000 in
set_option maxHeartbeats 1000000 in
theorem ref11Right_con (e : En) : Ans Tryz.prog 45 [enX e] (.b (enRight e)) := by
  intro H Q hq
  have hiff := enRight_iff e
  have fin : ∀ q : Bool, q = enRight e → ∃ r H', Le (.b q) r ∧ List.Sublist H' H ∧ Q r H' := fun q h => ⟨_, H, ret_b h, List.Sublist.refl _, hq⟩
  have no : ¬ enRight e = true → ∃ r H', Le (.b false) r ∧ List.Sublist H' H ∧ Q r H' := fun h => fin _ (ntrue h).symm
  refine con_of_sem tab_ok Tryz.func45 rfl (ent Tryz.func45 (by kernel_rfl) rfl) (by kernel_rfl) ?_
  intro hw hn
  clear hw hn
  refine sem_seq (esc := fun _ => false) tab_ok mixed ?_
  refine sem_seq (esc := fun _ => false) tab_ok mixed ?_
  by_cases k1 : spanB e.kind 1 7 = true
  rotate_left
  · refine ⟨_, LeL.refl _, (ref11span_con e.kind 1 7).no k1 _ _ ?_⟩
    intro hz1 hz2; clear hz1 hz2
    exact no (fun h => k1 ((fun h => h.1) (hiff.1 h)))
  refine ⟨_, LeL.refl _, (ref11span_con e.kind 1 7).yes k1 _ _ ?_⟩
  intro hz1 hz2; clear hz1 hz2
  by_cases k2 : nameOk e.name = true
  rotate_left
  · refine ⟨_, LeL.refl _, (ref01Right_con e.name).no k2 _ _ ?_⟩
    intro hz1 hz2; clear hz1 hz2
    exact no (fun h => k2 ((fun h => h.2.1) (hiff.1 h)))
  refine ⟨_, LeL.refl _, (ref01Right_con e.name).yes k2 _ _ ?_⟩
  intro hz1 hz2; clear hz1 hz2
  by_cases k4 : tmRight e.params 0 e.type = true
  rotate_left
  · refine ⟨_, LeL.refl _, (ref04Right_con e.params 0 e.type).no k4 _ _ ?_⟩
    intro hz1 hz2; clear hz1 hz2
    exact no (fun h => k4 ((fun h => h.2.2.2.1) (hiff.1 h)))
  refine ⟨_, LeL.refl _, (ref04Right_con e.params 0 e.type).yes k4 _ _ ?_⟩
  intro hz1 hz2; clear hz1 hz2
  by_cases k3 : spanB e.params 0 4 = true
  rotate_left
  · refine ⟨_, LeL.refl _, (ref11span_con e.params 0 4).no k3 _ _ ?_⟩
    intro hz1 hz2; clear hz1 hz2
    exact no (fun h => k3 ((fun h => h.2.2.1) (hiff.1 h)))
  refine ⟨_, LeL.refl _, (ref11span_con e.params 0 4).yes k3 _ _ ?_⟩
  intro hz1 hz2; clear hz1 hz2
  have hp : 0 ≤ e.params ∧ e.params ≤ 4 := by simpa [spanB] using k3
  refine sem_seq (esc := fun _ => false) tab_ok mixed ?_
  refine ⟨[tmX e.value, tmX tm0], ⟨Le.refl _, le_tm0, trivial⟩, SameTerm_con _ e.value tm0 (Nat.le_refl _) _ _ ?_⟩
  intro hz1 hz2; clear hz1 hz2
  obtain ⟨none, hnone⟩ : ∃ q, tmEq e.value tm0 = q := ⟨_, rfl⟩
  refine sem_le ⟨[(1, .lp 1 0), (2, .g (.b false)), (3, .g (.b none))], [(1, (enX e).cells)], H⟩ ?_ ?_
  · exact ⟨⟨⟨rfl, rfl⟩, Le.refl _, ret_b hnone, trivial⟩, ⟨⟨rfl, LeL.refl _⟩, trivial⟩, List.Sublist.refl _⟩
  refine sem_join (esc := fun _ => false) tab_ok mixed (X := Unit) (fun q => ⟨[(1, .lp 1 0), (2, .g (.b false))], [(1, (enX e).cells)], H⟩) (fun q => enValued e = true) ?_ (fun q hI => ?_)
  · have hv := hiff
    refine ifB_dec (fun h2 => ?_) (fun h2 => ?_)
    · have hval : enValued e = tmRight e.params 0 e.value := by rw [enValued, if_pos (by omega)]
      by_cases h7 : tmRight e.params 0 e.value = true
      rotate_left
      · refine ⟨_, LeL.refl _, (ref04Right_con e.params 0 e.value).no h7 _ _ ?_⟩
        intro hz1 hz2; clear hz1 hz2
        exact no (fun h => h7 (by rw [← hval]; exact (hiff.1 h).2.2.2.2.1))
      refine ⟨_, LeL.refl _, (ref04Right_con e.params 0 e.value).yes h7 _ _ ?_⟩
      intro hz1 hz2; clear hz1 hz2
      refine ⟨(), by rw [hval]; exact h7, ?_⟩
      (constructor <;> repeat' (first | exact trivial | exact ⟨rfl, rfl⟩ | exact ⟨rfl, LeL.refl _⟩ | exact Le.refl _ | exact List.Sublist.refl _ | (show Le (AV.i _) (AV.i _); rw [List.length_map]; exact Le.refl _) | refine And.intro ?_ ?_))
    refine ifB_dec (fun h3 => ?_) (fun h3 => ?_)
    · have hval : enValued e = tmRight e.params 0 e.value := by rw [enValued, if_pos (by omega)]
      by_cases h7 : tmRight e.params 0 e.value = true
      rotate_left
      · refine ⟨_, LeL.refl _, (ref04Right_con e.params 0 e.value).no h7 _ _ ?_⟩
        intro hz1 hz2; clear hz1 hz2
        exact no (fun h => h7 (by rw [← hval]; exact (hiff.1 h).2.2.2.2.1))
      refine ⟨_, LeL.refl _, (ref04Right_con e.params 0 e.value).yes h7 _ _ ?_⟩
      intro hz1 hz2; clear hz1 hz2
      refine ⟨(), by rw [hval]; exact h7, ?_⟩
      (constructor <;> repeat' (first | exact trivial | exact ⟨rfl, rfl⟩ | exact ⟨rfl, LeL.refl _⟩ | exact Le.refl _ | exact List.Sublist.refl _ | (show Le (AV.i _) (AV.i _); rw [List.length_map]; exact Le.refl _) | refine And.intro ?_ ?_))
    refine ifB_dec (fun h4 => ?_) (fun h4 => ?_)
    · have hval : enValued e = tmRight e.params 0 e.value := by rw [enValued, if_pos (by omega)]
      by_cases h7 : tmRight e.params 0 e.value = true
      rotate_left
      · refine ⟨_, LeL.refl _, (ref04Right_con e.params 0 e.value).no h7 _ _ ?_⟩
        intro hz1 hz2; clear hz1 hz2
        exact no (fun h => h7 (by rw [← hval]; exact (hiff.1 h).2.2.2.2.1))
      refine ⟨_, LeL.refl _, (ref04Right_con e.params 0 e.value).yes h7 _ _ ?_⟩
      intro hz1 hz2; clear hz1 hz2
      refine ⟨(), by rw [hval]; exact h7, ?_⟩
      (constructor <;> repeat' (first | exact trivial | exact ⟨rfl, rfl⟩ | exact ⟨rfl, LeL.refl _⟩ | exact Le.refl _ | exact List.Sublist.refl _ | (show Le (AV.i _) (AV.i _); rw [List.length_map]; exact Le.refl _) | refine And.intro ?_ ?_))
    have hno : ¬ (2 ≤ e.kind ∧ e.kind ≤ 4) := by omega
    refine ifB_dec (fun h6 => ?_) (fun h6 => ?_)
    · have hval : enValued e = (tmEq e.value tm0 || tmRight (min (e.params + 1) 4) 0 e.value) := by rw [enValued, if_neg hno, if_pos h6]
      rw [hnone] at hval
      cases none with
      | true =>
        refine ⟨(), by rw [hval]; rfl, ?_⟩
        (constructor <;> repeat' (first | exact trivial | exact ⟨rfl, rfl⟩ | exact ⟨rfl, LeL.refl _⟩ | exact Le.refl _ | exact List.Sublist.refl _ | (show Le (AV.i _) (AV.i _); rw [List.length_map]; exact Le.refl _) | refine And.intro ?_ ?_))
      | false =>
        refine ⟨in64_of (by first | omega | (dsimp only; omega)) (by first | omega | (dsimp only; omega)), ?_⟩
        by_cases h7 : tmRight (min (e.params + 1) 4) 0 e.value = true
        rotate_left
        · refine ⟨_, LeL.refl _, (ref04Right_con (min (e.params + 1) 4) 0 e.value).no h7 _ _ ?_⟩
          intro hz1 hz2; clear hz1 hz2
          exact no (fun h => h7 (by have := (hiff.1 h).2.2.2.2.1; rw [hval] at this; exact this))
        refine ⟨_, LeL.refl _, (ref04Right_con (min (e.params + 1) 4) 0 e.value).yes h7 _ _ ?_⟩
        intro hz1 hz2; clear hz1 hz2
        refine ⟨(), by rw [hval]; exact h7, ?_⟩
        (constructor <;> repeat' (first | exact trivial | exact ⟨rfl, rfl⟩ | exact ⟨rfl, LeL.refl _⟩ | exact Le.refl _ | exact List.Sublist.refl _ | (show Le (AV.i _) (AV.i _); rw [List.length_map]; exact Le.refl _) | refine And.intro ?_ ?_))
    · have hval : enValued e = tmEq e.value tm0 := by rw [enValued, if_neg hno, if_neg h6]
      rw [hnone] at hval
      cases none with
      | true =>
        refine ⟨(), hval, ?_⟩
        (constructor <;> repeat' (first | exact trivial | exact ⟨rfl, rfl⟩ | exact ⟨rfl, LeL.refl _⟩ | exact Le.refl _ | exact List.Sublist.refl _ | (show Le (AV.i _) (AV.i _); rw [List.length_map]; exact Le.refl _) | refine And.intro ?_ ?_))
      | false => exact no (fun h => by have := (hiff.1 h).2.2.2.2.1; rw [hval] at this; cases this)
  have kv := hI
  clear hI
  refine sem_join (esc := fun _ => false) tab_ok mixed (X := Unit) (fun q => ⟨[(1, .lp 1 0), (2, .g (.b false))], [(1, (enX e).cells)], H⟩) (fun q => EnH e) ?_ (fun q hI => ?_)
  · by_cases k : e.kind = 2
    · refine ifB_t k ?_
      by_cases k5 : spanB e.height 1 1048576 = true
      rotate_left
      · refine ⟨_, LeL.refl _, (ref11span_con e.height 1 1048576).no k5 _ _ ?_⟩
        intro hz1 hz2; clear hz1 hz2
        exact no (fun h => k5 ((fun h => h.2.2.2.2.2.1.1.1 k) (hiff.1 h)))
      refine ⟨_, LeL.refl _, (ref11span_con e.height 1 1048576).yes k5 _ _ ?_⟩
      intro hz1 hz2; clear hz1 hz2
      refine ifB_t k ?_
      refine ⟨(), ⟨fun _ => k5, fun h => absurd k h⟩, ?_⟩
      (constructor <;> repeat' (first | exact trivial | exact ⟨rfl, rfl⟩ | exact ⟨rfl, LeL.refl _⟩ | exact Le.refl _ | exact List.Sublist.refl _ | (show Le (AV.i _) (AV.i _); rw [List.length_map]; exact Le.refl _) | refine And.intro ?_ ?_))
    · refine ifB_f k ?_
      refine ifB_f k ?_
      refine ifB_dec (fun k5 => ?_) (fun k5 => ?_)
      · refine ⟨(), ⟨fun h => absurd h k, fun _ => k5⟩, ?_⟩
        (constructor <;> repeat' (first | exact trivial | exact ⟨rfl, rfl⟩ | exact ⟨rfl, LeL.refl _⟩ | exact Le.refl _ | exact List.Sublist.refl _ | (show Le (AV.i _) (AV.i _); rw [List.length_map]; exact Le.refl _) | refine And.intro ?_ ?_))
      · exact no (fun h => k5 ((hiff.1 h).2.2.2.2.2.1.1.2 k))
  have kh := hI
  clear hI
  refine sem_join (esc := fun _ => false) tab_ok mixed (X := Bool) (fun q => ⟨[(1, .lp 1 0), (2, .g (.b false)), (4, .g (.b q))], [(1, (enX e).cells)], H⟩) (fun q => (q = true ↔ e.kind = 6 ∨ e.kind = 7)) ?_ (fun q hI => ?_)
  · refine ifB_dec (fun k6 => ?_) (fun k6 => ?_)
    · refine ⟨true, ⟨fun _ => Or.inl k6, fun _ => rfl⟩, ?_⟩
      (constructor <;> repeat' (first | exact trivial | exact ⟨rfl, rfl⟩ | exact ⟨rfl, LeL.refl _⟩ | exact Le.refl _ | exact List.Sublist.refl _ | (show Le (AV.i _) (AV.i _); rw [List.length_map]; exact Le.refl _) | refine And.intro ?_ ?_))
    refine ifB_dec (fun k7 => ?_) (fun k7 => ?_)
    · refine ⟨true, ⟨fun _ => Or.inr k7, fun _ => rfl⟩, ?_⟩
      (constructor <;> repeat' (first | exact trivial | exact ⟨rfl, rfl⟩ | exact ⟨rfl, LeL.refl _⟩ | exact Le.refl _ | exact List.Sublist.refl _ | (show Le (AV.i _) (AV.i _); rw [List.length_map]; exact Le.refl _) | refine And.intro ?_ ?_))
    · refine ⟨false, ⟨nofun, fun h => absurd h (by omega)⟩, ?_⟩
      (constructor <;> repeat' (first | exact trivial | exact ⟨rfl, rfl⟩ | exact ⟨rfl, LeL.refl _⟩ | exact Le.refl _ | exact List.Sublist.refl _ | (show Le (AV.i _) (AV.i _); rw [List.length_map]; exact Le.refl _) | refine And.intro ?_ ?_))
  have kq := hI
  clear hI
  refine sem_join (esc := fun _ => false) tab_ok mixed (X := Unit) (fun _ => ⟨[(1, .lp 1 0), (2, .g (.b false)), (4, .g (.b q))], [(1, (enX e).cells)], H⟩) (fun _ => EnI e) ?_ (fun _ hI => ?_)
  · cases q with
    | false =>
      refine ⟨(), fun h => absurd (kq.2 h) nofun, ?_⟩
      (constructor <;> repeat' (first | exact trivial | exact ⟨rfl, rfl⟩ | exact ⟨rfl, LeL.refl _⟩ | exact Le.refl _ | exact List.Sublist.refl _ | (show Le (AV.i _) (AV.i _); rw [List.length_map]; exact Le.refl _) | refine And.intro ?_ ?_))
    | true =>
      have k67 := kq.1 rfl
      by_cases m1 : nameOk e.family = true
      rotate_left
      · refine ⟨_, LeL.refl _, (ref01Right_con e.family).no m1 _ _ ?_⟩
        intro hz1 hz2; clear hz1 hz2
        exact no (fun h => m1 ((fun h => (h.2.2.2.2.2.1.2.1 k67).1) (hiff.1 h)))
      refine ⟨_, LeL.refl _, (ref01Right_con e.family).yes m1 _ _ ?_⟩
      intro hz1 hz2; clear hz1 hz2
      by_cases m2 : spanB e.fixed 0 32 = true
      rotate_left
      · refine ⟨_, LeL.refl _, (ref11span_con e.fixed 0 32).no m2 _ _ ?_⟩
        intro hz1 hz2; clear hz1 hz2
        exact no (fun h => m2 ((fun h => (h.2.2.2.2.2.1.2.1 k67).2.1) (hiff.1 h)))
      refine ⟨_, LeL.refl _, (ref11span_con e.fixed 0 32).yes m2 _ _ ?_⟩
      intro hz1 hz2; clear hz1 hz2
      by_cases m3 : spanB e.index 0 32 = true
      rotate_left
      · refine ⟨_, LeL.refl _, (ref11span_con e.index 0 32).no m3 _ _ ?_⟩
        intro hz1 hz2; clear hz1 hz2
        exact no (fun h => m3 ((fun h => (h.2.2.2.2.2.1.2.1 k67).2.2.1) (hiff.1 h)))
      refine ⟨_, LeL.refl _, (ref11span_con e.index 0 32).yes m3 _ _ ?_⟩
      intro hz1 hz2; clear hz1 hz2
      by_cases m4 : spanB e.fields 0 32 = true
      rotate_left
      · refine ⟨_, LeL.refl _, (ref11span_con e.fields 0 32).no m4 _ _ ?_⟩
        intro hz1 hz2; clear hz1 hz2
        exact no (fun h => m4 ((fun h => (h.2.2.2.2.2.1.2.1 k67).2.2.2) (hiff.1 h)))
      refine ⟨_, LeL.refl _, (ref11span_con e.fields 0 32).yes m4 _ _ ?_⟩
      intro hz1 hz2; clear hz1 hz2
      refine ⟨(), fun _ => ⟨m1, m2, m3, m4⟩, ?_⟩
      (constructor <;> repeat' (first | exact trivial | exact ⟨rfl, rfl⟩ | exact ⟨rfl, LeL.refl _⟩ | exact Le.refl _ | exact List.Sublist.refl _ | (show Le (AV.i _) (AV.i _); rw [List.length_map]; exact Le.refl _) | refine And.intro ?_ ?_))
  have ki := hI
  clear hI
  refine sem_join (esc := fun _ => false) tab_ok mixed (X := Unit) (fun q => ⟨[(1, .lp 1 0), (2, .g (.b false))], [(1, (enX e).cells)], H⟩) (fun q => EnO e) ?_ (fun q hI => ?_)
  · cases q with
    | true =>
      refine ⟨(), fun h => absurd (kq.1 rfl) h, ?_⟩
      (constructor <;> repeat' (first | exact trivial | exact ⟨rfl, rfl⟩ | exact ⟨rfl, LeL.refl _⟩ | exact Le.refl _ | exact List.Sublist.refl _ | (show Le (AV.i _) (AV.i _); rw [List.length_map]; exact Le.refl _) | refine And.intro ?_ ?_))
    | false =>
      have k67 : ¬ (e.kind = 6 ∨ e.kind = 7) := fun h => absurd (kq.2 h) nofun
      have ho : enRight e = true → _ := fun h => (hiff.1 h).2.2.2.2.2.1.2.2 k67
      refine ifB_dec (fun m1 => ?_) (fun m1 => ?_)
      rotate_left
      · exact no (fun h => m1 (ho h).1)
      refine ifB_dec (fun m2 => ?_) (fun m2 => ?_)
      rotate_left
      · exact no (fun h => m2 (ho h).2.1)
      refine ifB_dec (fun m3 => ?_) (fun m3 => ?_)
      rotate_left
      · exact no (fun h => m3 (ho h).2.2.1)
      by_cases k5 : e.kind = 5
      · refine ifB_t k5 ?_
        by_cases m4 : spanB e.fixed 0 16 = true
        rotate_left
        · refine ⟨_, LeL.refl _, (ref11span_con e.fixed 0 16).no m4 _ _ ?_⟩
          intro hz1 hz2; clear hz1 hz2
          exact no (fun h => m4 ((fun h => (h.2.2.2.2.2.1.2.2 k67).2.2.2.1 k5) (hiff.1 h)))
        refine ⟨_, LeL.refl _, (ref11span_con e.fixed 0 16).yes m4 _ _ ?_⟩
        intro hz1 hz2; clear hz1 hz2
        refine ifB_t k5 ?_
        refine ⟨(), fun _ => ⟨m1, m2, m3, fun _ => m4, fun h => absurd k5 h⟩, ?_⟩
        (constructor <;> repeat' (first | exact trivial | exact ⟨rfl, rfl⟩ | exact ⟨rfl, LeL.refl _⟩ | exact Le.refl _ | exact List.Sublist.refl _ | (show Le (AV.i _) (AV.i _); rw [List.length_map]; exact Le.refl _) | refine And.intro ?_ ?_))
      · refine ifB_f k5 ?_
        refine ifB_f k5 ?_
        refine ifB_dec (fun m4 => ?_) (fun m4 => ?_)
        rotate_left
        · exact no (fun h => m4 ((ho h).2.2.2.2 k5))
        refine ⟨(), fun _ => ⟨m1, m2, m3, fun h => absurd h k5, fun _ => m4⟩, ?_⟩
        (constructor <;> repeat' (first | exact trivial | exact ⟨rfl, rfl⟩ | exact ⟨rfl, LeL.refl _⟩ | exact Le.refl _ | exact List.Sublist.refl _ | (show Le (AV.i _) (AV.i _); rw [List.length_map]; exact Le.refl _) | refine And.intro ?_ ?_))
  have ko := hI
  clear hI
  refine sem_join (esc := fun _ => false) tab_ok mixed (X := Unit) (fun q => ⟨[(1, .lp 1 0), (2, .g (.b false))], [(1, (enX e).cells)], H⟩) (fun q => EnC e) ?_ (fun q hI => ?_)
  · skip
    by_cases k5 : e.kind = 5
    · refine ifB_t k5 ?_
      refine ifB_dec (fun m8 => ?_) (fun m8 => ?_)
      · simp only [List.length_map] at m8
        exact no (fun h => by have := (hiff.1 h).2.2.2.2.2.2.1.2; omega)
      simp only [List.length_map] at m8
      refine ⟨(), ⟨fun h => absurd (Or.inl k5) h, by omega⟩, ?_⟩
      (constructor <;> repeat' (first | exact trivial | exact ⟨rfl, rfl⟩ | exact ⟨rfl, LeL.refl _⟩ | exact Le.refl _ | exact List.Sublist.refl _ | (show Le (AV.i _) (AV.i _); rw [List.length_map]; exact Le.refl _) | refine And.intro ?_ ?_))
    · refine ifB_f k5 ?_
      by_cases k7 : e.kind = 7
      · refine ifB_t k7 ?_
        refine ifB_dec (fun m8 => ?_) (fun m8 => ?_)
        · simp only [List.length_map] at m8
          exact no (fun h => by have := (hiff.1 h).2.2.2.2.2.2.1.2; omega)
        simp only [List.length_map] at m8
        refine ⟨(), ⟨fun h => absurd (Or.inr k7) h, by omega⟩, ?_⟩
        (constructor <;> repeat' (first | exact trivial | exact ⟨rfl, rfl⟩ | exact ⟨rfl, LeL.refl _⟩ | exact Le.refl _ | exact List.Sublist.refl _ | (show Le (AV.i _) (AV.i _); rw [List.length_map]; exact Le.refl _) | refine And.intro ?_ ?_))
      · refine ifB_f k7 ?_
        refine ifB_dec (fun m0 => ?_) (fun m0 => ?_)
        rotate_left
        · simp only [List.length_map] at m0
          exact no (fun h => by have := (hiff.1 h).2.2.2.2.2.2.1.1 (by omega); omega)
        simp only [List.length_map] at m0
        refine ifB_dec (fun m8 => ?_) (fun m8 => ?_)
        · simp only [List.length_map] at m8
          exact no (fun h => by have := (hiff.1 h).2.2.2.2.2.2.1.2; omega)
        simp only [List.length_map] at m8
        refine ⟨(), ⟨fun _ => by omega, by omega⟩, ?_⟩
        (constructor <;> repeat' (first | exact trivial | exact ⟨rfl, rfl⟩ | exact ⟨rfl, LeL.refl _⟩ | exact Le.refl _ | exact List.Sublist.refl _ | (show Le (AV.i _) (AV.i _); rw [List.length_map]; exact Le.refl _) | refine And.intro ?_ ?_))
  have kc := hI
  clear hI
  have hc8 := kc.2
  refine sem_join (esc := fun _ => false) tab_ok mixed (X := Unit) (fun q => ⟨[], [], H⟩) (fun q => (e.ctors.any fun s => !nameOk s) = false) ?_ (fun q hI => ?_)
  · refine ⟨Nat, fun j => ⟨[(1, .lp 1 0), (2, .g (.b false)), (5, .g (.i j))], [(1, (enX e).cells)], H⟩, fun j => j ≤ e.ctors.length ∧ ((e.ctors.take j).any fun s => !nameOk s) = false, fun j => e.ctors.length - j, ⟨0, ⟨Nat.zero_le _, rfl⟩, ?_⟩, ?_⟩
    · (constructor <;> repeat' (first | exact trivial | exact ⟨rfl, rfl⟩ | exact ⟨rfl, LeL.refl _⟩ | exact Le.refl _ | exact List.Sublist.refl _ | (show Le (AV.i _) (AV.i _); rw [List.length_map]; exact Le.refl _) | refine And.intro ?_ ?_))
    · rintro j ⟨hj, hall⟩
      refine ifB_dec (fun h1 => ?_) (fun h1 => ?_)
      · simp only [List.length_map] at h1
        have hlt : j < e.ctors.length := by omega
        refine ⟨j, rfl, _, stAt hlt, ?_⟩
        by_cases m1 : nameOk e.ctors[j] = true
        rotate_left
        · refine ⟨_, LeL.refl _, (ref01Right_con e.ctors[j]).no m1 _ _ ?_⟩
          intro hz1 hz2; clear hz1 hz2
          exact no (fun h => by
            have h2 := (hiff.1 h).2.2.2.2.2.2.2
            rw [any_yes (f := fun s => !nameOk s) hlt (by rw [ntrue m1]; rfl)] at h2
            cases h2)
        refine ⟨_, LeL.refl _, (ref01Right_con e.ctors[j]).yes m1 _ _ ?_⟩
        intro hz1 hz2; clear hz1 hz2
        refine ⟨in64_of (by first | omega | (dsimp only; omega)) (by first | omega | (dsimp only; omega)), ?_⟩
        refine ⟨j + 1, ⟨by omega, any_take_step hlt hall (by rw [m1]; rfl)⟩, by (try dsimp only); omega, ?_⟩
        (constructor <;> repeat' (first | exact trivial | exact ⟨rfl, rfl⟩ | exact ⟨rfl, LeL.refl _⟩ | exact Le.refl _ | exact List.Sublist.refl _ | (show Le (AV.i _) (AV.i _); rw [List.length_map]; exact Le.refl _) | refine And.intro ?_ ?_))
      · simp only [List.length_map] at h1
        have hj' : e.ctors.length = j := by omega
        subst hj'
        rw [List.take_length] at hall
        exact ⟨(), hall, ⟨trivial, trivial, List.Sublist.refl _⟩⟩
  refine sem_of (esc := fun _ => false) tab_ok mixed ?_
  exact fin _ (hiff.2 ⟨k1, k2, k3, k4, kv, ⟨kh, ki, ko⟩, kc, hI⟩).symm


end Go.Proofs.YtahdkhklngjmoaaGreatDoor

/-
  The references' bytes: numbers, texts, levels. No condition.
-/
namespace Go.Proofs.YtahdkhklngjmoaaGreatDoor
open Go.RowKit

end Go.Proofs.YtahdkhklngjmoaaGreatDoor

/-
  The references' bytes: terms. No condition.
-/
namespace Go.Proofs.YtahdkhklngjmoaaGreatDoor
open Go.RowKit

theorem packOk_fit {t : Tm} (h : packOk t = true) : PokAll t ∧ t.nodes ≤ 2000 ∧ ∃ v, tmFit 4 t v = true := by
  obtain ⟨h1, h2⟩ := packOk_pok h
  refine ⟨h1, h2, ?_⟩
  unfold packOk tmRight at h
  simp only [Bool.and_eq_true, decide_eq_true_eq] at h
  exact ⟨_, h.1.2⟩
end Go.Proofs.YtahdkhklngjmoaaGreatDoor

/-
  Whnf: Nf, Whnf, Step, Env. No condition.
-/
namespace Go.Proofs.YtahdkhklngjmoaaGreatDoor
open Go.RowKit

theorem packOk_fit0 {t : Tm} (h : packOk t = true) : t.nodes ≤ 2000 ∧ tmFit 4 t 1099511627776 = true := by
  refine ⟨(packOk_fit h).2.1, ?_⟩
  unfold packOk at h
  rw [Bool.and_eq_true] at h
  have h1 := h.1
  unfold tmRight at h1
  simp only [Bool.and_eq_true] at h1
  exact h1.2
section
variable {rb : Nat} {te : Tre} {l : List En} {used : Int} {X H : Heap} {Q : AV → Heap → Prop} {R : Value → Heap → Prop}
set_option maxRecDepth 100000 in
/-- what a call that may stop comes to, with what stands ahead in the heap -/
theorem redu_of {g : FuncId} {args : List AV} {t : Tm} {n : Nat} {hd : Tm → Nat → Tm × Int × Nat} {ev : AV} (hc : ∀ (G : Heap) (Q : AV → Heap → Prop) (R : Value → Heap → Prop), TmPost rb ev used n (G ++ X) (hd t n) Q R → ConX Tryz.prog g args (G ++ H) Q R)
    (hq : ∀ H', HasW rb ev (used + ((n : Int) - ((hd t n).2.2 : Nat))) ((hd t n).2.2 : Nat) X H' → Q (.tup [tmX (if (hd t n).2.1 = 0 then (hd t n).1 else tm0), .i (hd t n).2.1]) H') : Redu g args H Q := by
  intro G
  refine hc G _ _ fun H' hH' => ?_
  have hq := hq _ (List.Perm.refl _)
  by_cases h0 : (hd t n).2.1 = 0
  · rw [if_pos h0]
    rw [if_pos h0, h0] at hq
    exact ⟨_, _, rfl, hH'.out, hq⟩
  · rw [if_neg h0]
    rw [if_neg h0] at hq
    exact ⟨_, _, rfl, hH'.out, hq⟩
set_option maxRecDepth 100000 in
set_option maxHeartbeats 1000000 in
theorem wNf_con (hp : Places te l) (ha : AllRight l) (t : Tm) {n : Nat} (h0 : 0 ≤ used) (h1 : used + n ≤ 1000000000) (h : HasW rb (envX te l) used n X H)
    (hno : packOk t = false → Q (.tup [tmX tm0, .i 10]) H) (hyes : packOk t = true → ∀ H', HasW rb (envX te l) (used + ((n : Int) - ((wNf l t n).2.2 : Nat))) ((wNf l t n).2.2 : Nat) X H' → Q (.tup [tmX (if (wNf l t n).2.1 = 0 then (wNf l t n).1 else tm0), .i (wNf l t n).2.1]) H') : Con Tryz.prog 11 [.ptr rb 0, tmX t] H Q := by
  refine con_of_awp (esc := fun _ => false) tab_ok mixed Tryz.func11 rfl (ent Tryz.func11 (by kernel_rfl) rfl) (by kernel_rfl) ?_
  intro hw hn
  clear hw hn
  cases hpk : packOk t with
  | false =>
    refine ⟨_, LeL.refl _, by_no t _ hpk ?_⟩
    intro hz1 hz2; clear hz1 hz2
    exact ⟨_, H, Le.refl _, List.Sublist.refl _, hno hpk⟩
  | true =>
    obtain ⟨k1, k2⟩ := packOk_fit0 hpk
    refine ⟨_, LeL.refl _, by_bound t _ hpk (redu_of (hd := wNf l) (fun G Q R post => wnormal_con hp ha (wTop t n) t n _ (Nat.le_refl _) k1 (by decide) k2 used _ _ Q R h0 h1 (h.under G) post) fun H' hH' => ?_)⟩
    intro hz1 hz2; clear hz1 hz2
    exact ⟨_, H', Le.refl _, List.Sublist.refl _, hyes hpk H' hH'⟩
set_option maxRecDepth 100000 in
set_option maxHeartbeats 1000000 in
theorem whnf1_con (hp : Places te l) (ha : AllRight l) (t : Tm) (ht : t.nodes ≤ 2000) {v : Int} (hv : 0 ≤ v) (hfit : tmFit 4 t v = true) {n : Nat} (h0 : 0 ≤ used) (h1 : used + n ≤ 1000000000) {b : Nat} (h : HasW rb (envX te l) used n X H) (hb : (b, AObj.cells [.ptr rb 0]) ∈ H)
    (post : TmPost rb (envX te l) used n X (wHd l t n) Q R) : ConX Tryz.prog 47 [tmX t, .ptr b 0] H Q R := by
  refine conX_of_awp (esc := fun _ => false) tab_ok mixed Tryz.func47 rfl (ent Tryz.func47 (by kernel_rfl) rfl) (by kernel_rfl) ?_
  intro hw hn
  clear hw hn
  refine ⟨_, hb, ?_⟩
  refine ⟨_, LeL.refl _, whead_con hp ha hv (wTop t n) t n (Nat.le_refl _) ht hfit used X H _ _ h0 h1 h fun H1 hH1 => ?_⟩
  have post := post H1 hH1
  by_cases hE : (wHd l t n).2.1 = 0
  · rw [if_pos hE] at post ⊢
    intro hz1 hz2; clear hz1 hz2
    have hwn := wHd_nodes l t n ht
    refine ⟨[tmX (wHd l t n).1, .sl .no 5 (([] : List Tm).map tmA)], ⟨Le.refl _, Le.nil _ _, trivial⟩, Con.x (App_con .no (wHd l t n).1 [] (by omega) (fun y hy => by cases hy) (by simp) _ _ ?_)⟩
    intro hz1 hz2; clear hz1 hz2
    exact ⟨_, _, Le.refl _, List.Sublist.refl _, post⟩
  · rw [if_neg hE] at post ⊢
    exact ⟨_, List.Sublist.refl _, post⟩
set_option maxRecDepth 100000 in
set_option maxHeartbeats 1000000 in
theorem wWhnf_con (hp : Places te l) (ha : AllRight l) (t : Tm) {n : Nat} (h0 : 0 ≤ used) (h1 : used + n ≤ 1000000000) (h : HasW rb (envX te l) used n X H)
    (hno : packOk t = false → Q (.tup [tmX tm0, .i 10]) H) (hyes : packOk t = true → ∀ H', HasW rb (envX te l) (used + ((n : Int) - ((wHd l t n).2.2 : Nat))) ((wHd l t n).2.2 : Nat) X H' → Q (.tup [tmX (if (wHd l t n).2.1 = 0 then (wHd l t n).1 else tm0), .i (wHd l t n).2.1]) H') : Con Tryz.prog 18 [.ptr rb 0, tmX t] H Q := by
  refine con_of_awp (esc := ([2].contains ·)) tab_ok mixed Tryz.func18 rfl (ent Tryz.func18 (by kernel_rfl) rfl) (by kernel_rfl) ?_
  intro hw hn
  clear hw hn
  intro b hb
  cases hpk : packOk t with
  | false =>
    refine ⟨_, List.mem_cons_self, ?_⟩
    refine ⟨_, LeL.refl _, by_no t _ hpk ?_⟩
    intro hz1 hz2; clear hz1 hz2
    exact ⟨_, H, Le.refl _, List.sublist_cons_self _ _, hno hpk⟩
  | true =>
    obtain ⟨k1, k2⟩ := packOk_fit0 hpk
    refine ⟨_, List.mem_cons_self, ?_⟩
    refine ⟨_, LeL.refl _, by_clo t _ _ hpk (redu_of (rb := rb) (ev := envX te l) (used := used) (X := (b, .cells [.ptr rb 0]) :: X) (hd := wHd l) (t := t) (n := n) (fun G Q R post => whnf1_con hp ha t k1 (by decide) k2 h0 h1 ((h.under [(b, .cells [.ptr rb 0])]).under G) (List.mem_append.2 (Or.inr List.mem_cons_self)) post) fun H' hH' => ?_)⟩
    intro hz1 hz2; clear hz1 hz2
    obtain ⟨H2, s2, w2⟩ := hH'.drop (Y := X) (List.sublist_cons_self _ _)
    exact ⟨_, H2, Le.refl _, s2, hyes hpk H2 w2⟩
/-- a step's error, its kind, what it makes -/
def spE : Sp → Int
  | .err e => e
  | _ => 0
def spK : Sp → Int
  | .to k _ => k
  | _ => 0
def spT (t : Tm) : Sp → Tm
  | .to _ u => u
  | .none => t
  | .err _ => tm0
set_option maxRecDepth 100000 in
theorem wstepT_con (hp : Places te l) (ha : AllRight l) {v : Int} (hv : 0 ≤ v) (t : Tm) (ht : t.nodes ≤ 2000) (hfit : tmFit 4 t v = true) {n : Nat} (h0 : 0 ≤ used) (h1 : used + n ≤ 1000000000) (h : HasW rb (envX te l) used n X H) (post : SpPost rb (envX te l) used n X t (wStep l t n) Q R) : ConX Tryz.prog 51 [.ptr rb 0, tmX t] H Q R := by
  have hlen := fit_len (fit_head t hfit)
  exact wstep_con hp ha t ht (fun k => hlen.1 (Or.inr (Or.inl k))) hlen.2.1 n (hd := wHd l) (fun a hm => whead_con hp ha hv (wTop a n) a n (Nat.le_refl _) (by have := tmArgs_nodes t a hm; omega) (fit_spine t hfit a hm)) (fun a hm => wHd_nodes l a n (by have := tmArgs_nodes t a hm; omega)) (wHd_left l) h0 h1 h post
theorem wStep_nodes {l : List En} {t : Tm} {n : Nat} (ht : t.nodes ≤ 2000) : (spT t (wStep l t n).1).nodes ≤ 2000 := by
  obtain ⟨⟨sp, m⟩, hsp⟩ : ∃ r, wStep l t n = r := ⟨_, rfl⟩
  rw [hsp]
  cases sp with
  | err e => show tm0.nodes ≤ 2000; decide
  | none => exact ht
  | to k u => exact (wDone_to hsp).2
set_option maxRecDepth 100000 in
set_option maxHeartbeats 1000000 in
theorem step1_con (hp : Places te l) (ha : AllRight l) {v : Int} (hv : 0 ≤ v) (t : Tm) (ht : t.nodes ≤ 2000) (hfit : tmFit 4 t v = true) {n : Nat} (h0 : 0 ≤ used) (h1 : used + n ≤ 1000000000) {b2 b7 : Nat} (G : Heap) (h : HasW rb (envX te l) used n (G ++ (b7, .cells [.i 0]) :: (b2, .cells [.ptr rb 0]) :: X) H)
    (post : ∀ H', HasW rb (envX te l) (used + ((n : Int) - ((wStep l t n).2 : Nat))) ((wStep l t n).2 : Nat) (G ++ (b7, .cells [.i (spK (wStep l t n).1)]) :: (b2, .cells [.ptr rb 0]) :: X) H' → if spE (wStep l t n).1 = 0 then Q (tmX (spT t (wStep l t n).1)) H' else R (stuckV (spE (wStep l t n).1)) H') :
    ConX Tryz.prog 50 [tmX t, .ptr b2 0, .ptr b7 0] H Q R := by
  have hstep := fun (Q : AV → Heap → Prop) (R : Value → Heap → Prop) => wstepT_con (Q := Q) (R := R) hp ha hv t ht hfit h0 h1 h
  have hnd := wStep_nodes (l := l) (n := n) ht
  obtain ⟨⟨sp, m⟩, hsp⟩ : ∃ r, wStep l t n = r := ⟨_, rfl⟩
  rw [hsp] at post hstep hnd
  have hb2 : (b2, AObj.cells [.ptr rb 0]) ∈ H := (show H.Perm _ from h).mem_iff.2 (by simp)
  unfold SpPost at hstep
  simp only at post hstep hnd
  refine conX_of_awp (esc := fun _ => false) tab_ok mixed Tryz.func50 rfl (ent Tryz.func50 (by kernel_rfl) rfl) (by kernel_rfl) ?_
  intro hw hn
  clear hw hn
  refine ⟨_, hb2, ?_⟩
  cases sp with
  | err e =>
    have he := wStep_err hsp
    refine ⟨_, LeL.refl _, hstep _ _ fun H1 hH1 => ?_⟩
    have post := post H1 hH1
    rw [show spE (.err e) = e from rfl, if_neg he] at post
    exact ⟨_, List.Sublist.refl _, post⟩
  | none =>
    have hnd : t.nodes ≤ 2000 := hnd
    refine ⟨_, LeL.refl _, hstep _ _ fun H1 hH1 => ?_⟩
    intro hz1 hz2; clear hz1 hz2
    obtain ⟨H2, a2, p2⟩ := at_permW (y := .cells [.i 0]) ((show H1.Perm _ from hH1).trans (show List.Perm ((rb, AObj.cells [envX te l, .i (used + ((n : Int) - (m : Nat))), .i (m : Nat)]) :: (G ++ (b7, .cells [.i 0]) :: (b2, .cells [.ptr rb 0]) :: X)) ((b7, .cells [.i 0]) :: ((rb, .cells [envX te l, .i (used + ((n : Int) - (m : Nat))), .i (m : Nat)]) :: G ++ (b2, .cells [.ptr rb 0]) :: X)) from List.perm_middle (l₁ := (rb, AObj.cells [envX te l, .i (used + ((n : Int) - (m : Nat))), .i (m : Nat)]) :: G)))
    refine ⟨_, _, a2, Nat.le_refl _, ?_⟩
    refine ⟨[tmX (t), .sl .no 5 (([] : List Tm).map tmA)], ⟨Le.refl _, Le.nil _ _, trivial⟩, Con.x (App_con .no (t) [] (by omega) (fun y hy => by cases hy) (by simp) _ _ ?_)⟩
    intro hz1 hz2; clear hz1 hz2
    have post := post H2 (p2.trans (List.perm_middle (l₁ := (rb, AObj.cells [envX te l, .i (used + ((n : Int) - (m : Nat))), .i (m : Nat)]) :: G)).symm)
    rw [show spE .none = 0 from rfl, if_pos rfl] at post
    exact ⟨_, _, Le.refl _, List.Sublist.refl _, post⟩
  | to k u =>
    have hnd : u.nodes ≤ 2000 := hnd
    refine ⟨_, LeL.refl _, hstep _ _ fun H1 hH1 => ?_⟩
    intro hz1 hz2; clear hz1 hz2
    obtain ⟨H2, a2, p2⟩ := at_permW (y := .cells [.i k]) ((show H1.Perm _ from hH1).trans (show List.Perm ((rb, AObj.cells [envX te l, .i (used + ((n : Int) - (m : Nat))), .i (m : Nat)]) :: (G ++ (b7, .cells [.i 0]) :: (b2, .cells [.ptr rb 0]) :: X)) ((b7, .cells [.i 0]) :: ((rb, .cells [envX te l, .i (used + ((n : Int) - (m : Nat))), .i (m : Nat)]) :: G ++ (b2, .cells [.ptr rb 0]) :: X)) from List.perm_middle (l₁ := (rb, AObj.cells [envX te l, .i (used + ((n : Int) - (m : Nat))), .i (m : Nat)]) :: G)))
    refine ⟨_, _, a2, Nat.le_refl _, ?_⟩
    refine ⟨[tmX (u), .sl .no 5 (([] : List Tm).map tmA)], ⟨Le.refl _, Le.nil _ _, trivial⟩, Con.x (App_con .no (u) [] (by omega) (fun y hy => by cases hy) (by simp) _ _ ?_)⟩
    intro hz1 hz2; clear hz1 hz2
    have post := post H2 (p2.trans (List.perm_middle (l₁ := (rb, AObj.cells [envX te l, .i (used + ((n : Int) - (m : Nat))), .i (m : Nat)]) :: G)).symm)
    rw [show spE (.to k u) = 0 from rfl, if_pos rfl] at post
    exact ⟨_, _, Le.refl _, List.Sublist.refl _, post⟩
set_option maxRecDepth 100000 in
set_option maxHeartbeats 1000000 in
theorem wStep_con (hp : Places te l) (ha : AllRight l) (t : Tm) {n : Nat} (h0 : 0 ≤ used) (h1 : used + n ≤ 1000000000) (h : HasW rb (envX te l) used n X H)
    (hno : packOk t = false → Q (.tup [tmX tm0, .i 0, .i 10]) H) (hyes : packOk t = true → ∀ H', HasW rb (envX te l) (used + ((n : Int) - ((wStep l t n).2 : Nat))) ((wStep l t n).2 : Nat) X H' → Q (.tup [tmX (spT t (wStep l t n).1), .i (spK (wStep l t n).1), .i (spE (wStep l t n).1)]) H') : Con Tryz.prog 19 [.ptr rb 0, tmX t] H Q := by
  refine con_of_sem tab_ok Tryz.func19 rfl (ent Tryz.func19 (by kernel_rfl) rfl) (by kernel_rfl) ?_
  intro hw hn
  clear hw hn
  refine sem_seq (esc := ([2, 7].contains ·)) tab_ok mixed ?_
  intro b2 hb2
  refine sem_seq (esc := ([2, 7].contains ·)) tab_ok mixed ?_
  intro b7 hb7
  refine ⟨_, _, .here, Nat.le_refl _, ?_⟩
  cases hpk : packOk t with
  | false =>
    refine sem_seq (esc := ([2, 7].contains ·)) tab_ok mixed ?_
    refine ⟨_, List.mem_cons_of_mem _ List.mem_cons_self, ?_⟩
    refine ⟨_, LeL.refl _, by_no t _ hpk ?_⟩
    intro hz1 hz2; clear hz1 hz2
    refine sem_le ⟨[(4, .lp 4 0), (5, .g (.i 0)), (7, .g (.ptr b7 0)), (8, .lp 8 0), (9, .g (.i 10))], [(8, (tmX tm0).cells), (4, [.i 0, .i 0, .str [], .sl .full 0 [], .sl .full 0 []]), (3, (tmX t).cells)], ((b7, .cells [.i 0]) :: (b2, .cells [.ptr rb 0]) :: H)⟩ ⟨⟨⟨rfl, rfl⟩, Le.refl _, Le.refl _, ⟨rfl, rfl⟩, Le.refl _, trivial⟩, ⟨⟨rfl, LeL.refl _⟩, ⟨rfl, LeL.refl _⟩, ⟨rfl, LeL.refl _⟩, trivial⟩, List.Sublist.refl _⟩ ?_
    refine sem_then ?_
    refine sem_any (P := ⟨Tryz.prog, none, 0⟩) (esc := ([2, 7].contains ·)) tab_ok mixed [0, 2] 4 [(b7, .cells [.i 0])] (by kernel_rfl) (by kernel_rfl) (by kernel_rfl) (pin1 List.mem_cons_self) ?_
    intro K hK
    refine ⟨fun h => ?_, fun i hi => ?_⟩
    · exact absurd (h.symm.trans (show _ = [1, 3] by kernel_rfl)) (fun e => by cases e)
    have hi : i = 1 ∨ i = 3 := by simpa using mem_of_eq (show _ = [1, 3] by kernel_rfl) hi
    rcases hi with rfl | rfl
    · refine ⟨_, List.mem_singleton.2 rfl, ?_⟩
      refine ⟨fun h => ?_, fun i hi => ?_⟩
      · exact absurd (h.symm.trans (show _ = [3] by kernel_rfl)) (fun e => by cases e)
      obtain rfl : i = 3 := by simpa using mem_of_eq (show _ = [3] by kernel_rfl) hi
      refine ⟨fun h => ?_, fun i hi => ?_⟩
      · exact absurd (h.symm.trans (show _ = [4] by kernel_rfl)) (fun e => by cases e)
      obtain rfl : i = 4 := by simpa using mem_of_eq (show _ = [4] by kernel_rfl) hi
      refine ⟨fun h => ?_, fun i hi => ?_⟩
      · exact absurd (h.symm.trans (show _ = [5] by kernel_rfl)) (fun e => by cases e)
      obtain rfl : i = 5 := by simpa using mem_of_eq (show _ = [5] by kernel_rfl) hi
      refine ⟨by kernel_rfl, hK _ ?_⟩
      refine sem_of (esc := ([2, 7].contains ·)) tab_ok mixed ?_
      exact ⟨_, H, Le.refl _, (List.sublist_cons_self _ _).trans (List.sublist_cons_self _ _), hno hpk⟩
    · refine ⟨pin1 List.mem_cons_self, ?_⟩
      refine ⟨fun h => ?_, fun i hi => ?_⟩
      · exact absurd (h.symm.trans (show _ = [1] by kernel_rfl)) (fun e => by cases e)
      obtain rfl : i = 1 := by simpa using mem_of_eq (show _ = [1] by kernel_rfl) hi
      refine ⟨_, List.mem_singleton.2 rfl, ?_⟩
      refine ⟨fun h => ?_, fun i hi => ?_⟩
      · exact absurd (h.symm.trans (show _ = [4] by kernel_rfl)) (fun e => by cases e)
      obtain rfl : i = 4 := by simpa using mem_of_eq (show _ = [4] by kernel_rfl) hi
      refine ⟨fun h => ?_, fun i hi => ?_⟩
      · exact absurd (h.symm.trans (show _ = [5] by kernel_rfl)) (fun e => by cases e)
      obtain rfl : i = 5 := by simpa using mem_of_eq (show _ = [5] by kernel_rfl) hi
      refine ⟨by kernel_rfl, hK _ ?_⟩
      refine sem_of (esc := ([2, 7].contains ·)) tab_ok mixed ?_
      exact ⟨_, H, Le.refl _, (List.sublist_cons_self _ _).trans (List.sublist_cons_self _ _), hno hpk⟩
  | true =>
    obtain ⟨k1, k2⟩ := packOk_fit0 hpk
    refine sem_seq (esc := ([2, 7].contains ·)) tab_ok mixed ?_
    refine ⟨_, List.mem_cons_of_mem _ List.mem_cons_self, ?_⟩
    have hby := by_clo (rb := rb) (H := (b7, .cells [.i 0]) :: (b2, .cells [.ptr rb 0]) :: H) t 50 [.ptr b2 0, .ptr b7 0] hpk (Q := fun r H' => r = .tup [tmX (spT t (wStep l t n).1), .i (spE (wStep l t n).1)] ∧ HasW rb (envX te l) (used + ((n : Int) - ((wStep l t n).2 : Nat))) ((wStep l t n).2 : Nat) ((b7, .cells [.i (spK (wStep l t n).1)]) :: (b2, .cells [.ptr rb 0]) :: X) H') (fun G => step1_con hp ha (by decide) t k1 k2 h0 h1 G ((h.under [(b7, .cells [.i 0]), (b2, .cells [.ptr rb 0])]).under G) fun H' hH' => by
      by_cases hE : spE (wStep l t n).1 = 0
      · rw [if_pos hE]
        exact ⟨_, _, rfl, hH'.out, by rw [hE], List.Perm.refl _⟩
      · rw [if_neg hE]
        refine ⟨_, _, rfl, hH'.out, ?_, List.Perm.refl _⟩
        obtain ⟨sp, hsp⟩ : ∃ sp, (wStep l t n).1 = sp := ⟨_, rfl⟩
        rw [hsp] at hE ⊢
        cases sp with
        | err e => rfl
        | none => exact absurd rfl hE
        | to k u => exact absurd rfl hE)
    refine ⟨_, LeL.refl _, hby.mono ?_⟩
    rintro _ H1 ⟨rfl, hH1⟩
    intro hz1 hz2; clear hz1 hz2
    have hb7 : (b7, AObj.cells [.i (spK (wStep l t n).1)]) ∈ H1 := (show H1.Perm _ from hH1).mem_iff.2 (by simp)
    obtain ⟨H2, s2, w2⟩ := hH1.drop (Y := X) ((List.sublist_cons_self _ _).trans (List.sublist_cons_self _ _))
    refine sem_le ⟨[(4, .lp 4 0), (5, .g (.i 0)), (7, .g (.ptr b7 0)), (8, .lp 8 0), (9, .g (.i (spE (wStep l t n).1)))], [(8, (tmX (spT t (wStep l t n).1)).cells), (4, [.i 0, .i 0, .str [], .sl .full 0 [], .sl .full 0 []]), (3, (tmX t).cells)], H1⟩ ⟨⟨⟨rfl, rfl⟩, Le.refl _, Le.refl _, ⟨rfl, rfl⟩, Le.refl _, trivial⟩, ⟨⟨rfl, LeL.refl _⟩, ⟨rfl, LeL.refl _⟩, ⟨rfl, LeL.refl _⟩, trivial⟩, List.Sublist.refl _⟩ ?_
    refine sem_then ?_
    refine sem_any (P := ⟨Tryz.prog, none, 0⟩) (esc := ([2, 7].contains ·)) tab_ok mixed [0, 2] 4 [(b7, .cells [.i (spK (wStep l t n).1)])] (by kernel_rfl) (by kernel_rfl) (by kernel_rfl) (pin1 hb7) ?_
    intro K hK
    refine ⟨fun h => ?_, fun i hi => ?_⟩
    · exact absurd (h.symm.trans (show _ = [1, 3] by kernel_rfl)) (fun e => by cases e)
    have hi : i = 1 ∨ i = 3 := by simpa using mem_of_eq (show _ = [1, 3] by kernel_rfl) hi
    rcases hi with rfl | rfl
    · refine ⟨_, List.mem_singleton.2 rfl, ?_⟩
      refine ⟨fun h => ?_, fun i hi => ?_⟩
      · exact absurd (h.symm.trans (show _ = [3] by kernel_rfl)) (fun e => by cases e)
      obtain rfl : i = 3 := by simpa using mem_of_eq (show _ = [3] by kernel_rfl) hi
      refine ⟨fun h => ?_, fun i hi => ?_⟩
      · exact absurd (h.symm.trans (show _ = [4] by kernel_rfl)) (fun e => by cases e)
      obtain rfl : i = 4 := by simpa using mem_of_eq (show _ = [4] by kernel_rfl) hi
      refine ⟨fun h => ?_, fun i hi => ?_⟩
      · exact absurd (h.symm.trans (show _ = [5] by kernel_rfl)) (fun e => by cases e)
      obtain rfl : i = 5 := by simpa using mem_of_eq (show _ = [5] by kernel_rfl) hi
      refine ⟨by kernel_rfl, hK _ ?_⟩
      refine sem_of (esc := ([2, 7].contains ·)) tab_ok mixed ?_
      exact ⟨_, H2, Le.refl _, s2, hyes hpk H2 w2⟩
    · refine ⟨pin1 hb7, ?_⟩
      refine ⟨fun h => ?_, fun i hi => ?_⟩
      · exact absurd (h.symm.trans (show _ = [1] by kernel_rfl)) (fun e => by cases e)
      obtain rfl : i = 1 := by simpa using mem_of_eq (show _ = [1] by kernel_rfl) hi
      refine ⟨_, List.mem_singleton.2 rfl, ?_⟩
      refine ⟨fun h => ?_, fun i hi => ?_⟩
      · exact absurd (h.symm.trans (show _ = [4] by kernel_rfl)) (fun e => by cases e)
      obtain rfl : i = 4 := by simpa using mem_of_eq (show _ = [4] by kernel_rfl) hi
      refine ⟨fun h => ?_, fun i hi => ?_⟩
      · exact absurd (h.symm.trans (show _ = [5] by kernel_rfl)) (fun e => by cases e)
      obtain rfl : i = 5 := by simpa using mem_of_eq (show _ = [5] by kernel_rfl) hi
      refine ⟨by kernel_rfl, hK _ ?_⟩
      refine sem_of (esc := ([2, 7].contains ·)) tab_ok mixed ?_
      exact ⟨_, H2, Le.refl _, s2, hyes hpk H2 w2⟩
end
end Go.Proofs.YtahdkhklngjmoaaGreatDoor

/-
  Whnf: the reference's entries. No condition.
-/
namespace Go.Proofs.YtahdkhklngjmoaaGreatDoor
open Go.RowKit

theorem one_tm5 (a : Tm) : Le (.sl .full 5 [tmX a]) (.sl .no 5 ([a].map tmA)) := Le.trans (Le.own _ _ _) (le_of_eq (by
  show AV.sl .no 5 [tmX a] = .sl .no 5 [tmA a]
  rw [tmA_eq]))
theorem two_tm5 (a b : Tm) : Le (.sl .full 5 [tmX a, tmX b]) (.sl .no 5 ([a, b].map tmA)) := Le.trans (Le.own _ _ _) (le_of_eq (by
  show AV.sl .no 5 [tmX a, tmX b] = .sl .no 5 [tmA a, tmA b]
  rw [tmA_eq, tmA_eq]))
theorem four_tm5 (a b c d : Tm) : Le (.sl .full 5 [tmX a, tmX b, tmX c, tmX d]) (.sl .no 5 ([a, b, c, d].map tmA)) := Le.trans (Le.own _ _ _) (le_of_eq (by
  show AV.sl .no 5 [tmX a, tmX b, tmX c, tmX d] = .sl .no 5 [tmA a, tmA b, tmA c, tmA d]
  rw [tmA_eq, tmA_eq, tmA_eq, tmA_eq]))
def lamT (a b : Tm) : Tm := .mk 5 0 [] [] [a, b]
def varT (n : Int) : Tm := .mk 1 n [] [] []
def natT : Tm := conT [110, 97, 116] []
def uLs : List Lv := [.mk 2 0 []]
def oneLs : List Lv := [.mk 1 1 []]
def typT : Tm := .mk 2 0 [] oneLs []
def recT (ls : List Lv) : Tm := conT [110, 97, 116, 46, 114, 101, 99] ls
def againT : Tm := tmAps (recT uLs) [varT 3, varT 2, varT 1, varT 0]
def zeroV : Tm := lamT natT (lamT natT (lamT natT (varT 1)))
def succV : Tm := lamT natT (lamT natT (lamT natT (lamT natT (tmAps (varT 1) [varT 0, againT]))))
def motiveT : Tm := lamT natT natT
def nextT : Tm := lamT natT (lamT natT (tmAps succT [varT 0]))
def addV : Tm := lamT natT (lamT natT (tmAps (recT oneLs) [motiveT, varT 1, nextT, varT 0]))
def moreT : Tm := lamT natT (lamT natT (tmAps (conT [97, 100, 100] []) [varT 0, varT 3]))
def mulV : Tm := lamT natT (lamT natT (tmAps (recT oneLs) [motiveT, zeroT, moreT, varT 0]))
def enNat : En := ⟨5, 0, [110, 97, 116], typT, tm0, 0, [], 0, 0, 0, [[110, 97, 116, 46, 122, 101, 114, 111], [110, 97, 116, 46, 115, 117, 99, 99]]⟩
def enZero : En := ⟨6, 0, [110, 97, 116, 46, 122, 101, 114, 111], natT, zeroV, 0, [110, 97, 116], 0, 0, 0, []⟩
def enSucc : En := ⟨6, 0, [110, 97, 116, 46, 115, 117, 99, 99], .mk 6 0 [] [] [natT, natT], succV, 0, [110, 97, 116], 0, 1, 1, []⟩
def enRec : En := ⟨7, 1, [110, 97, 116, 46, 114, 101, 99], .mk 2 0 [] uLs [], tm0, 0, [110, 97, 116], 0, 0, 0, [[110, 97, 116, 46, 122, 101, 114, 111], [110, 97, 116, 46, 115, 117, 99, 99]]⟩
def enAdd : En := ⟨2, 0, [97, 100, 100], typT, addV, 1, [], 0, 0, 0, []⟩
def enMul : En := ⟨2, 0, [109, 117, 108], typT, mulV, 2, [], 0, 0, 0, []⟩
def enK : En := ⟨1, 0, [107], natT, tm0, 0, [], 0, 0, 0, []⟩
def libL : List En := [enNat, enZero, enSucc, enRec, enAdd, enMul, enK]
set_option maxRecDepth 100000 in
theorem lib_adds : addAll [] libL = 0 := by kernel_rfl
theorem Le.slF {o : Own} {s : Nat} {xs ys : List AV} (h : LeE xs ys) : Le (.sl o s xs) (.sl o s ys) := fun M u hu => by
  simp only [rep] at hu ⊢
  obtain ⟨a, cap, h1, h2, h3, h4, h5, h6, h7⟩ := hu
  have hl := h.length
  refine ⟨a, cap, by rw [← hl]; exact h1, by rw [← hl]; exact h2, h3, h4, ⟨fun hs => ?_, LeE.wide h h5.2⟩, by rw [← hl]; exact h6, fun h0 => ?_⟩
  · have := h5.1 hs
    subst this
    cases ys with
    | nil => rfl
    | cons y ys => exact h.elim
  · rw [← hl] at h0
    obtain ⟨b, off, e, ha⟩ := h7 h0
    exact ⟨b, off, e, h.atE ha⟩
theorem Ans.le {P : Program} {f : FuncId} {args : List AV} {r r' : AV} (h : Ans P f args r) (hl : Le r r') : Ans P f args r' := fun H Q hq => fun M w vs h0 h1 h2 => (h H (fun x H' => x = r ∧ H' = H) ⟨rfl, rfl⟩ M w vs h0 h1 h2).mono fun _ _ ⟨M', x, H', a, b, c, d, e1, e2⟩ => by
  subst e1
  subst e2
  exact ⟨M', r', H', a, b, c, hl M' _ d, hq⟩
theorem le_uLs : Le (.sl .full 3 [.agg [.i 2, .i 0, .sl .full 0 []]]) (.sl .no 3 (uLs.map lvA)) := Le.slE ⟨⟨Le.refl _, Le.refl _, Le.nil _ _, trivial⟩, trivial⟩
theorem le_oneLs : Le (.sl .full 3 [.agg [.i 1, .i 1, .sl .full 0 []]]) (.sl .no 3 (oneLs.map lvA)) := Le.slE ⟨⟨Le.refl _, Le.refl _, Le.nil _ _, trivial⟩, trivial⟩
set_option maxRecDepth 100000 in
set_option maxHeartbeats 4000000 in
theorem lib_full_con : Ans Tryz.prog 10 [] (.sl .full 19 (libL.map enX)) := by
  intro H Q hq
  refine con_of_sem tab_ok Tryz.func10 rfl (ent Tryz.func10 (by kernel_rfl) rfl) (by kernel_rfl) ?_
  intro hw hn
  clear hw hn
  refine sem_seq (esc := fun _ => false) tab_ok mixed ?_
  refine sem_seq (esc := fun _ => false) tab_ok mixed ?_
  refine sem_le ⟨[(1, .g (.sl .no 3 (uLs.map lvA)))], [], H⟩ ⟨⟨le_uLs, trivial⟩, trivial, List.Sublist.refl _⟩ ?_
  refine sem_seq (esc := fun _ => false) tab_ok mixed ?_
  refine sem_le ⟨[(1, .g (.sl .no 3 (uLs.map lvA))), (2, .g (.sl .no 3 (oneLs.map lvA)))], [], H⟩ ⟨⟨Le.refl _, le_oneLs, trivial⟩, trivial, List.Sublist.refl _⟩ ?_
  refine sem_seq (esc := fun _ => false) tab_ok mixed ?_
  refine ⟨_, LeL.refl _, constant13n_con [110, 97, 116] _ _ ?_⟩
  intro hz1 hz2; clear hz1 hz2
  refine sem_le ⟨[(1, .g (.sl .no 3 (uLs.map lvA))), (2, .g (.sl .no 3 (oneLs.map lvA))), (3, .lp 3 0)], [(3, (tmX natT).cells)], H⟩ ⟨⟨Le.refl _, Le.refl _, ⟨rfl, rfl⟩, trivial⟩, ⟨⟨rfl, LeL.refl _⟩, trivial⟩, List.Sublist.refl _⟩ ?_
  refine sem_seq (esc := fun _ => false) tab_ok mixed ?_
  refine sem_le ⟨[(1, .g (.sl .no 3 (uLs.map lvA))), (2, .g (.sl .no 3 (oneLs.map lvA))), (3, .lp 3 0), (4, .lp 4 0)], [(4, (tmX typT).cells), (3, (tmX natT).cells)], H⟩ ⟨⟨Le.refl _, Le.refl _, ⟨rfl, rfl⟩, ⟨rfl, rfl⟩, trivial⟩, ⟨⟨rfl, ⟨Le.refl _, Le.refl _, Le.refl _, Le.refl _, Le.nil _ _, trivial⟩⟩, ⟨rfl, LeL.refl _⟩, trivial⟩, List.Sublist.refl _⟩ ?_
  refine sem_seq (esc := fun _ => false) tab_ok mixed ?_
  refine ⟨_, LeL.refl _, constant13_con .no [110, 97, 116, 46, 114, 101, 99] uLs _ _ ?_⟩
  intro hz1 hz2; clear hz1 hz2
  refine ⟨_, LeL.refl _, variable13_con 3 _ _ ?_⟩
  intro hz1 hz2; clear hz1 hz2
  refine ⟨_, LeL.refl _, variable13_con 2 _ _ ?_⟩
  intro hz1 hz2; clear hz1 hz2
  refine ⟨_, LeL.refl _, variable13_con 1 _ _ ?_⟩
  intro hz1 hz2; clear hz1 hz2
  refine ⟨_, LeL.refl _, variable13_con 0 _ _ ?_⟩
  intro hz1 hz2; clear hz1 hz2
  refine ⟨[tmX (recT uLs), .sl .no 5 ([varT 3, varT 2, varT 1, varT 0].map tmA)], ⟨Le.refl _, four_tm5 _ _ _ _, trivial⟩, apply13_con .no (recT uLs) [varT 3, varT 2, varT 1, varT 0] (by decide) _ _ ?_⟩
  intro hz1 hz2; clear hz1 hz2
  refine sem_le ⟨[(1, .g (.sl .no 3 (uLs.map lvA))), (2, .g (.sl .no 3 (oneLs.map lvA))), (3, .lp 3 0), (4, .lp 4 0), (5, .lp 5 0)], [(5, (tmX againT).cells), (4, (tmX typT).cells), (3, (tmX natT).cells)], H⟩ ⟨⟨Le.refl _, Le.refl _, ⟨rfl, rfl⟩, ⟨rfl, rfl⟩, ⟨rfl, rfl⟩, trivial⟩, ⟨⟨rfl, LeL.refl _⟩, ⟨rfl, LeL.refl _⟩, ⟨rfl, LeL.refl _⟩, trivial⟩, List.Sublist.refl _⟩ ?_
  refine sem_seq (esc := fun _ => false) tab_ok mixed ?_
  refine ⟨[0, 1, 2, 7, 3, 4, 5, 6, 8], [], by kernel_rfl, by simp, ?_⟩
  refine ⟨_, LeL.refl _, variable13_con 1 _ _ ?_⟩
  intro hz1 hz2; clear hz1 hz2
  refine ⟨_, LeL.refl _, lam13_con (natT) (varT 1) _ _ ?_⟩
  intro hz1 hz2; clear hz1 hz2
  refine ⟨_, LeL.refl _, lam13_con (natT) (lamT natT (varT 1)) _ _ ?_⟩
  intro hz1 hz2; clear hz1 hz2
  refine ⟨_, LeL.refl _, lam13_con (natT) (lamT natT (lamT natT (varT 1))) _ _ ?_⟩
  intro hz1 hz2; clear hz1 hz2
  refine sem_le ⟨[(1, .g (.sl .no 3 (uLs.map lvA))), (2, .g (.sl .no 3 (oneLs.map lvA))), (3, .lp 3 0), (4, .lp 4 0), (5, .lp 5 0), (6, .lp 6 0)], [(6, (tmX zeroV).cells), (5, (tmX againT).cells), (4, (tmX typT).cells), (3, (tmX natT).cells)], H⟩ ⟨⟨Le.refl _, Le.refl _, ⟨rfl, rfl⟩, ⟨rfl, rfl⟩, ⟨rfl, rfl⟩, ⟨rfl, rfl⟩, trivial⟩, ⟨⟨rfl, LeL.refl _⟩, ⟨rfl, LeL.refl _⟩, ⟨rfl, LeL.refl _⟩, ⟨rfl, LeL.refl _⟩, trivial⟩, List.Sublist.refl _⟩ ?_
  refine sem_seq (esc := fun _ => false) tab_ok mixed ?_
  refine ⟨[0, 1, 2, 3, 6, 13, 4, 5, 7, 8, 9, 10, 11, 12, 14], [], by kernel_rfl, by simp, ?_⟩
  refine ⟨_, LeL.refl _, variable13_con 1 _ _ ?_⟩
  intro hz1 hz2; clear hz1 hz2
  refine ⟨_, LeL.refl _, variable13_con 0 _ _ ?_⟩
  intro hz1 hz2; clear hz1 hz2
  refine ⟨[tmX (varT 1), .sl .no 5 ([varT 0, againT].map tmA)], ⟨Le.refl _, two_tm5 _ _, trivial⟩, apply13_con .no (varT 1) [varT 0, againT] (by decide) _ _ ?_⟩
  intro hz1 hz2; clear hz1 hz2
  refine ⟨_, LeL.refl _, lam13_con (natT) (tmAps (varT 1) [varT 0, againT]) _ _ ?_⟩
  intro hz1 hz2; clear hz1 hz2
  refine ⟨_, LeL.refl _, lam13_con (natT) (lamT natT (tmAps (varT 1) [varT 0, againT])) _ _ ?_⟩
  intro hz1 hz2; clear hz1 hz2
  refine ⟨_, LeL.refl _, lam13_con (natT) (lamT natT (lamT natT (tmAps (varT 1) [varT 0, againT]))) _ _ ?_⟩
  intro hz1 hz2; clear hz1 hz2
  refine ⟨_, LeL.refl _, lam13_con (natT) (lamT natT (lamT natT (lamT natT (tmAps (varT 1) [varT 0, againT])))) _ _ ?_⟩
  intro hz1 hz2; clear hz1 hz2
  refine sem_le ⟨[(1, .g (.sl .no 3 (uLs.map lvA))), (2, .g (.sl .no 3 (oneLs.map lvA))), (3, .lp 3 0), (4, .lp 4 0), (5, .lp 5 0), (6, .lp 6 0), (7, .lp 7 0)], [(7, (tmX succV).cells), (6, (tmX zeroV).cells), (5, (tmX againT).cells), (4, (tmX typT).cells), (3, (tmX natT).cells)], H⟩ ⟨⟨Le.refl _, Le.refl _, ⟨rfl, rfl⟩, ⟨rfl, rfl⟩, ⟨rfl, rfl⟩, ⟨rfl, rfl⟩, ⟨rfl, rfl⟩, trivial⟩, ⟨⟨rfl, LeL.refl _⟩, ⟨rfl, LeL.refl _⟩, ⟨rfl, LeL.refl _⟩, ⟨rfl, LeL.refl _⟩, ⟨rfl, LeL.refl _⟩, trivial⟩, List.Sublist.refl _⟩ ?_
  refine sem_seq (esc := fun _ => false) tab_ok mixed ?_
  refine ⟨_, LeL.refl _, lam13_con (natT) (natT) _ _ ?_⟩
  intro hz1 hz2; clear hz1 hz2
  refine sem_le ⟨[(1, .g (.sl .no 3 (uLs.map lvA))), (2, .g (.sl .no 3 (oneLs.map lvA))), (3, .lp 3 0), (4, .lp 4 0), (5, .lp 5 0), (6, .lp 6 0), (7, .lp 7 0), (8, .lp 8 0)], [(8, (tmX motiveT).cells), (7, (tmX succV).cells), (6, (tmX zeroV).cells), (5, (tmX againT).cells), (4, (tmX typT).cells), (3, (tmX natT).cells)], H⟩ ⟨⟨Le.refl _, Le.refl _, ⟨rfl, rfl⟩, ⟨rfl, rfl⟩, ⟨rfl, rfl⟩, ⟨rfl, rfl⟩, ⟨rfl, rfl⟩, ⟨rfl, rfl⟩, trivial⟩, ⟨⟨rfl, LeL.refl _⟩, ⟨rfl, LeL.refl _⟩, ⟨rfl, LeL.refl _⟩, ⟨rfl, LeL.refl _⟩, ⟨rfl, LeL.refl _⟩, ⟨rfl, LeL.refl _⟩, trivial⟩, List.Sublist.refl _⟩ ?_
  refine sem_seq (esc := fun _ => false) tab_ok mixed ?_
  refine ⟨[0, 1, 8, 2, 3, 4, 5, 6, 7, 9], [], by kernel_rfl, by simp, ?_⟩
  refine ⟨_, LeL.refl _, constant13n_con [110, 97, 116, 46, 115, 117, 99, 99] _ _ ?_⟩
  intro hz1 hz2; clear hz1 hz2
  refine ⟨_, LeL.refl _, variable13_con 0 _ _ ?_⟩
  intro hz1 hz2; clear hz1 hz2
  refine ⟨[tmX (succT), .sl .no 5 ([varT 0].map tmA)], ⟨Le.refl _, one_tm5 _, trivial⟩, apply13_con .no (succT) [varT 0] (by decide) _ _ ?_⟩
  intro hz1 hz2; clear hz1 hz2
  refine ⟨_, LeL.refl _, lam13_con (natT) (tmAps succT [varT 0]) _ _ ?_⟩
  intro hz1 hz2; clear hz1 hz2
  refine ⟨_, LeL.refl _, lam13_con (natT) (lamT natT (tmAps succT [varT 0])) _ _ ?_⟩
  intro hz1 hz2; clear hz1 hz2
  refine sem_le ⟨[(1, .g (.sl .no 3 (uLs.map lvA))), (2, .g (.sl .no 3 (oneLs.map lvA))), (3, .lp 3 0), (4, .lp 4 0), (5, .lp 5 0), (6, .lp 6 0), (7, .lp 7 0), (8, .lp 8 0), (9, .lp 9 0)], [(9, (tmX nextT).cells), (8, (tmX motiveT).cells), (7, (tmX succV).cells), (6, (tmX zeroV).cells), (5, (tmX againT).cells), (4, (tmX typT).cells), (3, (tmX natT).cells)], H⟩ ⟨⟨Le.refl _, Le.refl _, ⟨rfl, rfl⟩, ⟨rfl, rfl⟩, ⟨rfl, rfl⟩, ⟨rfl, rfl⟩, ⟨rfl, rfl⟩, ⟨rfl, rfl⟩, ⟨rfl, rfl⟩, trivial⟩, ⟨⟨rfl, LeL.refl _⟩, ⟨rfl, LeL.refl _⟩, ⟨rfl, LeL.refl _⟩, ⟨rfl, LeL.refl _⟩, ⟨rfl, LeL.refl _⟩, ⟨rfl, LeL.refl _⟩, ⟨rfl, LeL.refl _⟩, trivial⟩, List.Sublist.refl _⟩ ?_
  refine sem_seq (esc := fun _ => false) tab_ok mixed ?_
  refine ⟨[0, 1, 2, 4, 6, 12, 3, 5, 7, 8, 9, 10, 11, 13], [], by kernel_rfl, by simp, ?_⟩
  refine ⟨_, LeL.refl _, constant13_con .no [110, 97, 116, 46, 114, 101, 99] oneLs _ _ ?_⟩
  intro hz1 hz2; clear hz1 hz2
  refine ⟨_, LeL.refl _, variable13_con 1 _ _ ?_⟩
  intro hz1 hz2; clear hz1 hz2
  refine ⟨_, LeL.refl _, variable13_con 0 _ _ ?_⟩
  intro hz1 hz2; clear hz1 hz2
  refine ⟨[tmX (recT oneLs), .sl .no 5 ([motiveT, varT 1, nextT, varT 0].map tmA)], ⟨Le.refl _, four_tm5 _ _ _ _, trivial⟩, apply13_con .no (recT oneLs) [motiveT, varT 1, nextT, varT 0] (by decide) _ _ ?_⟩
  intro hz1 hz2; clear hz1 hz2
  refine ⟨_, LeL.refl _, lam13_con (natT) (tmAps (recT oneLs) [motiveT, varT 1, nextT, varT 0]) _ _ ?_⟩
  intro hz1 hz2; clear hz1 hz2
  refine ⟨_, LeL.refl _, lam13_con (natT) (lamT natT (tmAps (recT oneLs) [motiveT, varT 1, nextT, varT 0])) _ _ ?_⟩
  intro hz1 hz2; clear hz1 hz2
  refine sem_le ⟨[(1, .g (.sl .no 3 (uLs.map lvA))), (2, .g (.sl .no 3 (oneLs.map lvA))), (3, .lp 3 0), (4, .lp 4 0), (5, .lp 5 0), (6, .lp 6 0), (7, .lp 7 0), (8, .lp 8 0), (9, .lp 9 0), (10, .lp 10 0)], [(10, (tmX addV).cells), (9, (tmX nextT).cells), (8, (tmX motiveT).cells), (7, (tmX succV).cells), (6, (tmX zeroV).cells), (5, (tmX againT).cells), (4, (tmX typT).cells), (3, (tmX natT).cells)], H⟩ ⟨⟨Le.refl _, Le.refl _, ⟨rfl, rfl⟩, ⟨rfl, rfl⟩, ⟨rfl, rfl⟩, ⟨rfl, rfl⟩, ⟨rfl, rfl⟩, ⟨rfl, rfl⟩, ⟨rfl, rfl⟩, ⟨rfl, rfl⟩, trivial⟩, ⟨⟨rfl, LeL.refl _⟩, ⟨rfl, LeL.refl _⟩, ⟨rfl, LeL.refl _⟩, ⟨rfl, LeL.refl _⟩, ⟨rfl, LeL.refl _⟩, ⟨rfl, LeL.refl _⟩, ⟨rfl, LeL.refl _⟩, ⟨rfl, LeL.refl _⟩, trivial⟩, List.Sublist.refl _⟩ ?_
  refine sem_seq (esc := fun _ => false) tab_ok mixed ?_
  refine ⟨[0, 1, 9, 2, 3, 4, 5, 6, 7, 8, 10], [], by kernel_rfl, by simp, ?_⟩
  refine ⟨_, LeL.refl _, constant13n_con [97, 100, 100] _ _ ?_⟩
  intro hz1 hz2; clear hz1 hz2
  refine ⟨_, LeL.refl _, variable13_con 0 _ _ ?_⟩
  intro hz1 hz2; clear hz1 hz2
  refine ⟨_, LeL.refl _, variable13_con 3 _ _ ?_⟩
  intro hz1 hz2; clear hz1 hz2
  refine ⟨[tmX (conT [97, 100, 100] []), .sl .no 5 ([varT 0, varT 3].map tmA)], ⟨Le.refl _, two_tm5 _ _, trivial⟩, apply13_con .no (conT [97, 100, 100] []) [varT 0, varT 3] (by decide) _ _ ?_⟩
  intro hz1 hz2; clear hz1 hz2
  refine ⟨_, LeL.refl _, lam13_con (natT) (tmAps (conT [97, 100, 100] []) [varT 0, varT 3]) _ _ ?_⟩
  intro hz1 hz2; clear hz1 hz2
  refine ⟨_, LeL.refl _, lam13_con (natT) (lamT natT (tmAps (conT [97, 100, 100] []) [varT 0, varT 3])) _ _ ?_⟩
  intro hz1 hz2; clear hz1 hz2
  refine sem_le ⟨[(1, .g (.sl .no 3 (uLs.map lvA))), (2, .g (.sl .no 3 (oneLs.map lvA))), (3, .lp 3 0), (4, .lp 4 0), (5, .lp 5 0), (6, .lp 6 0), (7, .lp 7 0), (8, .lp 8 0), (9, .lp 9 0), (10, .lp 10 0), (11, .lp 11 0)], [(11, (tmX moreT).cells), (10, (tmX addV).cells), (9, (tmX nextT).cells), (8, (tmX motiveT).cells), (7, (tmX succV).cells), (6, (tmX zeroV).cells), (5, (tmX againT).cells), (4, (tmX typT).cells), (3, (tmX natT).cells)], H⟩ ⟨⟨Le.refl _, Le.refl _, ⟨rfl, rfl⟩, ⟨rfl, rfl⟩, ⟨rfl, rfl⟩, ⟨rfl, rfl⟩, ⟨rfl, rfl⟩, ⟨rfl, rfl⟩, ⟨rfl, rfl⟩, ⟨rfl, rfl⟩, ⟨rfl, rfl⟩, trivial⟩, ⟨⟨rfl, LeL.refl _⟩, ⟨rfl, LeL.refl _⟩, ⟨rfl, LeL.refl _⟩, ⟨rfl, LeL.refl _⟩, ⟨rfl, LeL.refl _⟩, ⟨rfl, LeL.refl _⟩, ⟨rfl, LeL.refl _⟩, ⟨rfl, LeL.refl _⟩, ⟨rfl, LeL.refl _⟩, trivial⟩, List.Sublist.refl _⟩ ?_
  refine sem_seq (esc := fun _ => false) tab_ok mixed ?_
  refine ⟨[0, 1, 2, 4, 6, 12, 3, 5, 7, 8, 9, 10, 11, 13], [], by kernel_rfl, by simp, ?_⟩
  refine ⟨_, LeL.refl _, constant13_con .no [110, 97, 116, 46, 114, 101, 99] oneLs _ _ ?_⟩
  intro hz1 hz2; clear hz1 hz2
  refine ⟨_, LeL.refl _, constant13n_con [110, 97, 116, 46, 122, 101, 114, 111] _ _ ?_⟩
  intro hz1 hz2; clear hz1 hz2
  refine ⟨_, LeL.refl _, variable13_con 0 _ _ ?_⟩
  intro hz1 hz2; clear hz1 hz2
  refine ⟨[tmX (recT oneLs), .sl .no 5 ([motiveT, zeroT, moreT, varT 0].map tmA)], ⟨Le.refl _, four_tm5 _ _ _ _, trivial⟩, apply13_con .no (recT oneLs) [motiveT, zeroT, moreT, varT 0] (by decide) _ _ ?_⟩
  intro hz1 hz2; clear hz1 hz2
  refine ⟨_, LeL.refl _, lam13_con (natT) (tmAps (recT oneLs) [motiveT, zeroT, moreT, varT 0]) _ _ ?_⟩
  intro hz1 hz2; clear hz1 hz2
  refine ⟨_, LeL.refl _, lam13_con (natT) (lamT natT (tmAps (recT oneLs) [motiveT, zeroT, moreT, varT 0])) _ _ ?_⟩
  intro hz1 hz2; clear hz1 hz2
  refine sem_le ⟨[(1, .g (.sl .no 3 (uLs.map lvA))), (2, .g (.sl .no 3 (oneLs.map lvA))), (3, .lp 3 0), (4, .lp 4 0), (5, .lp 5 0), (6, .lp 6 0), (7, .lp 7 0), (8, .lp 8 0), (9, .lp 9 0), (10, .lp 10 0), (11, .lp 11 0), (12, .lp 12 0)], [(12, (tmX mulV).cells), (11, (tmX moreT).cells), (10, (tmX addV).cells), (9, (tmX nextT).cells), (8, (tmX motiveT).cells), (7, (tmX succV).cells), (6, (tmX zeroV).cells), (5, (tmX againT).cells), (4, (tmX typT).cells), (3, (tmX natT).cells)], H⟩ ⟨⟨Le.refl _, Le.refl _, ⟨rfl, rfl⟩, ⟨rfl, rfl⟩, ⟨rfl, rfl⟩, ⟨rfl, rfl⟩, ⟨rfl, rfl⟩, ⟨rfl, rfl⟩, ⟨rfl, rfl⟩, ⟨rfl, rfl⟩, ⟨rfl, rfl⟩, ⟨rfl, rfl⟩, trivial⟩, ⟨⟨rfl, LeL.refl _⟩, ⟨rfl, LeL.refl _⟩, ⟨rfl, LeL.refl _⟩, ⟨rfl, LeL.refl _⟩, ⟨rfl, LeL.refl _⟩, ⟨rfl, LeL.refl _⟩, ⟨rfl, LeL.refl _⟩, ⟨rfl, LeL.refl _⟩, ⟨rfl, LeL.refl _⟩, ⟨rfl, LeL.refl _⟩, trivial⟩, List.Sublist.refl _⟩ ?_
  refine sem_of (esc := fun _ => false) tab_ok mixed ?_
  refine ⟨_, H, ?_, List.Sublist.refl _, hq⟩
  refine Le.slF ?_
  repeat' apply And.intro
  all_goals first | exact Le.refl _ | exact Le.nil _ _ | exact Le.own _ _ _ | exact two_tm5 _ _ | exact le_uLs | exact trivial
set_option maxRecDepth 100000 in
theorem lib_con : Ans Tryz.prog 10 [] (ensX libL) := lib_full_con.le (Le.own _ _ _)
end Go.Proofs.YtahdkhklngjmoaaGreatDoor

/-
  Whnf: a run of entries; few enough. No condition.
-/
namespace Go.Proofs.YtahdkhklngjmoaaGreatDoor
open Go.RowKit

def treL (l : List En) : Tre := putAll .nil 0 l
theorem runs_ok {l : List En} (h : addAll [] l = 0) : Places (treL l) l ∧ AllRight l := places_all l .nil [] Places.nil (by intro e he; cases he) h
set_option maxRecDepth 100000 in
set_option maxHeartbeats 1000000 in
theorem run13_con (l : List En) (n : Nat) (hn1 : n ≤ 1048576) (hl : l.length ≤ 100000) {H : Heap} {Q : AV → Heap → Prop} (hyes : addAll [] l = 0 → ∀ rb H', HasW rb (envX (treL l) l) 0 n H H' → Q (.ptr rb 0) H') (hno : addAll [] l ≠ 0 → Q (.v (.pointer none)) H) :
    Con Tryz.prog 9 [ensX l, .i n] H Q := by
  have hadd := envAddAll_con .no .nil [] l Places.nil (by intro e he; cases he) (by simpa using hl)
  refine con_of_awp (esc := fun _ => false) tab_ok mixed Tryz.func9 rfl (ent Tryz.func9 (by kernel_rfl) rfl) (by kernel_rfl) ?_
  intro hw hn
  clear hw hn
  refine ⟨_, LeL.refl _, envNew_con _ _ ?_⟩
  intro hz1 hz2; clear hz1 hz2
  by_cases h0 : addAll [] l = 0
  · rw [if_pos h0] at hadd
    refine ⟨_, LeL.refl _, hadd _ _ ?_⟩
    intro hz1 hz2; clear hz1 hz2
    refine ⟨_, LeL.refl _, wNew_con (t := treL l) (l := l) (n := n) (by omega) (by omega) fun rb H1 hH1 => ?_⟩
    intro hz1 hz2; clear hz1 hz2
    exact ⟨_, H1, Le.refl _, List.Sublist.refl _, hyes h0 rb H1 hH1⟩
  · rw [if_neg h0] at hadd
    refine ⟨_, LeL.refl _, hadd _ _ ?_⟩
    intro hz1 hz2; clear hz1 hz2
    refine ifB_f (show ¬ addAll [] l = 0 from h0) ?_
    exact ⟨_, H, Le.refl _, List.Sublist.refl _, hno h0⟩
set_option maxRecDepth 100000 in
set_option maxHeartbeats 1000000 in
theorem small13_con (o : Own) (list : List En) (t : Tm) (H : Heap) (Q : AV → Heap → Prop) (hq : ∀ q : Bool, (q = true → list.length ≤ 30 ∧ t.big ≤ 400) → Q (.b q) H) : Con Tryz.prog 15 [.sl o 19 (list.map enX), tmX t] H Q := by
  refine con_of_awp (esc := fun _ => false) tab_ok mixed Tryz.func15 rfl (ent Tryz.func15 (by kernel_rfl) rfl) (by kernel_rfl) ?_
  intro hw hn
  clear hw hn
  refine ⟨[ensX list], ⟨Le.own _ _ _, trivial⟩, great12_con list H _ fun q1 h1 => ?_⟩
  intro hz1 hz2; clear hz1 hz2
  cases q1 with
  | true => exact ⟨_, H, Le.refl _, List.Sublist.refl _, hq false nofun⟩
  | false =>
    refine ⟨_, LeL.refl _, Great4_some t H _ fun q2 => ?_⟩
    intro hz1 hz2; clear hz1 hz2
    cases q2 with
    | true => exact ⟨_, H, Le.refl _, List.Sublist.refl _, hq false nofun⟩
    | false =>
      refine ⟨_, LeL.refl _, tmBig_con 400 (by decide) _ t (Nat.le_refl _) _ _ ?_⟩
      intro hz1 hz2; clear hz1 hz2
      by_cases h3 : ((min t.big (400 + 1) : Nat) : Int) ≤ 400
      · refine ifB_t h3 ?_
        exact ⟨_, H, Le.refl _, List.Sublist.refl _, hq true fun _ => ⟨h1 rfl, by omega⟩⟩
      · refine ifB_f h3 ?_
        exact ⟨_, H, Le.refl _, List.Sublist.refl _, hq false nofun⟩
end Go.Proofs.YtahdkhklngjmoaaGreatDoor

/-
  Whnf, plain: the entries' numbers, evaluated. No condition.
-/
namespace Go.Proofs.YtahdkhklngjmoaaGreatDoor
open Go.RowKit

def kT : Tm := conT [107] []
def betaT : Tm := .mk 4 0 [] [] [lamT natT (varT 0), kT]
def addT (a b : Tm) : Tm := tmAps (conT [97, 100, 100] []) [a, b]
set_option maxRecDepth 100000 in
theorem al1 : wStep libL betaT 100 = (.to 1 kT, 99) := by kernel_rfl
set_option maxRecDepth 100000 in
theorem al2 : wNf libL (addT (numT 1) (numT 1)) 99 = (numT 2, 0, 85) := by kernel_rfl
set_option maxRecDepth 100000 in
theorem al3 : (wHd libL (addT kT kT) 85).2 = (0, 82) := by kernel_rfl
end Go.Proofs.YtahdkhklngjmoaaGreatDoor

/-
  Whnf: alive. No condition.
-/
namespace Go.Proofs.YtahdkhklngjmoaaGreatDoor
open Go.RowKit

set_option maxRecDepth 100000 in
theorem wEnv_con {rb : Nat} {te : Tre} {l : List En} {used left : Int} {X H : Heap} {Q : AV → Heap → Prop} (h : HasW rb (envX te l) used left X H) (hq : Q (envX te l) H) : Con Tryz.prog 29 [.ptr rb 0] H Q := by
  refine con_of_awp (esc := fun _ => false) tab_ok mixed Tryz.func29 rfl (ent Tryz.func29 (by kernel_rfl) rfl) (by kernel_rfl) ?_
  intro hw hn
  clear hw hn
  refine ⟨_, h.mem, ?_⟩
  exact ⟨_, H, Le.refl _, List.Sublist.refl _, hq⟩
set_option maxRecDepth 100000 in
theorem al4 : (wHd libL (addT kT kT) 85).1.kind = 4 := by kernel_rfl
set_option maxRecDepth 100000 in
theorem al5 : wStep libL betaT 0 = (.err 22, 0) := by kernel_rfl
set_option maxRecDepth 100000 in
theorem al6 : packOk betaT = true ∧ packOk (addT (numT 1) (numT 1)) = true ∧ packOk (addT kT kT) = true := ⟨by kernel_rfl, by kernel_rfl, by kernel_rfl⟩
theorem HasW.to {rb : Nat} {ev : AV} {used left used' left' : Int} {X H : Heap} (h : HasW rb ev used left X H) (h1 : used = used') (h2 : left = left') : HasW rb ev used' left' X H := by
  rw [← h1, ← h2]; exact h
set_option maxRecDepth 100000 in
set_option maxHeartbeats 4000000 in
theorem alive13_con : Ans Tryz.prog 8 [] (.b true) := by
  intro H Q hq
  obtain ⟨hp, ha⟩ := runs_ok lib_adds
  obtain ⟨te, hte⟩ : ∃ te, treL libL = te := ⟨_, rfl⟩
  rw [hte] at hp
  obtain ⟨k1, k2, k3⟩ := al6
  refine Con.permR ?_
  refine con_of_sem tab_ok Tryz.func8 rfl (ent Tryz.func8 (by kernel_rfl) rfl) (by kernel_rfl) ?_
  intro hw hn
  clear hw hn
  refine sem_seq (esc := fun _ => false) tab_ok mixed ?_
  refine sem_seq (esc := fun _ => false) tab_ok mixed ?_
  refine ⟨_, LeL.refl _, lib_con _ _ ?_⟩
  intro hz1 hz2; clear hz1 hz2
  refine ⟨_, LeL.refl _, run13_con libL 100 (by decide) (by decide) (fun _ rb H1 hH1 => ?_) (fun h => absurd lib_adds h)⟩
  rw [hte] at hH1
  intro hz1 hz2; clear hz1 hz2
  refine sem_seq (esc := fun _ => false) tab_ok mixed ?_
  refine sem_le ⟨[(1, .g (.ptr rb 0))], [], H1⟩ ⟨⟨Le.refl _, trivial⟩, trivial, List.Sublist.refl _⟩ ?_
  refine sem_seq (esc := fun _ => false) tab_ok mixed ?_
  refine ⟨_, LeL.refl _, constantL13_con [110, 97, 116] _ _ ?_⟩
  intro hz1 hz2; clear hz1 hz2
  refine ⟨_, LeL.refl _, variableL13_con 0 _ _ ?_⟩
  intro hz1 hz2; clear hz1 hz2
  refine ⟨_, LeL.refl _, lamL13_con natT (varT 0) _ _ ?_⟩
  intro hz1 hz2; clear hz1 hz2
  refine ⟨_, LeL.refl _, constantL13_con [107] _ _ ?_⟩
  intro hz1 hz2; clear hz1 hz2
  refine ⟨_, LeL.refl _, appL13_con (lamT natT (varT 0)) kT _ _ ?_⟩
  intro hz1 hz2; clear hz1 hz2
  have hs1 := fun (Q : AV → Heap → Prop) => wStep_con (Q := Q) hp ha betaT (n := 100) (by decide) (by decide) hH1 (fun h => by rw [k1] at h; cases h)
  rw [al1] at hs1
  refine ⟨_, LeL.refl _, hs1 _ fun _ H2 hH2 => ?_⟩
  replace hH2 : HasW rb (envX te libL) 1 (99 : Nat) H H2 := hH2.to rfl rfl
  intro hz1 hz2; clear hz1 hz2
  refine sem_le ⟨[(1, .g (.ptr rb 0)), (2, .lp 2 0), (3, .g (.i 1)), (4, .g (.i 0))], [(2, (tmX kT).cells)], H2⟩ ⟨⟨Le.refl _, ⟨rfl, rfl⟩, Le.refl _, Le.refl _, trivial⟩, ⟨⟨rfl, LeL.refl _⟩, trivial⟩, List.Sublist.refl _⟩ ?_
  refine sem_seq (esc := fun _ => false) tab_ok mixed ?_
  refine ⟨_, LeL.refl _, wUsed_con hH2 ?_⟩
  intro hz1 hz2; clear hz1 hz2
  refine sem_seq (esc := fun _ => false) tab_ok mixed ?_
  refine ⟨_, LeL.refl _, num13_con 1 (by decide) _ _ ?_⟩
  intro hz1 hz2; clear hz1 hz2
  refine ⟨_, LeL.refl _, num13_con 1 (by decide) _ _ ?_⟩
  intro hz1 hz2; clear hz1 hz2
  refine ⟨_, LeL.refl _, of13_con [97, 100, 100] (numT 1) (numT 1) _ _ ?_⟩
  intro hz1 hz2; clear hz1 hz2
  have hs2 := fun (Q : AV → Heap → Prop) => wNf_con (Q := Q) hp ha (addT (numT 1) (numT 1)) (n := 99) (by decide) (by decide) hH2 (fun h => by rw [k2] at h; cases h)
  rw [al2] at hs2
  refine ⟨_, LeL.refl _, hs2 _ fun _ H3 hH3 => ?_⟩
  replace hH3 : HasW rb (envX te libL) 15 (85 : Nat) H H3 := hH3.to rfl rfl
  intro hz1 hz2; clear hz1 hz2
  refine sem_le ⟨[(1, .g (.ptr rb 0)), (2, .lp 2 0), (3, .g (.i 1)), (4, .g (.i 0)), (5, .g (.i 1)), (6, .lp 6 0), (7, .g (.i 0))], [(6, (tmX (numT 2)).cells), (2, (tmX kT).cells)], H3⟩ ⟨⟨Le.refl _, ⟨rfl, rfl⟩, Le.refl _, Le.refl _, Le.refl _, ⟨rfl, rfl⟩, Le.refl _, trivial⟩, ⟨⟨rfl, LeL.refl _⟩, ⟨rfl, LeL.refl _⟩, trivial⟩, List.Sublist.refl _⟩ ?_
  refine sem_seq (esc := fun _ => false) tab_ok mixed ?_
  refine ⟨_, LeL.refl _, constantL13_con [107] _ _ ?_⟩
  intro hz1 hz2; clear hz1 hz2
  refine ⟨_, LeL.refl _, constantL13_con [107] _ _ ?_⟩
  intro hz1 hz2; clear hz1 hz2
  refine ⟨_, LeL.refl _, of13_con [97, 100, 100] kT kT _ _ ?_⟩
  intro hz1 hz2; clear hz1 hz2
  obtain ⟨ct, hct⟩ : ∃ ct, (wHd libL (addT kT kT) 85).1 = ct := ⟨_, rfl⟩
  have hk4 : ct.kind = 4 := by rw [← hct]; exact al4
  have hs3 := fun (Q : AV → Heap → Prop) => wWhnf_con (Q := Q) hp ha (addT kT kT) (n := 85) (by decide) (by decide) hH3 (fun h => by rw [k3] at h; cases h)
  rw [al3, hct] at hs3
  refine ⟨_, LeL.refl _, hs3 _ fun _ H4 hH4 => ?_⟩
  replace hH4 : HasW rb (envX te libL) 18 (82 : Nat) H H4 := hH4.to rfl rfl
  intro hz1 hz2; clear hz1 hz2
  refine sem_le ⟨[(1, .g (.ptr rb 0)), (2, .lp 2 0), (3, .g (.i 1)), (4, .g (.i 0)), (5, .g (.i 1)), (6, .lp 6 0), (7, .g (.i 0)), (8, .lp 8 0), (9, .g (.i 0))], [(8, (tmX ct).cells), (6, (tmX (numT 2)).cells), (2, (tmX kT).cells)], H4⟩ ⟨⟨Le.refl _, ⟨rfl, rfl⟩, Le.refl _, Le.refl _, Le.refl _, ⟨rfl, rfl⟩, Le.refl _, ⟨rfl, rfl⟩, Le.refl _, trivial⟩, ⟨⟨rfl, LeL.refl _⟩, ⟨rfl, LeL.refl _⟩, ⟨rfl, LeL.refl _⟩, trivial⟩, List.Sublist.refl _⟩ ?_
  refine sem_seq (esc := fun _ => false) tab_ok mixed ?_
  refine ⟨_, LeL.refl _, wLeft_con hH4 ?_⟩
  intro hz1 hz2; clear hz1 hz2
  refine ⟨_, LeL.refl _, wSpend_con hH4 ((82 : Nat) : Int) (by decide) (by decide) (by decide) (fun h => absurd h (by decide)) fun _ _ H5 hH5 => ?_⟩
  replace hH5 : HasW rb (envX te libL) 100 (0 : Nat) H H5 := hH5.to rfl rfl
  intro hz1 hz2; clear hz1 hz2
  refine sem_seq (esc := fun _ => false) tab_ok mixed ?_
  refine ⟨_, LeL.refl _, constantL13_con [110, 97, 116] _ _ ?_⟩
  intro hz1 hz2; clear hz1 hz2
  refine ⟨_, LeL.refl _, variableL13_con 0 _ _ ?_⟩
  intro hz1 hz2; clear hz1 hz2
  refine ⟨_, LeL.refl _, lamL13_con natT (varT 0) _ _ ?_⟩
  intro hz1 hz2; clear hz1 hz2
  refine ⟨_, LeL.refl _, constantL13_con [107] _ _ ?_⟩
  intro hz1 hz2; clear hz1 hz2
  refine ⟨_, LeL.refl _, appL13_con (lamT natT (varT 0)) kT _ _ ?_⟩
  intro hz1 hz2; clear hz1 hz2
  have hs4 := fun (Q : AV → Heap → Prop) => wStep_con (Q := Q) hp ha betaT (n := 0) (by decide) (by decide) hH5 (fun h => by rw [k1] at h; cases h)
  rw [al5] at hs4
  refine ⟨_, LeL.refl _, hs4 _ fun _ H6 hH6 => ?_⟩
  replace hH6 : HasW rb (envX te libL) 100 (0 : Nat) H H6 := hH6.to rfl rfl
  intro hz1 hz2; clear hz1 hz2
  refine sem_le ⟨[(1, .g (.ptr rb 0)), (2, .lp 2 0), (3, .g (.i 1)), (4, .g (.i 0)), (5, .g (.i 1)), (6, .lp 6 0), (7, .g (.i 0)), (8, .lp 8 0), (9, .g (.i 0)), (10, .g (.b true)), (13, .g (.i 22))], [(8, (tmX ct).cells), (6, (tmX (numT 2)).cells), (2, (tmX kT).cells)], H6⟩ ⟨⟨Le.refl _, ⟨rfl, rfl⟩, Le.refl _, Le.refl _, Le.refl _, ⟨rfl, rfl⟩, Le.refl _, ⟨rfl, rfl⟩, Le.refl _, Le.refl _, Le.refl _, trivial⟩, ⟨⟨rfl, LeL.refl _⟩, ⟨rfl, LeL.refl _⟩, ⟨rfl, LeL.refl _⟩, trivial⟩, List.Sublist.refl _⟩ ?_
  refine sem_seq (esc := fun _ => false) tab_ok mixed ?_
  refine ifB_t hk4 ?_
  refine sem_seq (esc := fun _ => false) tab_ok mixed ?_
  refine ⟨[0, 1, 2, 3, 4, 5, 6, 7, 8, 9, 10, 11, 12, 13, 14, 15, 16, 17, 18, 19, 20, 21, 22, 23, 24, 25, 26, 27, 28, 29, 30, 31, 32, 33, 34, 35, 36, 37, 38, 39, 40, 41, 42, 43, 44, 45, 46, 47, 48, 49, 50, 51, 52, 53, 54, 55, 56, 57, 58], [], ord_fast (by kernel_rfl), by simp, ?_⟩
  refine ⟨_, LeL.refl _, wSpend_con hH6 1 (by decide) (by decide) (by decide) (fun _ => ?_) (fun _ h => absurd h (by decide))⟩
  intro hz1 hz2; clear hz1 hz2
  refine ⟨_, LeL.refl _, constantL13_con [107] _ _ ?_⟩
  intro hz1 hz2; clear hz1 hz2
  refine ⟨[tmX kT, tmX kT], LeL.refl _, (SameTerm_con _ _ _ (Nat.le_refl _)).as (sameT kT) _ _ ?_⟩
  intro hz1 hz2; clear hz1 hz2
  refine ⟨_, LeL.refl _, num13_con 2 (by decide) _ _ ?_⟩
  intro hz1 hz2; clear hz1 hz2
  refine ⟨[tmX (numT 2), tmX (numT 2)], LeL.refl _, (SameTerm_con _ _ _ (Nat.le_refl _)).as (sameT (numT 2)) _ _ ?_⟩
  intro hz1 hz2; clear hz1 hz2
  refine ⟨_, LeL.refl _, wLeft_con hH6 ?_⟩
  intro hz1 hz2; clear hz1 hz2
  refine ⟨_, LeL.refl _, wUsed_con hH6 ?_⟩
  intro hz1 hz2; clear hz1 hz2
  refine ⟨_, LeL.refl _, wEnv_con hH6 ?_⟩
  intro hz1 hz2; clear hz1 hz2
  refine sem_le ⟨[(0, .g (.b true))], [], H6⟩ ⟨⟨Le.refl _, trivial⟩, trivial, List.Sublist.refl _⟩ ?_
  refine sem_of (esc := fun _ => false) tab_ok mixed ?_
  obtain ⟨H7, s7, w7⟩ := sub_of_perm (A := [(rb, AObj.cells [envX te libL, .i 100, .i (0 : Nat)])]) (show H6.Perm _ from hH6)
  exact ⟨_, H7, Le.refl _, s7, H, w7, hq⟩
end Go.Proofs.YtahdkhklngjmoaaGreatDoor

