/-
  Texts put together: W10, W10b, W11, W12. No condition.
-/
import Derived.Test.YtpjolipkmemcoaaGreatDoorM20
/-
  Law 01: NameParts, NameFresh. No condition.
-/
namespace Go.Proofs.YtpjolipkmemcoaaGreatDoor
open Go.RowKit

theorem ifB_eq {q : Bool} {A B : Prop} (h : A) : ifB (q == q) A B := by
  rw [show (q == q) = true by cases q <;> rfl]
  exact h
set_option maxRecDepth 100000 in
set_option maxHeartbeats 1000000 in
theorem nameParts_con (s : List UInt8) : Ans Tryz.prog 4 [.str s] (.b true) := by
  intro H Q hq
  have fin : ∃ r H', Le (.b true) r ∧ List.Sublist H' H ∧ Q r H' := ⟨_, H, Le.refl _, List.Sublist.refl _, hq⟩
  cases hok : nameOk s with
  | false =>
    obtain ⟨h1, h2, h3⟩ := parts_no hok
    refine con_of_awp (esc := fun _ => false) tab_ok mixed Tryz.func4 rfl (ent Tryz.func4 (by kernel_rfl) rfl) (by kernel_rfl) ?_
    intro hw hn
    clear hw hn
    refine ⟨_, LeL.refl _, alive1_con _ _ ?_⟩
    intro hz1 hz2; clear hz1 hz2
    refine ifB_dec (fun c1 => ?_) (fun c1 => ?_)
    · exact fin
    refine ⟨_, LeL.refl _, (Parts_con s).to (congrArg stsX h1) _ _ ?_⟩
    intro hz1 hz2; clear hz1 hz2
    refine ⟨_, LeL.refl _, (nameRight_con s).as hok _ _ ?_⟩
    intro hz1 hz2; clear hz1 hz2
    refine ⟨_, LeL.refl _, (Parent_con s).to (congrArg AV.str h2) _ _ ?_⟩
    intro hz1 hz2; clear hz1 hz2
    refine ⟨_, LeL.refl _, (Last_con s).to (congrArg AV.str h3) _ _ ?_⟩
    intro hz1 hz2; clear hz1 hz2
    exact fin
  | true =>
    have hl := nameOk_len hok
    obtain ⟨a, ha, hpa⟩ := parts_last hok
    have hpl : (nmParts s).length = a.length + 1 := by rw [ha, List.length_append, List.length_singleton]
    have hp40 : (nmParts s).length ≤ 41 := by
      rw [nmParts, if_pos hok]
      have := sp_len s
      omega
    have hml : ((nmParts s).map AV.str).length = a.length + 1 := by rw [List.length_map, hpl]
    have hat : ((nmParts s).map AV.str)[a.length]? = some (.str (nmLast s)) := by
      rw [ha, List.map_append, List.getElem?_append_right (by rw [List.length_map]; exact Nat.le_refl _), List.length_map, Nat.sub_self]
      rfl
    refine con_of_awp (esc := fun _ => false) tab_ok mixed Tryz.func4 rfl (ent Tryz.func4 (by kernel_rfl) rfl) (by kernel_rfl) ?_
    intro hw hn
    clear hw hn
    refine ⟨_, LeL.refl _, alive1_con _ _ ?_⟩
    intro hz1 hz2; clear hz1 hz2
    refine ifB_dec (fun c1 => ?_) (fun c1 => ?_)
    · exact fin
    refine ⟨_, LeL.refl _, Parts_con s _ _ ?_⟩
    intro hz1 hz2; clear hz1 hz2
    refine ⟨_, LeL.refl _, (nameRight_con s).as hok _ _ ?_⟩
    intro hz1 hz2; clear hz1 hz2
    refine ⟨_, LeL.refl _, (Join_con .no (nmParts s) (by omega)).to (congrArg joinV (parts_join hok)) _ _ ?_⟩
    intro hz1 hz2; clear hz1 hz2
    refine ⟨[0, 1, 2, 3, 4, 5, 6, 7, 8, 9, 10, 11, 12, 13, 14, 15, 16, 17, 18, 19, 20, 21, 22], [], ord_fast (by kernel_rfl), by simp, ?_⟩
    refine ifB_t rfl ?_
    refine ifB_f (show ¬ ((((nmParts s).map AV.str).length : Nat) : Int) < 1 by rw [hml]; omega) ?_
    refine ⟨in64_of (show (-9223372036854775808 : Int) ≤ ((((nmParts s).map AV.str).length : Nat) : Int) - 1 by rw [hml]; omega) (show ((((nmParts s).map AV.str).length : Nat) : Int) - 1 ≤ 9223372036854775807 by rw [hml]; omega), ?_⟩
    refine ⟨a.length, (show ((((nmParts s).map AV.str).length : Nat) : Int) - 1 = (a.length : Int) by rw [hml]; omega), _, hat, ?_⟩
    refine ⟨_, LeL.refl _, Last_con s _ _ ?_⟩
    intro hz1 hz2; clear hz1 hz2
    refine ifB_t rfl ?_
    refine ⟨_, LeL.refl _, Parent_con s _ _ ?_⟩
    intro hz1 hz2; clear hz1 hz2
    refine ifB_dec (fun hp => ?_) (fun hp => ?_)
    · have h1 : a.length = 0 := by rw [hpa hp]; rfl
      refine ifB_t (show ((((nmParts s).map AV.str).length : Nat) : Int) = 1 by rw [hml]; omega) ?_
      refine ⟨_, LeL.refl _, (Under_con s s).as (under_self hok) _ _ ?_⟩
      intro hz1 hz2; clear hz1 hz2
      exact fin
    · refine ⟨_, LeL.refl _, Parent_con s _ _ ?_⟩
      intro hz1 hz2; clear hz1 hz2
      refine ⟨_, LeL.refl _, Last_con s _ _ ?_⟩
      intro hz1 hz2; clear hz1 hz2
      refine ⟨_, LeL.refl _, (Join_con .full [nmParent s, nmLast s] (by simp)).to (congrArg joinV (parent_some hok hp).1) _ _ ?_⟩
      intro hz1 hz2; clear hz1 hz2
      refine ifB_t rfl ?_
      refine ⟨_, LeL.refl _, Parent_con s _ _ ?_⟩
      intro hz1 hz2; clear hz1 hz2
      refine ⟨_, LeL.refl _, (Under_con s (nmParent s)).as (parent_some hok hp).2.1 _ _ ?_⟩
      intro hz1 hz2; clear hz1 hz2
      refine ⟨_, LeL.refl _, Parent_con s _ _ ?_⟩
      intro hz1 hz2; clear hz1 hz2
      refine ⟨_, LeL.refl _, (Under_con (nmParent s) s).as (parent_some hok hp).2.2 _ _ ?_⟩
      intro hz1 hz2; clear hz1 hz2
      exact fin
end Go.Proofs.YtpjolipkmemcoaaGreatDoor

/-
  Law 01: NameParts, NameFresh. No condition.
-/
namespace Go.Proofs.YtpjolipkmemcoaaGreatDoor
open Go.RowKit

set_option maxRecDepth 100000 in
set_option maxHeartbeats 1000000 in
theorem nameFresh_con (s : List UInt8) (taken : List (List UInt8)) : Ans Tryz.prog 5 [.str s, stsX taken] (.b true) := by
  intro H Q hq
  have hll : (taken.map AV.str).length = taken.length := List.length_map _
  have fin : ∃ r H', Le (.b true) r ∧ List.Sublist H' H ∧ Q r H' := ⟨_, H, Le.refl _, List.Sublist.refl _, hq⟩
  refine con_of_awp (esc := fun _ => false) tab_ok mixed Tryz.func5 rfl (ent Tryz.func5 (by kernel_rfl) rfl) (by kernel_rfl) ?_
  intro hw hn
  clear hw hn
  refine ⟨_, LeL.refl _, alive1_con _ _ ?_⟩
  intro hz1 hz2; clear hz1 hz2
  refine ifB_dec (fun c1 => ?_) (fun c1 => ?_)
  · exact fin
  refine ⟨_, LeL.refl _, Lengths2000_con taken _ _ fun n hn2 => ?_⟩
  intro hz1 hz2; clear hz1 hz2
  refine ifB_dec (fun c2 => ?_) (fun c2 => ?_)
  · exact fin
  have hk2 := hn2 (by omega)
  cases hok : nameOk s with
  | false =>
    refine ⟨_, LeL.refl _, (Fresh_con .no s taken (by omega)).to (congrArg AV.str (show nmFresh s taken = [] by rw [nmFresh, if_neg (by rw [hok]; decide)])) _ _ ?_⟩
    intro hz1 hz2; clear hz1 hz2
    refine ⟨_, LeL.refl _, (nameRight_con s).as hok _ _ ?_⟩
    intro hz1 hz2; clear hz1 hz2
    exact fin
  | true =>
    obtain ⟨hfree, hsame⟩ := fresh_free (taken := taken) hok
    have hfok := fresh_ok (taken := taken) hok (by omega)
    refine ⟨_, LeL.refl _, Fresh_con .no s taken (by omega) _ _ ?_⟩
    intro hz1 hz2; clear hz1 hz2
    refine ⟨_, LeL.refl _, (nameRight_con s).as hok _ _ ?_⟩
    intro hz1 hz2; clear hz1 hz2
    refine ⟨Nat × Bool, fun x => ⟨[(0, .g (.str s)), (1, .g (stsX taken)), (4, .g (.b false)), (5, .g (.str (nmFresh s taken))), (6, .g (.b x.2)), (7, .g (.i x.1))], [], H⟩, fun x => x.1 ≤ taken.length ∧ (x.2 = true ↔ s ∉ taken.take x.1), fun x => taken.length - x.1, ⟨(0, true), ⟨Nat.zero_le _, by simp⟩, ?_⟩, ?_⟩
    · (constructor <;> repeat' (first | exact trivial | exact ⟨rfl, rfl⟩ | exact ⟨rfl, LeL.refl _⟩ | exact Le.refl _ | exact List.Sublist.refl _ | (show Le (AV.i _) (AV.i _); rw [List.length_map]; exact Le.refl _) | refine And.intro ?_ ?_))
    · rintro ⟨k, q⟩ ⟨hk, hi⟩
      simp only at hk hi
      refine ifB_dec (fun h1 => ?_) (fun h1 => ?_)
      · have hlt : k < taken.length := by omega
        have hnf : ¬ taken[k] = nmFresh s taken := fun e => hfree (e ▸ List.getElem_mem hlt)
        have htk : taken.take (k + 1) = taken.take k ++ [taken[k]] := List.take_succ_eq_append_getElem hlt
        cases q with
        | true =>
          have hs : s ∉ taken.take k := hi.1 rfl
          refine ⟨k, rfl, _, stAt hlt, ?_⟩
          refine ifB_dec (fun h2 => ?_) (fun h2 => ?_)
          · refine ⟨k, rfl, _, stAt hlt, ?_⟩
            refine ifB_f hnf ?_
            refine ⟨in64_of (by first | omega | (dsimp only; omega)) (by first | omega | (dsimp only; omega)), ?_⟩
            refine ⟨(k + 1, false), ⟨by simp only; omega, ?_⟩, by (try dsimp only); omega, ?_⟩
            · simp only
              rw [htk, List.mem_append, List.mem_singleton]
              exact ⟨nofun, fun h => absurd (Or.inr h2.symm) h⟩
            · (constructor <;> repeat' (first | exact trivial | exact ⟨rfl, rfl⟩ | exact ⟨rfl, LeL.refl _⟩ | exact Le.refl _ | exact List.Sublist.refl _ | (show Le (AV.i _) (AV.i _); rw [List.length_map]; exact Le.refl _) | refine And.intro ?_ ?_))
          · refine ⟨k, rfl, _, stAt hlt, ?_⟩
            refine ifB_f hnf ?_
            refine ⟨in64_of (by first | omega | (dsimp only; omega)) (by first | omega | (dsimp only; omega)), ?_⟩
            refine ⟨(k + 1, true), ⟨by simp only; omega, ?_⟩, by (try dsimp only); omega, ?_⟩
            · simp only
              rw [htk, List.mem_append, List.mem_singleton]
              exact ⟨fun _ h => h.elim hs fun e => h2 e.symm, fun _ => by simp⟩
            · (constructor <;> repeat' (first | exact trivial | exact ⟨rfl, rfl⟩ | exact ⟨rfl, LeL.refl _⟩ | exact Le.refl _ | exact List.Sublist.refl _ | (show Le (AV.i _) (AV.i _); rw [List.length_map]; exact Le.refl _) | refine And.intro ?_ ?_))
        | false =>
          have hs : s ∈ taken.take k := by
            by_cases h : s ∈ taken.take k
            · exact h
            · exact absurd (hi.2 h) (by decide)
          refine ⟨k, rfl, _, stAt hlt, ?_⟩
          refine ifB_f hnf ?_
          refine ⟨in64_of (by first | omega | (dsimp only; omega)) (by first | omega | (dsimp only; omega)), ?_⟩
          refine ⟨(k + 1, false), ⟨by simp only; omega, ?_⟩, by (try dsimp only); omega, ?_⟩
          · simp only
            rw [htk, List.mem_append, List.mem_singleton]
            exact ⟨nofun, fun h => absurd (Or.inl hs) h⟩
          · (constructor <;> repeat' (first | exact trivial | exact ⟨rfl, rfl⟩ | exact ⟨rfl, LeL.refl _⟩ | exact Le.refl _ | exact List.Sublist.refl _ | (show Le (AV.i _) (AV.i _); rw [List.length_map]; exact Le.refl _) | refine And.intro ?_ ?_))
      · have hke : k = taken.length := by omega
        rw [hke, List.take_length] at hi
        refine ⟨_, LeL.refl _, (nameRight_con (nmFresh s taken)).as hfok _ _ ?_⟩
        intro hz1 hz2; clear hz1 hz2
        refine ifB_dec (fun h2 => ?_) (fun h2 => ?_)
        · obtain rfl : q = true := hi.2 (hsame.2 h2)
          exact fin
        · obtain rfl : q = false := by
            cases q with
            | true => exact absurd (hsame.1 (hi.1 rfl)) h2
            | false => rfl
          exact fin
end Go.Proofs.YtpjolipkmemcoaaGreatDoor

/-
  Law 01: NameUnder, NameSorts. No condition.
-/
namespace Go.Proofs.YtpjolipkmemcoaaGreatDoor
open Go.RowKit

theorem under_right {a b : List UInt8} (h : nmUnder a b = true) : nameOk a = true ∧ nameOk b = true := ⟨(under_iff.1 h).1, (under_iff.1 h).2.1⟩
set_option maxRecDepth 100000 in
set_option maxHeartbeats 1000000 in
theorem nameUnder_con (a b c : List UInt8) : Ans Tryz.prog 6 [.str a, .str b, .str c] (.b true) := by
  intro H Q hq
  have fin : ∃ r H', Le (.b true) r ∧ List.Sublist H' H ∧ Q r H' := ⟨_, H, Le.refl _, List.Sublist.refl _, hq⟩
  refine con_of_awp (esc := fun _ => false) tab_ok mixed Tryz.func6 rfl (ent Tryz.func6 (by kernel_rfl) rfl) (by kernel_rfl) ?_
  intro hw hn
  clear hw hn
  refine ⟨_, LeL.refl _, alive1_con _ _ ?_⟩
  intro hz1 hz2; clear hz1 hz2
  refine ifB_dec (fun c1 => ?_) (fun c1 => ?_)
  · exact fin
  refine ifB_dec (fun c2 => ?_) (fun c2 => ?_)
  · exact fin
  refine ifB_dec (fun c3 => ?_) (fun c3 => ?_)
  · exact fin
  cases hab : nmUnder a b with
  | false =>
    refine ⟨_, LeL.refl _, (Under_con a b).as hab _ _ ?_⟩
    intro hz1 hz2; clear hz1 hz2
    refine ⟨_, LeL.refl _, (Under_con a b).as hab _ _ ?_⟩
    intro hz1 hz2; clear hz1 hz2
    refine ⟨_, LeL.refl _, (Under_con a b).as hab _ _ ?_⟩
    intro hz1 hz2; clear hz1 hz2
    exact fin
  | true =>
    have hpl := under_parts hab
    refine ⟨_, LeL.refl _, (Under_con a b).as hab _ _ ?_⟩
    intro hz1 hz2; clear hz1 hz2
    cases hba : nmUnder b a with
    | false =>
      refine ⟨_, LeL.refl _, (Under_con b a).as hba _ _ ?_⟩
      intro hz1 hz2; clear hz1 hz2
      refine ⟨_, LeL.refl _, (Under_con a b).as hab _ _ ?_⟩
      intro hz1 hz2; clear hz1 hz2
      cases hbc : nmUnder b c with
      | false =>
        refine ⟨_, LeL.refl _, (Under_con b c).as hbc _ _ ?_⟩
        intro hz1 hz2; clear hz1 hz2
        refine ⟨_, LeL.refl _, (Under_con a b).as hab _ _ ?_⟩
        intro hz1 hz2; clear hz1 hz2
        refine ⟨_, LeL.refl _, (nameRight_con a).as (under_right hab).1 _ _ ?_⟩
        intro hz1 hz2; clear hz1 hz2
        refine ⟨_, LeL.refl _, (nameRight_con b).as (under_right hab).2 _ _ ?_⟩
        intro hz1 hz2; clear hz1 hz2
        refine ⟨_, LeL.refl _, Parts_con b _ _ ?_⟩
        intro hz1 hz2; clear hz1 hz2
        refine ⟨_, LeL.refl _, Parts_con a _ _ ?_⟩
        intro hz1 hz2; clear hz1 hz2
        refine ifB_t (show ((((nmParts b).map AV.str).length : Nat) : Int) ≤ (((nmParts a).map AV.str).length : Nat) by rw [List.length_map, List.length_map]; omega) ?_
        exact fin
      | true =>
        refine ⟨_, LeL.refl _, (Under_con b c).as hbc _ _ ?_⟩
        intro hz1 hz2; clear hz1 hz2
        refine ⟨_, LeL.refl _, (Under_con a c).as (under_trans hab hbc) _ _ ?_⟩
        intro hz1 hz2; clear hz1 hz2
        refine ⟨_, LeL.refl _, (Under_con a b).as hab _ _ ?_⟩
        intro hz1 hz2; clear hz1 hz2
        refine ⟨_, LeL.refl _, (nameRight_con a).as (under_right hab).1 _ _ ?_⟩
        intro hz1 hz2; clear hz1 hz2
        refine ⟨_, LeL.refl _, (nameRight_con b).as (under_right hab).2 _ _ ?_⟩
        intro hz1 hz2; clear hz1 hz2
        refine ⟨_, LeL.refl _, Parts_con b _ _ ?_⟩
        intro hz1 hz2; clear hz1 hz2
        refine ⟨_, LeL.refl _, Parts_con a _ _ ?_⟩
        intro hz1 hz2; clear hz1 hz2
        refine ifB_t (show ((((nmParts b).map AV.str).length : Nat) : Int) ≤ (((nmParts a).map AV.str).length : Nat) by rw [List.length_map, List.length_map]; omega) ?_
        exact fin
    | true =>
      refine ⟨_, LeL.refl _, (Under_con b a).as hba _ _ ?_⟩
      intro hz1 hz2; clear hz1 hz2
      refine ifB_t (under_anti hab hba) ?_
      refine ⟨_, LeL.refl _, (Under_con a b).as hab _ _ ?_⟩
      intro hz1 hz2; clear hz1 hz2
      cases hbc : nmUnder b c with
      | false =>
        refine ⟨_, LeL.refl _, (Under_con b c).as hbc _ _ ?_⟩
        intro hz1 hz2; clear hz1 hz2
        refine ⟨_, LeL.refl _, (Under_con a b).as hab _ _ ?_⟩
        intro hz1 hz2; clear hz1 hz2
        refine ⟨_, LeL.refl _, (nameRight_con a).as (under_right hab).1 _ _ ?_⟩
        intro hz1 hz2; clear hz1 hz2
        refine ⟨_, LeL.refl _, (nameRight_con b).as (under_right hab).2 _ _ ?_⟩
        intro hz1 hz2; clear hz1 hz2
        refine ⟨_, LeL.refl _, Parts_con b _ _ ?_⟩
        intro hz1 hz2; clear hz1 hz2
        refine ⟨_, LeL.refl _, Parts_con a _ _ ?_⟩
        intro hz1 hz2; clear hz1 hz2
        refine ifB_t (show ((((nmParts b).map AV.str).length : Nat) : Int) ≤ (((nmParts a).map AV.str).length : Nat) by rw [List.length_map, List.length_map]; omega) ?_
        exact fin
      | true =>
        refine ⟨_, LeL.refl _, (Under_con b c).as hbc _ _ ?_⟩
        intro hz1 hz2; clear hz1 hz2
        refine ⟨_, LeL.refl _, (Under_con a c).as (under_trans hab hbc) _ _ ?_⟩
        intro hz1 hz2; clear hz1 hz2
        refine ⟨_, LeL.refl _, (Under_con a b).as hab _ _ ?_⟩
        intro hz1 hz2; clear hz1 hz2
        refine ⟨_, LeL.refl _, (nameRight_con a).as (under_right hab).1 _ _ ?_⟩
        intro hz1 hz2; clear hz1 hz2
        refine ⟨_, LeL.refl _, (nameRight_con b).as (under_right hab).2 _ _ ?_⟩
        intro hz1 hz2; clear hz1 hz2
        refine ⟨_, LeL.refl _, Parts_con b _ _ ?_⟩
        intro hz1 hz2; clear hz1 hz2
        refine ⟨_, LeL.refl _, Parts_con a _ _ ?_⟩
        intro hz1 hz2; clear hz1 hz2
        refine ifB_t (show ((((nmParts b).map AV.str).length : Nat) : Int) ≤ (((nmParts a).map AV.str).length : Nat) by rw [List.length_map, List.length_map]; omega) ?_
        exact fin
set_option maxRecDepth 100000 in
set_option maxHeartbeats 1000000 in
theorem nameSorts_con (l : List (List UInt8)) (s : List UInt8) : Ans Tryz.prog 7 [stsX l, .str s] (.b true) := by
  intro H Q hq
  have hll : (l.map AV.str).length = l.length := List.length_map _
  have hrl : ((nmSort l).map AV.str).length = (nmSort l).length := List.length_map _
  have hrise := nmSort_rise l
  have fin : ∃ r H', Le (.b true) r ∧ List.Sublist H' H ∧ Q r H' := ⟨_, H, Le.refl _, List.Sublist.refl _, hq⟩
  refine con_of_awp (esc := fun _ => false) tab_ok mixed Tryz.func7 rfl (ent Tryz.func7 (by kernel_rfl) rfl) (by kernel_rfl) ?_
  intro hw hn
  clear hw hn
  refine ⟨_, LeL.refl _, alive1_con _ _ ?_⟩
  intro hz1 hz2; clear hz1 hz2
  refine ⟨_, LeL.refl _, Lengths2000_con l _ _ fun n hn2 => ?_⟩
  intro hz1 hz2; clear hz1 hz2
  refine ifB_dec (fun c1 => ?_) (fun c1 => ?_)
  · exact fin
  have hk2 := hn2 (by omega)
  have hsl := nmSort_len l
  refine ifB_dec (fun c2 => ?_) (fun c2 => ?_)
  · exact fin
  refine ⟨_, LeL.refl _, nameSort_con .no l (by omega) _ _ ?_⟩
  intro hz1 hz2; clear hz1 hz2
  refine ⟨Nat × Bool, fun x => ⟨[(0, .g (stsX l)), (1, .g (.str s)), (4, .g (.b false)), (5, .g (stsX (nmSort l))), (6, .g (.b x.2)), (7, .g (.i x.1))], [], H⟩, fun x => x.1 ≤ l.length ∧ (x.2 = true ↔ s ∈ l.take x.1), fun x => l.length - x.1, ⟨(0, false), ⟨Nat.zero_le _, by simp⟩, ?_⟩, ?_⟩
  · (constructor <;> repeat' (first | exact trivial | exact ⟨rfl, rfl⟩ | exact ⟨rfl, LeL.refl _⟩ | exact Le.refl _ | exact List.Sublist.refl _ | (show Le (AV.i _) (AV.i _); rw [List.length_map]; exact Le.refl _) | refine And.intro ?_ ?_))
  · rintro ⟨k, q⟩ ⟨hk, hi⟩
    simp only at hk hi
    refine ifB_dec (fun h1 => ?_) (fun h1 => ?_)
    · have hlt : k < l.length := by omega
      have htk : l.take (k + 1) = l.take k ++ [l[k]] := List.take_succ_eq_append_getElem hlt
      cases q with
      | true =>
        refine ⟨in64_of (by first | omega | (dsimp only; omega)) (by first | omega | (dsimp only; omega)), ?_⟩
        refine ⟨(k + 1, true), ⟨by simp only; omega, ?_⟩, by (try dsimp only); omega, ?_⟩
        · simp only
          rw [htk, List.mem_append, List.mem_singleton]
          exact ⟨fun _ => Or.inl (hi.1 rfl), fun _ => by simp⟩
        · (constructor <;> repeat' (first | exact trivial | exact ⟨rfl, rfl⟩ | exact ⟨rfl, LeL.refl _⟩ | exact Le.refl _ | exact List.Sublist.refl _ | (show Le (AV.i _) (AV.i _); rw [List.length_map]; exact Le.refl _) | refine And.intro ?_ ?_))
      | false =>
        have hs : s ∉ l.take k := fun h => absurd (hi.2 h) (by decide)
        refine ⟨k, rfl, _, stAt hlt, ?_⟩
        refine ifB_dec (fun h2 => ?_) (fun h2 => ?_)
        · refine ⟨in64_of (by first | omega | (dsimp only; omega)) (by first | omega | (dsimp only; omega)), ?_⟩
          refine ⟨(k + 1, true), ⟨by simp only; omega, ?_⟩, by (try dsimp only); omega, ?_⟩
          · simp only
            rw [htk, List.mem_append, List.mem_singleton]
            exact ⟨fun _ => Or.inr h2.symm, fun _ => by simp⟩
          · (constructor <;> repeat' (first | exact trivial | exact ⟨rfl, rfl⟩ | exact ⟨rfl, LeL.refl _⟩ | exact Le.refl _ | exact List.Sublist.refl _ | (show Le (AV.i _) (AV.i _); rw [List.length_map]; exact Le.refl _) | refine And.intro ?_ ?_))
        · refine ⟨in64_of (by first | omega | (dsimp only; omega)) (by first | omega | (dsimp only; omega)), ?_⟩
          refine ⟨(k + 1, false), ⟨by simp only; omega, ?_⟩, by (try dsimp only); omega, ?_⟩
          · simp only
            rw [htk, List.mem_append, List.mem_singleton]
            exact ⟨nofun, fun h => h.elim (fun h => absurd h hs) fun h => absurd h.symm h2⟩
          · (constructor <;> repeat' (first | exact trivial | exact ⟨rfl, rfl⟩ | exact ⟨rfl, LeL.refl _⟩ | exact Le.refl _ | exact List.Sublist.refl _ | (show Le (AV.i _) (AV.i _); rw [List.length_map]; exact Le.refl _) | refine And.intro ?_ ?_))
    · have hke : k = l.length := by omega
      rw [hke, List.take_length] at hi
      refine ⟨Nat × Bool, fun x => ⟨[(1, .g (.str s)), (4, .g (.b false)), (5, .g (stsX (nmSort l))), (6, .g (.b q)), (8, .g (.b x.2)), (9, .g (.i x.1))], [], H⟩, fun x => x.1 ≤ (nmSort l).length ∧ (x.2 = true ↔ s ∈ (nmSort l).take x.1), fun x => (nmSort l).length - x.1, ⟨(0, false), ⟨Nat.zero_le _, by simp⟩, ?_⟩, ?_⟩
      · (constructor <;> repeat' (first | exact trivial | exact ⟨rfl, rfl⟩ | exact ⟨rfl, LeL.refl _⟩ | exact Le.refl _ | exact List.Sublist.refl _ | (show Le (AV.i _) (AV.i _); rw [List.length_map]; exact Le.refl _) | refine And.intro ?_ ?_))
      · rintro ⟨j, q2⟩ ⟨hj, hi2⟩
        simp only at hj hi2
        refine ifB_dec (fun h3 => ?_) (fun h3 => ?_)
        · have hlt : j < (nmSort l).length := by omega
          have htk : (nmSort l).take (j + 1) = (nmSort l).take j ++ [(nmSort l)[j]] := List.take_succ_eq_append_getElem hlt
          cases q2 with
          | true =>
            refine ⟨[0, 1, 2, 3, 4, 5, 6, 7, 8, 9, 10, 11, 12, 13], [], ord_fast (by kernel_rfl), by simp, ?_⟩
            refine ifB_dec (fun h5 => ?_) (fun h5 => ?_)
            · have hj0 : 0 < j := by omega
              have hlt' : j - 1 < (nmSort l).length := by omega
              have hup : (nmSort l)[j - 1] < (nmSort l)[j] := List.pairwise_iff_getElem.1 hrise (j - 1) j hlt' hlt (by omega)
              refine ⟨in64_of (by first | omega | (dsimp only; omega)) (by first | omega | (dsimp only; omega)), ?_⟩
              refine ⟨j - 1, by omega, _, stAt hlt', ?_⟩
              refine ⟨j, rfl, _, stAt hlt, ?_⟩
              refine ifB_less (fun _ => ?_) (fun h => absurd hup h)
              refine ⟨in64_of (by first | omega | (dsimp only; omega)) (by first | omega | (dsimp only; omega)), ?_⟩
              refine ⟨(j + 1, true), ⟨by simp only; omega, ?_⟩, by (try dsimp only); omega, ?_⟩
              · simp only
                rw [htk, List.mem_append, List.mem_singleton]
                exact ⟨fun _ => Or.inl (hi2.1 rfl), fun _ => by simp⟩
              · (constructor <;> repeat' (first | exact trivial | exact ⟨rfl, rfl⟩ | exact ⟨rfl, LeL.refl _⟩ | exact Le.refl _ | exact List.Sublist.refl _ | (show Le (AV.i _) (AV.i _); rw [List.length_map]; exact Le.refl _) | refine And.intro ?_ ?_))
            · refine ⟨in64_of (by first | omega | (dsimp only; omega)) (by first | omega | (dsimp only; omega)), ?_⟩
              refine ⟨(j + 1, true), ⟨by simp only; omega, ?_⟩, by (try dsimp only); omega, ?_⟩
              · simp only
                rw [htk, List.mem_append, List.mem_singleton]
                exact ⟨fun _ => Or.inl (hi2.1 rfl), fun _ => by simp⟩
              · (constructor <;> repeat' (first | exact trivial | exact ⟨rfl, rfl⟩ | exact ⟨rfl, LeL.refl _⟩ | exact Le.refl _ | exact List.Sublist.refl _ | (show Le (AV.i _) (AV.i _); rw [List.length_map]; exact Le.refl _) | refine And.intro ?_ ?_))
          | false =>
            have hs : s ∉ (nmSort l).take j := fun h => absurd (hi2.2 h) (by decide)
            refine ⟨j, rfl, _, stAt hlt, ?_⟩
            refine ifB_dec (fun h4 => ?_) (fun h4 => ?_)
            · refine ⟨[0, 1, 2, 3, 4, 5, 6, 7, 8, 9, 10, 11, 12, 13], [], ord_fast (by kernel_rfl), by simp, ?_⟩
              refine ifB_dec (fun h5 => ?_) (fun h5 => ?_)
              · have hj0 : 0 < j := by omega
                have hlt' : j - 1 < (nmSort l).length := by omega
                have hup : (nmSort l)[j - 1] < (nmSort l)[j] := List.pairwise_iff_getElem.1 hrise (j - 1) j hlt' hlt (by omega)
                refine ⟨in64_of (by first | omega | (dsimp only; omega)) (by first | omega | (dsimp only; omega)), ?_⟩
                refine ⟨j - 1, by omega, _, stAt hlt', ?_⟩
                refine ⟨j, rfl, _, stAt hlt, ?_⟩
                refine ifB_less (fun _ => ?_) (fun h => absurd hup h)
                refine ⟨in64_of (by first | omega | (dsimp only; omega)) (by first | omega | (dsimp only; omega)), ?_⟩
                refine ⟨(j + 1, true), ⟨by simp only; omega, ?_⟩, by (try dsimp only); omega, ?_⟩
                · simp only
                  rw [htk, List.mem_append, List.mem_singleton]
                  exact ⟨fun _ => Or.inr h4.symm, fun _ => by simp⟩
                · (constructor <;> repeat' (first | exact trivial | exact ⟨rfl, rfl⟩ | exact ⟨rfl, LeL.refl _⟩ | exact Le.refl _ | exact List.Sublist.refl _ | (show Le (AV.i _) (AV.i _); rw [List.length_map]; exact Le.refl _) | refine And.intro ?_ ?_))
              · refine ⟨in64_of (by first | omega | (dsimp only; omega)) (by first | omega | (dsimp only; omega)), ?_⟩
                refine ⟨(j + 1, true), ⟨by simp only; omega, ?_⟩, by (try dsimp only); omega, ?_⟩
                · simp only
                  rw [htk, List.mem_append, List.mem_singleton]
                  exact ⟨fun _ => Or.inr h4.symm, fun _ => by simp⟩
                · (constructor <;> repeat' (first | exact trivial | exact ⟨rfl, rfl⟩ | exact ⟨rfl, LeL.refl _⟩ | exact Le.refl _ | exact List.Sublist.refl _ | (show Le (AV.i _) (AV.i _); rw [List.length_map]; exact Le.refl _) | refine And.intro ?_ ?_))
            · refine ⟨[0, 1, 2, 3, 4, 5, 6, 7, 8, 9, 10, 11, 12, 13], [], ord_fast (by kernel_rfl), by simp, ?_⟩
              refine ifB_dec (fun h5 => ?_) (fun h5 => ?_)
              · have hj0 : 0 < j := by omega
                have hlt' : j - 1 < (nmSort l).length := by omega
                have hup : (nmSort l)[j - 1] < (nmSort l)[j] := List.pairwise_iff_getElem.1 hrise (j - 1) j hlt' hlt (by omega)
                refine ⟨in64_of (by first | omega | (dsimp only; omega)) (by first | omega | (dsimp only; omega)), ?_⟩
                refine ⟨j - 1, by omega, _, stAt hlt', ?_⟩
                refine ⟨j, rfl, _, stAt hlt, ?_⟩
                refine ifB_less (fun _ => ?_) (fun h => absurd hup h)
                refine ⟨in64_of (by first | omega | (dsimp only; omega)) (by first | omega | (dsimp only; omega)), ?_⟩
                refine ⟨(j + 1, false), ⟨by simp only; omega, ?_⟩, by (try dsimp only); omega, ?_⟩
                · simp only
                  rw [htk, List.mem_append, List.mem_singleton]
                  exact ⟨nofun, fun h => h.elim (fun h => absurd h hs) fun h => absurd h.symm h4⟩
                · (constructor <;> repeat' (first | exact trivial | exact ⟨rfl, rfl⟩ | exact ⟨rfl, LeL.refl _⟩ | exact Le.refl _ | exact List.Sublist.refl _ | (show Le (AV.i _) (AV.i _); rw [List.length_map]; exact Le.refl _) | refine And.intro ?_ ?_))
              · refine ⟨in64_of (by first | omega | (dsimp only; omega)) (by first | omega | (dsimp only; omega)), ?_⟩
                refine ⟨(j + 1, false), ⟨by simp only; omega, ?_⟩, by (try dsimp only); omega, ?_⟩
                · simp only
                  rw [htk, List.mem_append, List.mem_singleton]
                  exact ⟨nofun, fun h => h.elim (fun h => absurd h hs) fun h => absurd h.symm h4⟩
                · (constructor <;> repeat' (first | exact trivial | exact ⟨rfl, rfl⟩ | exact ⟨rfl, LeL.refl _⟩ | exact Le.refl _ | exact List.Sublist.refl _ | (show Le (AV.i _) (AV.i _); rw [List.length_map]; exact Le.refl _) | refine And.intro ?_ ?_))
        · have hje : j = (nmSort l).length := by omega
          rw [hje, List.take_length, nmSort_mem] at hi2
          obtain rfl : q2 = q := by
            cases q with
            | true => exact hi2.2 (hi.1 rfl)
            | false =>
              cases q2 with
              | true => exact absurd (hi.2 (hi2.1 rfl)) (by decide)
              | false => rfl
          refine ifB_eq ?_
          refine ⟨_, LeL.refl _, (nameSort_con .no (nmSort l) (by omega)).to (congrArg stsX (nmSort_again l)) _ _ ?_⟩
          intro hz1 hz2; clear hz1 hz2
          refine ⟨_, LeL.refl _, (SameTexts_con (nmSort l) (nmSort l)).as (decide_eq_true rfl) _ _ ?_⟩
          intro hz1 hz2; clear hz1 hz2
          exact fin
end Go.Proofs.YtpjolipkmemcoaaGreatDoor

/-
  Law 01: NameAnswers. No condition.
-/
namespace Go.Proofs.YtpjolipkmemcoaaGreatDoor
open Go.RowKit

set_option maxRecDepth 100000 in
set_option maxHeartbeats 2000000 in
theorem nameAnswers_con (s top : List UInt8) (list : List (List UInt8)) : Ans Tryz.prog 3 [.str s, .str top, stsX list] (.b true) := by
  intro H Q hq
  have fin : ∃ r H', Le (.b true) r ∧ List.Sublist H' H ∧ Q r H' := ⟨_, H, Le.refl _, List.Sublist.refl _, hq⟩
  refine con_of_awp (esc := fun _ => false) tab_ok mixed Tryz.func3 rfl (ent Tryz.func3 (by kernel_rfl) rfl) (by kernel_rfl) ?_
  intro hw hn
  clear hw hn
  refine ⟨_, LeL.refl _, alive1_con _ _ ?_⟩
  intro hz1 hz2; clear hz1 hz2
  refine ifB_dec (fun c1 => ?_) (fun c1 => ?_)
  · exact fin
  refine ifB_dec (fun c2 => ?_) (fun c2 => ?_)
  · exact fin
  refine ⟨_, LeL.refl _, Lengths2000_con list _ _ fun n hn2 => ?_⟩
  intro hz1 hz2; clear hz1 hz2
  refine ifB_dec (fun c3 => ?_) (fun c3 => ?_)
  · exact fin
  have hk2 := hn2 (by omega)
  refine ⟨_, LeL.refl _, CopyTexts_con .no list (by omega) _ _ fun q => ?_⟩
  intro hz1 hz2; clear hz1 hz2
  have fin2 : ∃ r H', Le (.b true) r ∧ List.Sublist H' (bufH q H) ∧ Q r H' := ⟨_, H, Le.refl _, bufH_sub q H, hq⟩
  refine ⟨_, LeL.refl _, Join_con (ownQ q) list (by omega) _ _ ?_⟩
  intro hz1 hz2; clear hz1 hz2
  refine ⟨_, LeL.refl _, rJoin_con list (by omega) _ _ ?_⟩
  intro hz1 hz2; clear hz1 hz2
  refine ⟨_, LeL.refl _, nameRight_con s _ _ ?_⟩
  intro hz1 hz2; clear hz1 hz2
  refine ⟨_, LeL.refl _, ref01Right_con s _ _ ?_⟩
  intro hz1 hz2; clear hz1 hz2
  refine ifB_eq ?_
  refine ⟨_, LeL.refl _, Parts_con s _ _ ?_⟩
  intro hz1 hz2; clear hz1 hz2
  refine ⟨_, LeL.refl _, rParts_con s _ _ ?_⟩
  intro hz1 hz2; clear hz1 hz2
  refine ⟨_, LeL.refl _, (SameTexts_con (nmParts s) (nmParts s)).as (decide_eq_true rfl) _ _ ?_⟩
  intro hz1 hz2; clear hz1 hz2
  refine ifB_t rfl ?_
  refine ifB_eq ?_
  refine ⟨_, LeL.refl _, Parent_con s _ _ ?_⟩
  intro hz1 hz2; clear hz1 hz2
  refine ⟨_, LeL.refl _, rParent_con s _ _ ?_⟩
  intro hz1 hz2; clear hz1 hz2
  refine ifB_t rfl ?_
  refine ⟨_, LeL.refl _, Last_con s _ _ ?_⟩
  intro hz1 hz2; clear hz1 hz2
  refine ⟨_, LeL.refl _, rLast_con s _ _ ?_⟩
  intro hz1 hz2; clear hz1 hz2
  refine ifB_t rfl ?_
  refine ⟨_, LeL.refl _, Under_con s top _ _ ?_⟩
  intro hz1 hz2; clear hz1 hz2
  refine ⟨_, LeL.refl _, rUnder_con s top _ _ ?_⟩
  intro hz1 hz2; clear hz1 hz2
  refine ifB_eq ?_
  refine ⟨_, LeL.refl _, Fresh_con (ownQ q) s list (by omega) _ _ ?_⟩
  intro hz1 hz2; clear hz1 hz2
  refine ⟨_, LeL.refl _, rFresh_con s list (by omega) _ _ ?_⟩
  intro hz1 hz2; clear hz1 hz2
  refine ifB_t rfl ?_
  refine ⟨_, LeL.refl _, nameSort_con (ownQ q) list (by omega) _ _ ?_⟩
  intro hz1 hz2; clear hz1 hz2
  refine ⟨_, LeL.refl _, rSort_con list (by omega) _ _ ?_⟩
  intro hz1 hz2; clear hz1 hz2
  refine ⟨_, LeL.refl _, (SameTexts_con (nmSort list) (nmSort list)).as (decide_eq_true rfl) _ _ ?_⟩
  intro hz1 hz2; clear hz1 hz2
  refine ⟨[stsX list, stsX list], ⟨Le.own _ _ _, Le.refl _, trivial⟩, (SameTexts_con list list).as (decide_eq_true rfl) _ _ ?_⟩
  intro hz1 hz2; clear hz1 hz2
  exact fin2
end Go.Proofs.YtpjolipkmemcoaaGreatDoor
