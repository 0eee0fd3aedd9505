/-
  Texts put together: R1, R2, R3, R4, R5, H11, H15, H16. No condition.
-/
import Derived.Test.YtahdkhklngjmoaaGreatDoorM13
import Derived.Test.YtahdkhklngjmoaaGreatDoorM12
/-
  The references' name.Right, term.Right, Formed. No condition.
-/
namespace Go.Proofs.YtahdkhklngjmoaaGreatDoor
open Go.RowKit

theorem u8_le (a b : UInt8) : (a ≤ b) ↔ ((a.toNat : Int) ≤ b.toNat) := by rw [UInt8.le_iff_toNat_le]; omega
set_option maxRecDepth 100000 in
theorem letter_con (c : UInt8) : Ans Tryz.prog 84 [byteV c] (.b (letB c)) := by
  intro H Q hq
  refine con_of_awp (esc := fun _ => false) tab_ok mixed Tryz.func84 rfl (ent Tryz.func84 (by kernel_rfl) rfl) (by kernel_rfl) ?_
  intro hw hn
  have fin : ∀ q : Bool, q = letB c → ∃ r H', Le (.b q) r ∧ List.Sublist H' H ∧ Q r H' := fun q h => ⟨_, H, ret_b h, List.Sublist.refl _, hq⟩
  have e1 : (97 ≤ c) ↔ ((97 : Int) ≤ c.toNat) := u8_le 97 c
  have e2 : (c ≤ 122) ↔ ((c.toNat : Int) ≤ 122) := u8_le c 122
  have e3 : (c = 95) ↔ ((c.toNat : Int) = 95) := ⟨fun h => by rw [h]; rfl, fun h => u8_eq (b := 95) h⟩
  have e : letB c = (decide ((97 : Int) ≤ c.toNat) && decide ((c.toNat : Int) ≤ 122) || decide ((c.toNat : Int) = 95)) := by
    unfold letB
    simp only [← e1, ← e2, ← e3]
    rfl
  refine ifB_dec (fun h1 => ?_) (fun h1 => ?_)
  · refine ifB_dec (fun h2 => ?_) (fun h2 => ?_)
    · exact fin _ (by rw [e]; simp [show (97 : Int) ≤ c.toNat from h1, show (c.toNat : Int) ≤ 122 from h2])
    · refine ifB_dec (fun h3 => ?_) (fun h3 => ?_)
      · exact fin _ (by rw [e]; simp [show (c.toNat : Int) = 95 from h3])
      · exact fin _ (by rw [e, decide_eq_false (show ¬ (c.toNat : Int) ≤ 122 from h2), decide_eq_false (show ¬ (c.toNat : Int) = 95 from h3)]; simp)
  · refine ifB_dec (fun h3 => ?_) (fun h3 => ?_)
    · exact fin _ (by rw [e]; simp [show (c.toNat : Int) = 95 from h3])
    · exact fin _ (by rw [e, decide_eq_false (show ¬ (97 : Int) ≤ c.toNat from h1), decide_eq_false (show ¬ (c.toNat : Int) = 95 from h3)]; simp)
set_option maxRecDepth 100000 in
theorem digit_con (c : UInt8) : Ans Tryz.prog 85 [byteV c] (.b (digB c)) := by
  intro H Q hq
  refine con_of_awp (esc := fun _ => false) tab_ok mixed Tryz.func85 rfl (ent Tryz.func85 (by kernel_rfl) rfl) (by kernel_rfl) ?_
  intro hw hn
  have fin : ∀ q : Bool, q = digB c → ∃ r H', Le (.b q) r ∧ List.Sublist H' H ∧ Q r H' := fun q h => ⟨_, H, ret_b h, List.Sublist.refl _, hq⟩
  have e1 : (48 ≤ c) ↔ ((48 : Int) ≤ c.toNat) := u8_le 48 c
  have e2 : (c ≤ 57) ↔ ((c.toNat : Int) ≤ 57) := u8_le c 57
  have e : digB c = (decide ((48 : Int) ≤ c.toNat) && decide ((c.toNat : Int) ≤ 57)) := by
    unfold digB
    simp only [← e1, ← e2]
  refine ifB_dec (fun h1 => ?_) (fun h1 => ?_)
  rotate_left
  · exact fin _ (by rw [e, decide_eq_false (show ¬ (48 : Int) ≤ c.toNat from h1)]; simp)
  refine ifB_dec (fun h2 => ?_) (fun h2 => ?_)
  rotate_left
  · exact fin _ (by rw [e, decide_eq_false (show ¬ (c.toNat : Int) ≤ 57 from h2)]; simp)
  exact fin _ (by rw [e, decide_eq_true (show (48 : Int) ≤ c.toNat from h1), decide_eq_true (show (c.toNat : Int) ≤ 57 from h2)]; rfl)
theorem nmGo_cons (first : Bool) (c : UInt8) (r : List UInt8) : nmGo first (c :: r) = if c == 46 then (if first then false else nmGo true r) else if letB c || (digB c && !first) then nmGo false r else false := rfl
set_option maxRecDepth 100000 in
theorem ref01Right_con (l : List UInt8) : Ans Tryz.prog 67 [.str l] (.b (nameOk l)) := by
  intro H Q hq
  refine con_of_awp (esc := fun _ => false) tab_ok mixed Tryz.func67 rfl (ent Tryz.func67 (by kernel_rfl) rfl) (by kernel_rfl) ?_
  intro hw hn
  have fin : ∀ q : Bool, q = nameOk l → ∃ r H', Le (.b q) r ∧ List.Sublist H' H ∧ Q r H' := fun q h => ⟨_, H, ret_b h, List.Sublist.refl _, hq⟩
  refine ifB_dec (fun h1 => ?_) (fun h1 => ?_)
  · exact fin _ (by rw [nameOk, decide_eq_false (show ¬ 1 ≤ l.length by omega)]; rfl)
  refine ifB_dec (fun h2 => ?_) (fun h2 => ?_)
  · exact fin _ (by rw [nameOk, decide_eq_false (show ¬ l.length ≤ 40 by omega)]; simp)
  have hok : nameOk l = nmGo true l := by rw [nameOk, decide_eq_true (show 1 ≤ l.length by omega), decide_eq_true (show l.length ≤ 40 by omega)]; rfl
  refine ⟨Nat × Bool, fun p => ⟨[(0, .g (.str l)), (2, .g (.b false)), (3, .g (.b p.2)), (4, .g (.i p.1))], [], H⟩, fun p => p.1 ≤ l.length ∧ nmGo true l = nmGo p.2 (l.drop p.1), fun p => l.length - p.1, ⟨(0, true), ⟨Nat.zero_le _, rfl⟩, ?_⟩, ?_⟩
  · (constructor <;> repeat' (first | exact trivial | exact ⟨rfl, rfl⟩ | exact ⟨rfl, LeL.refl _⟩ | exact Le.refl _ | exact List.Sublist.refl _ | (show Le (AV.i _) (AV.i _); rw [List.length_map]; exact Le.refl _) | refine And.intro ?_ ?_))
  · rintro ⟨k, first⟩ ⟨hk, hinv⟩
    simp only at hk hinv
    refine ifB_dec (fun h3 => ?_) (fun h3 => ?_)
    · simp only at h3
      have hlt : k < l.length := by omega
      rw [List.drop_eq_getElem_cons hlt, nmGo_cons] at hinv
      have hget : l[k]? = some l[k] := by simp [hlt]
      refine ⟨k, rfl, l[k], hget, ?_⟩
      refine ifB_dec (fun h4 => ?_) (fun h4 => ?_)
      · have hd : l[k] = 46 := u8_eq (b := 46) h4
        rw [if_pos (by rw [hd]; rfl)] at hinv
        cases first with
        | true => exact fin _ (by rw [hok, hinv]; rfl)
        | false =>
          refine ⟨in64_of (by first | omega | (dsimp only; omega)) (by first | omega | (dsimp only; omega)), ?_⟩
          refine ⟨(k + 1, true), ⟨by simp only; omega, by simpa using hinv⟩, by (try dsimp only); omega, ?_⟩
          (constructor <;> repeat' (first | exact trivial | exact ⟨rfl, rfl⟩ | exact ⟨rfl, LeL.refl _⟩ | exact Le.refl _ | exact List.Sublist.refl _ | (show Le (AV.i _) (AV.i _); rw [List.length_map]; exact Le.refl _) | refine And.intro ?_ ?_))
      · have hd : ¬ (l[k] == 46) = true := by
          rw [beq_iff_eq]
          exact fun h => h4 (by rw [h]; rfl)
        rw [if_neg hd] at hinv
        refine ⟨k, rfl, l[k], hget, ?_⟩
        by_cases h5 : letB l[k] = true
        · refine ⟨_, LeL.refl _, (letter_con l[k]).yes h5 _ _ ?_⟩
          intro hz1 hz2; clear hz1 hz2
          refine ⟨in64_of (by first | omega | (dsimp only; omega)) (by first | omega | (dsimp only; omega)), ?_⟩
          refine ⟨(k + 1, false), ⟨by simp only; omega, by rw [hinv, h5]; rfl⟩, by (try dsimp only); omega, ?_⟩
          (constructor <;> repeat' (first | exact trivial | exact ⟨rfl, rfl⟩ | exact ⟨rfl, LeL.refl _⟩ | exact Le.refl _ | exact List.Sublist.refl _ | (show Le (AV.i _) (AV.i _); rw [List.length_map]; exact Le.refl _) | refine And.intro ?_ ?_))
        · refine ⟨_, LeL.refl _, (letter_con l[k]).no h5 _ _ ?_⟩
          intro hz1 hz2; clear hz1 hz2
          refine ⟨k, rfl, l[k], hget, ?_⟩
          by_cases h6 : digB l[k] = true
          · refine ⟨_, LeL.refl _, (digit_con l[k]).yes h6 _ _ ?_⟩
            intro hz1 hz2; clear hz1 hz2
            cases first with
            | true => exact fin _ (by rw [hok, hinv, ntrue h5]; simp)
            | false =>
              refine ⟨in64_of (by first | omega | (dsimp only; omega)) (by first | omega | (dsimp only; omega)), ?_⟩
              refine ⟨(k + 1, false), ⟨by simp only; omega, by rw [hinv, h6]; simp⟩, by (try dsimp only); omega, ?_⟩
              (constructor <;> repeat' (first | exact trivial | exact ⟨rfl, rfl⟩ | exact ⟨rfl, LeL.refl _⟩ | exact Le.refl _ | exact List.Sublist.refl _ | (show Le (AV.i _) (AV.i _); rw [List.length_map]; exact Le.refl _) | refine And.intro ?_ ?_))
          · refine ⟨_, LeL.refl _, (digit_con l[k]).no h6 _ _ ?_⟩
            intro hz1 hz2; clear hz1 hz2
            exact fin _ (by rw [hok, hinv, ntrue h5, ntrue h6]; simp)
    · simp only at h3
      have hk' : k = l.length := by omega
      rw [hk', List.drop_length] at hinv
      exact fin _ (by rw [hok, hinv]; rfl)

set_option maxRecDepth 100000 in
theorem ref04Nodes_con (most : Nat) (hm : most ≤ 1099511627776) : ∀ (N : Nat) (l : Tm), l.nodes ≤ N → Ans Tryz.prog 70 [tmX l, .i most] (.i (min l.nodes (most + 1) : Nat)) := by
  intro N
  induction N with
  | zero => intro l h; have := l.nodes_pos; omega
  | succ N ih =>
    intro l hN H Q hq
    refine con_of_awp (esc := fun _ => false) tab_ok mixed Tryz.func70 rfl (ent Tryz.func70 (by kernel_rfl) rfl) (by kernel_rfl) ?_
    intro hw hn
    have hlena := (hw (tmX l) (by simp)).targs
    have hlenl := (hw (tmX l) (by simp)).tlevels
    have hnd := l.nodes_eq
    refine ⟨Nat × Int, fun p => ⟨[(1, .g (.i most)), (2, .lp 2 0), (4, .g (.i 0)), (5, .g (.i p.2)), (6, .g (.i p.1))], [(2, (tmX l).cells)], H⟩,
      fun p => p.1 ≤ l.levels.length ∧ CntRel most (1 + Lv.nodesL (l.levels.take p.1)) p.2, fun p => l.levels.length - p.1, ⟨(0, 1), ⟨Nat.zero_le _, by unfold CntRel; simp [Lv.nodesL]; omega⟩, ?_⟩, ?_⟩
    · (constructor <;> repeat' (first | exact trivial | exact ⟨rfl, rfl⟩ | exact ⟨rfl, LeL.refl _⟩ | exact Le.refl _ | exact List.Sublist.refl _ | (show Le (AV.i _) (AV.i _); rw [List.length_map]; exact Le.refl _) | refine And.intro ?_ ?_))
    · rintro ⟨k, m⟩ ⟨hk, hrel⟩
      simp only at hk hrel
      have hr := hrel
      unfold CntRel at hr
      have hle : Lv.nodesL (l.levels.take k) ≤ Lv.nodesL l.levels := nodesL_le _ _
      refine ifB_dec (fun h1 => ?_) (fun h1 => ?_)
      · have hlt : k < l.levels.length := by simpa using h1
        refine ifB_dec (fun h2 => ?_) (fun h2 => ?_)
        · refine ⟨k, rfl, _, lvAt hlt, ?_⟩
          refine ⟨_, LeL.refl _, LevelNodes_con most hm _ _ (Nat.le_refl _) _ _ ?_⟩
          intro hz1 hz2; clear hz1 hz2
          refine ⟨in64_of (by first | omega | (dsimp only; omega)) (by first | omega | (dsimp only; omega)), ?_⟩
          refine ⟨in64_of (by first | omega | (dsimp only; omega)) (by first | omega | (dsimp only; omega)), ?_⟩
          have hs := nodesL_snoc hlt
          refine ⟨(k + 1, m + (min l.levels[k].nodes (most + 1) : Nat)), ⟨by simp only; omega, by unfold CntRel at *; simp only; omega⟩, by dsimp only; omega, ?_⟩
          (constructor <;> repeat' (first | exact trivial | exact ⟨rfl, rfl⟩ | exact ⟨rfl, LeL.refl _⟩ | exact Le.refl _ | exact List.Sublist.refl _ | (show Le (AV.i _) (AV.i _); rw [List.length_map]; exact Le.refl _) | refine And.intro ?_ ?_))
        · refine ⟨Nat × Int, fun p => ⟨[(1, .g (.i most)), (2, .lp 2 0), (4, .g (.i 0)), (5, .g (.i p.2)), (7, .g (.i p.1))], [(2, (tmX l).cells)], H⟩,
            fun p => p.1 ≤ l.args.length ∧ CntRel most (1 + Lv.nodesL l.levels + Tm.nodesL (l.args.take p.1)) p.2, fun p => l.args.length - p.1, ⟨(0, m), ⟨Nat.zero_le _, by unfold CntRel; simp [Tm.nodesL]; omega⟩, ?_⟩, ?_⟩
          · (constructor <;> repeat' (first | exact trivial | exact ⟨rfl, rfl⟩ | exact ⟨rfl, LeL.refl _⟩ | exact Le.refl _ | exact List.Sublist.refl _ | (show Le (AV.i _) (AV.i _); rw [List.length_map]; exact Le.refl _) | refine And.intro ?_ ?_))
          · rintro ⟨j, m'⟩ ⟨hj, hrel'⟩
            simp only at hj hrel'
            have hr' := hrel'
            unfold CntRel at hr'
            have hle' : Tm.nodesL (l.args.take j) ≤ Tm.nodesL l.args := nodesTL_le _ _
            refine ifB_dec (fun h3 => ?_) (fun h3 => ?_)
            · have hlt' : j < l.args.length := by simpa using h3
              refine ifB_dec (fun h4 => ?_) (fun h4 => ?_)
              · refine ⟨j, rfl, _, tmAt' hlt', ?_⟩
                have hmem := Tm.nodesL_mem (List.getElem_mem hlt')
                refine ⟨_, LeL.refl _, ih _ (by omega) _ _ ?_⟩
                intro hz1 hz2; clear hz1 hz2
                refine ⟨in64_of (by first | omega | (dsimp only; omega)) (by first | omega | (dsimp only; omega)), ?_⟩
                refine ⟨in64_of (by first | omega | (dsimp only; omega)) (by first | omega | (dsimp only; omega)), ?_⟩
                have hs' := nodesTL_snoc hlt'
                refine ⟨(j + 1, m' + (min l.args[j].nodes (most + 1) : Nat)), ⟨by simp only; omega, by unfold CntRel at *; simp only; omega⟩, by dsimp only; omega, ?_⟩
                (constructor <;> repeat' (first | exact trivial | exact ⟨rfl, rfl⟩ | exact ⟨rfl, LeL.refl _⟩ | exact Le.refl _ | exact List.Sublist.refl _ | (show Le (AV.i _) (AV.i _); rw [List.length_map]; exact Le.refl _) | refine And.intro ?_ ?_))
              · refine ⟨in64_of (by first | omega | (dsimp only; omega)) (by first | omega | (dsimp only; omega)), ?_⟩
                exact ⟨_, H, ret_i (by omega), List.Sublist.refl _, hq⟩
            · have hj' : j = l.args.length := by
                have : ¬ j < l.args.length := by simpa using h3
                omega
              refine ⟨in64_of (by first | omega | (dsimp only; omega)) (by first | omega | (dsimp only; omega)), ?_⟩
              refine ⟨_, H, ret_i ?_, List.Sublist.refl _, hq⟩
              rw [hj', List.take_length] at hr'
              omega
      · have hk' : k = l.levels.length := by
          have : ¬ k < l.levels.length := by simpa using h1
          omega
        rw [hk', List.take_length] at hr
        refine ⟨Nat × Int, fun p => ⟨[(1, .g (.i most)), (2, .lp 2 0), (4, .g (.i 0)), (5, .g (.i p.2)), (7, .g (.i p.1))], [(2, (tmX l).cells)], H⟩,
          fun p => p.1 ≤ l.args.length ∧ CntRel most (1 + Lv.nodesL l.levels + Tm.nodesL (l.args.take p.1)) p.2, fun p => l.args.length - p.1, ⟨(0, m), ⟨Nat.zero_le _, by unfold CntRel; simp [Tm.nodesL]; omega⟩, ?_⟩, ?_⟩
        · (constructor <;> repeat' (first | exact trivial | exact ⟨rfl, rfl⟩ | exact ⟨rfl, LeL.refl _⟩ | exact Le.refl _ | exact List.Sublist.refl _ | (show Le (AV.i _) (AV.i _); rw [List.length_map]; exact Le.refl _) | refine And.intro ?_ ?_))
        · rintro ⟨j, m'⟩ ⟨hj, hrel'⟩
          simp only at hj hrel'
          have hr' := hrel'
          unfold CntRel at hr'
          have hle' : Tm.nodesL (l.args.take j) ≤ Tm.nodesL l.args := nodesTL_le _ _
          refine ifB_dec (fun h3 => ?_) (fun h3 => ?_)
          · have hlt' : j < l.args.length := by simpa using h3
            refine ifB_dec (fun h4 => ?_) (fun h4 => ?_)
            · refine ⟨j, rfl, _, tmAt' hlt', ?_⟩
              have hmem := Tm.nodesL_mem (List.getElem_mem hlt')
              refine ⟨_, LeL.refl _, ih _ (by omega) _ _ ?_⟩
              intro hz1 hz2; clear hz1 hz2
              refine ⟨in64_of (by first | omega | (dsimp only; omega)) (by first | omega | (dsimp only; omega)), ?_⟩
              refine ⟨in64_of (by first | omega | (dsimp only; omega)) (by first | omega | (dsimp only; omega)), ?_⟩
              have hs' := nodesTL_snoc hlt'
              refine ⟨(j + 1, m' + (min l.args[j].nodes (most + 1) : Nat)), ⟨by simp only; omega, by unfold CntRel at *; simp only; omega⟩, by dsimp only; omega, ?_⟩
              (constructor <;> repeat' (first | exact trivial | exact ⟨rfl, rfl⟩ | exact ⟨rfl, LeL.refl _⟩ | exact Le.refl _ | exact List.Sublist.refl _ | (show Le (AV.i _) (AV.i _); rw [List.length_map]; exact Le.refl _) | refine And.intro ?_ ?_))
            · refine ⟨in64_of (by first | omega | (dsimp only; omega)) (by first | omega | (dsimp only; omega)), ?_⟩
              exact ⟨_, H, ret_i (by omega), List.Sublist.refl _, hq⟩
          · have hj' : j = l.args.length := by
              have : ¬ j < l.args.length := by simpa using h3
              omega
            refine ⟨in64_of (by first | omega | (dsimp only; omega)) (by first | omega | (dsimp only; omega)), ?_⟩
            refine ⟨_, H, ret_i ?_, List.Sublist.refl _, hq⟩
            rw [hj', List.take_length] at hr'
            omega

set_option maxRecDepth 100000 in
theorem binds_con (k : Int) (i : Nat) : Ans Tryz.prog 65 [.i k, .i i] (.b (tmBind k i)) := by
  intro H Q hq
  refine con_of_awp (esc := fun _ => false) tab_ok mixed Tryz.func65 rfl (ent Tryz.func65 (by kernel_rfl) rfl) (by kernel_rfl) ?_
  intro hw hn
  have fin : ∀ q : Bool, q = tmBind k i → ∃ r H', Le (.b q) r ∧ List.Sublist H' H ∧ Q r H' := fun q h => ⟨_, H, ret_b h, List.Sublist.refl _, hq⟩
  refine ifB_dec (fun h5 => ?_) (fun h5 => ?_)
  · refine ifB_dec (fun h1 => ?_) (fun h1 => ?_)
    · exact fin _ (by have : i = 1 := (by omega); simp [tmBind, h5, this])
    · have hi : ¬ i = 1 := by omega
      refine ifB_dec (fun h7 => ?_) (fun h7 => ?_)
      · refine ifB_dec (fun h2 => ?_) (fun h2 => ?_)
        · exact fin _ (by have : i = 2 := (by omega); simp [tmBind, h7, this])
        · exact fin _ (by have : ¬ i = 2 := (by omega); simp [tmBind, h7, this])
      · exact fin _ (by simp [tmBind, *])
  · refine ifB_dec (fun h6 => ?_) (fun h6 => ?_)
    · refine ifB_dec (fun h1 => ?_) (fun h1 => ?_)
      · exact fin _ (by have : i = 1 := (by omega); simp [tmBind, h6, this])
      · have hi : ¬ i = 1 := by omega
        refine ifB_dec (fun h7 => ?_) (fun h7 => ?_)
        · refine ifB_dec (fun h2 => ?_) (fun h2 => ?_)
          · exact fin _ (by have : i = 2 := (by omega); simp [tmBind, h7, this])
          · exact fin _ (by have : ¬ i = 2 := (by omega); simp [tmBind, h7, this])
        · exact fin _ (by simp [tmBind, *])
    · refine ifB_dec (fun h7 => ?_) (fun h7 => ?_)
      · refine ifB_dec (fun h2 => ?_) (fun h2 => ?_)
        · exact fin _ (by have : i = 2 := (by omega); simp [tmBind, h7, this])
        · exact fin _ (by have : ¬ i = 2 := (by omega); simp [tmBind, h7, this])
      · exact fin _ (by simp [tmBind, *])
end Go.Proofs.YtahdkhklngjmoaaGreatDoor

/-
  The references' term.Right, Formed. No condition.
-/
namespace Go.Proofs.YtahdkhklngjmoaaGreatDoor
open Go.RowKit

/-- what a term's kind asks of the node: how many parts, how many levels -/
def kindOk (vars k m : Int) (nm : List UInt8) (ls : Nat) : Int × Int × Bool :=
  if k = 1 then (0, 0, decide (0 ≤ m) && decide (m < vars))
  else if k = 2 then (0, 1, true)
  else if k = 3 then (0, ls, nameOk nm && decide (ls ≤ 4))
  else if k = 4 ∨ k = 5 ∨ k = 6 then (2, 0, true)
  else if k = 7 then (3, 0, true)
  else (0, 0, false)
theorem tmNode_kind (vars k m : Int) (nm : List UInt8) (ls xs : Nat) : tmNode vars k m nm ls xs = ((kindOk vars k m nm ls).2.2 && ((k = 1 || decide (m = 0)) && ((k = 3 || decide (nm = [])) && (decide ((ls : Int) = (kindOk vars k m nm ls).2.1) && decide ((xs : Int) = (kindOk vars k m nm ls).1))))) := by
  unfold tmNode kindOk
  by_cases h1 : k = 1
  · subst h1
    simp only [if_true]
    rw [Bool.eq_iff_iff]; simp; grind
  · by_cases h2 : k = 2
    · subst h2
      rw [Bool.eq_iff_iff]; simp; grind
    · by_cases h3 : k = 3
      · subst h3
        rw [Bool.eq_iff_iff]; simp; grind
      · by_cases h4 : k = 4 ∨ k = 5 ∨ k = 6
        · simp only [h1, h2, h3, h4, if_true, if_false]
          rw [Bool.eq_iff_iff]; simp; grind
        · by_cases h7 : k = 7
          · subst h7
            rw [Bool.eq_iff_iff]; simp; grind
          · simp [h1, h2, h3, h4, h7]

set_option maxRecDepth 100000 in
set_option maxHeartbeats 1000000 in
theorem ref04right_con (n : Int) : ∀ (N : Nat) (l : Tm) (vars : Int), l.nodes ≤ N → -1 ≤ vars → vars + N ≤ 4611686018427387904 → Ans Tryz.prog 71 [tmX l, .i n, .i vars] (.b (tmFit n l vars)) := by
  intro N
  induction N with
  | zero => intro l v h; have := l.nodes_pos; omega
  | succ N ih =>
    intro l vars hN hv0 hv1 H Q hq
    have hnd := l.nodes_eq
    have hfit := tmFit_eq n l vars
    have fin : ∀ q : Bool, q = tmFit n l vars → ∃ r H', Le (.b q) r ∧ List.Sublist H' H ∧ Q r H' := fun q h => ⟨_, H, ret_b h, List.Sublist.refl _, hq⟩
    have bad : tmNode vars l.kind l.n l.name l.levels.length l.args.length = false → ∃ r H', Le (.b false) r ∧ List.Sublist H' H ∧ Q r H' := fun h => fin _ (by rw [hfit, h]; rfl)
    refine con_of_sem tab_ok Tryz.func71 rfl (ent Tryz.func71 (by kernel_rfl) rfl) (by kernel_rfl) ?_
    intro hw hn
    have hlena := (hw (tmX l) (by simp)).targs
    have hlenl := (hw (tmX l) (by simp)).tlevels
    clear hw hn
    refine sem_seq (esc := fun _ => false) tab_ok mixed ?_
    refine sem_join (esc := fun _ => false) tab_ok mixed (X := Unit) (fun q => ⟨[(1, .g (.i n)), (2, .g (.i vars)), (3, .lp 3 0), (6, .g (.b false))], [(3, (tmX l).cells)], H⟩) (fun q => lvRightL n l.levels = true) ?_ (fun q hI => ?_)
    · refine ⟨Nat, fun j => ⟨[(1, .g (.i n)), (2, .g (.i vars)), (3, .lp 3 0), (6, .g (.b false)), (7, .g (.i j))], [(3, (tmX l).cells)], H⟩, fun j => j ≤ l.levels.length ∧ (l.levels.take j).all (lvRight n) = true, fun j => l.levels.length - j, ⟨0, ⟨Nat.zero_le _, rfl⟩, ?_⟩, ?_⟩
      · (constructor <;> repeat' (first | exact trivial | exact ⟨rfl, rfl⟩ | exact ⟨rfl, LeL.refl _⟩ | exact Le.refl _ | exact List.Sublist.refl _ | (show Le (AV.i _) (AV.i _); rw [List.length_map]; exact Le.refl _) | refine And.intro ?_ ?_))
      · rintro j ⟨hj, hall⟩
        refine ifB_dec (fun h1 => ?_) (fun h1 => ?_)
        · have hlt : j < l.levels.length := by simpa using h1
          refine ⟨j, rfl, _, lvAt hlt, ?_⟩
          by_cases h2 : lvRight n l.levels[j] = true
          · refine ⟨_, LeL.refl _, (ref03Right_con n _).yes h2 _ _ ?_⟩
            intro hz1 hz2; clear hz1 hz2
            refine ⟨in64_of (by first | omega | (dsimp only; omega)) (by first | omega | (dsimp only; omega)), ?_⟩
            refine ⟨j + 1, ⟨by omega, all_take hlt hall h2⟩, by (try dsimp only); omega, ?_⟩
            (constructor <;> repeat' (first | exact trivial | exact ⟨rfl, rfl⟩ | exact ⟨rfl, LeL.refl _⟩ | exact Le.refl _ | exact List.Sublist.refl _ | (show Le (AV.i _) (AV.i _); rw [List.length_map]; exact Le.refl _) | refine And.intro ?_ ?_))
          · refine ⟨_, LeL.refl _, (ref03Right_con n _).no h2 _ _ ?_⟩
            intro hz1 hz2; clear hz1 hz2
            exact fin _ (by rw [hfit, lvRightL, all_no hlt (ntrue h2)]; simp)
        · have hj' : j = l.levels.length := by
            have : ¬ j < l.levels.length := by simpa using h1
            omega
          rw [hj', List.take_length] at hall
          refine ⟨(), hall, ?_⟩
          (constructor <;> repeat' (first | exact trivial | exact ⟨rfl, rfl⟩ | exact ⟨rfl, LeL.refl _⟩ | exact Le.refl _ | exact List.Sublist.refl _ | (show Le (AV.i _) (AV.i _); rw [List.length_map]; exact Le.refl _) | refine And.intro ?_ ?_))
    have hls := hI
    clear hI
    refine sem_seq (esc := fun _ => false) tab_ok mixed ?_
    refine sem_seq (esc := fun _ => false) tab_ok mixed ?_
    refine sem_join (esc := fun _ => false) tab_ok mixed (X := Int × Int) (fun q => ⟨[(1, .g (.i n)), (2, .g (.i vars)), (3, .lp 3 0), (6, .g (.b false)), (8, .g (.i q.1)), (9, .g (.i q.2))], [(3, (tmX l).cells)], H⟩) (fun q => (1 ≤ l.kind ∧ l.kind ≤ 7) ∧ kindOk vars l.kind l.n l.name l.levels.length = (q.1, q.2, true)) ?_ (fun q hI => ?_)
    · have badk : (kindOk vars l.kind l.n l.name l.levels.length).2.2 = false → ∃ r H', Le (.b false) r ∧ List.Sublist H' H ∧ Q r H' := fun h => bad (by rw [tmNode_kind, h]; rfl)
      refine ifB_dec (fun k1 => ?_) (fun k1 => ?_)
      · refine ifB_dec (fun h2 => ?_) (fun h2 => ?_)
        · exact badk (by rw [kindOk, if_pos k1, decide_eq_false (show ¬ 0 ≤ l.n by omega)]; rfl)
        refine ifB_dec (fun h3 => ?_) (fun h3 => ?_)
        · exact badk (by rw [kindOk, if_pos k1, decide_eq_false (show ¬ l.n < vars by omega)]; simp)
        refine ⟨(0, 0), ⟨by omega, by rw [kindOk, if_pos k1, decide_eq_true (show 0 ≤ l.n by omega), decide_eq_true (show l.n < vars by omega)]; rfl⟩, ?_⟩
        (constructor <;> repeat' (first | exact trivial | exact ⟨rfl, rfl⟩ | exact ⟨rfl, LeL.refl _⟩ | exact Le.refl _ | exact List.Sublist.refl _ | (show Le (AV.i _) (AV.i _); rw [List.length_map]; exact Le.refl _) | refine And.intro ?_ ?_))
      refine ifB_dec (fun k2 => ?_) (fun k2 => ?_)
      · refine ⟨(0, 1), ⟨by omega, by rw [kindOk, if_neg k1, if_pos k2]⟩, ?_⟩
        (constructor <;> repeat' (first | exact trivial | exact ⟨rfl, rfl⟩ | exact ⟨rfl, LeL.refl _⟩ | exact Le.refl _ | exact List.Sublist.refl _ | (show Le (AV.i _) (AV.i _); rw [List.length_map]; exact Le.refl _) | refine And.intro ?_ ?_))
      refine ifB_dec (fun k3 => ?_) (fun k3 => ?_)
      · by_cases h4 : nameOk l.name = true
        rotate_left
        · refine ⟨_, LeL.refl _, (ref01Right_con l.name).no h4 _ _ ?_⟩
          intro hz1 hz2; clear hz1 hz2
          exact badk (by rw [kindOk, if_neg k1, if_neg k2, if_pos k3, ntrue h4]; rfl)
        refine ⟨_, LeL.refl _, (ref01Right_con l.name).yes h4 _ _ ?_⟩
        intro hz1 hz2; clear hz1 hz2
        refine ifB_dec (fun h5 => ?_) (fun h5 => ?_)
        · simp only [List.length_map] at h5
          exact badk (by rw [kindOk, if_neg k1, if_neg k2, if_pos k3, h4, decide_eq_false (show ¬ l.levels.length ≤ 4 by omega)]; rfl)
        simp only [List.length_map] at h5
        refine ⟨(0, l.levels.length), ⟨by omega, by rw [kindOk, if_neg k1, if_neg k2, if_pos k3, h4, decide_eq_true (show l.levels.length ≤ 4 by omega)]; rfl⟩, ?_⟩
        (constructor <;> repeat' (first | exact trivial | exact ⟨rfl, rfl⟩ | exact ⟨rfl, LeL.refl _⟩ | exact Le.refl _ | exact List.Sublist.refl _ | (show Le (AV.i _) (AV.i _); rw [List.length_map]; exact Le.refl _) | refine And.intro ?_ ?_))
      refine ifB_dec (fun k4 => ?_) (fun k4 => ?_)
      · refine ⟨(2, 0), ⟨by omega, by rw [kindOk, if_neg k1, if_neg k2, if_neg k3, if_pos (by omega)]⟩, ?_⟩
        (constructor <;> repeat' (first | exact trivial | exact ⟨rfl, rfl⟩ | exact ⟨rfl, LeL.refl _⟩ | exact Le.refl _ | exact List.Sublist.refl _ | (show Le (AV.i _) (AV.i _); rw [List.length_map]; exact Le.refl _) | refine And.intro ?_ ?_))
      refine ifB_dec (fun k5 => ?_) (fun k5 => ?_)
      · refine ⟨(2, 0), ⟨by omega, by rw [kindOk, if_neg k1, if_neg k2, if_neg k3, if_pos (by omega)]⟩, ?_⟩
        (constructor <;> repeat' (first | exact trivial | exact ⟨rfl, rfl⟩ | exact ⟨rfl, LeL.refl _⟩ | exact Le.refl _ | exact List.Sublist.refl _ | (show Le (AV.i _) (AV.i _); rw [List.length_map]; exact Le.refl _) | refine And.intro ?_ ?_))
      refine ifB_dec (fun k6 => ?_) (fun k6 => ?_)
      · refine ⟨(2, 0), ⟨by omega, by rw [kindOk, if_neg k1, if_neg k2, if_neg k3, if_pos (by omega)]⟩, ?_⟩
        (constructor <;> repeat' (first | exact trivial | exact ⟨rfl, rfl⟩ | exact ⟨rfl, LeL.refl _⟩ | exact Le.refl _ | exact List.Sublist.refl _ | (show Le (AV.i _) (AV.i _); rw [List.length_map]; exact Le.refl _) | refine And.intro ?_ ?_))
      refine ifB_dec (fun k7 => ?_) (fun k7 => ?_)
      · refine ⟨(3, 0), ⟨by omega, by rw [kindOk, if_neg k1, if_neg k2, if_neg k3, if_neg (by omega), if_pos k7]⟩, ?_⟩
        (constructor <;> repeat' (first | exact trivial | exact ⟨rfl, rfl⟩ | exact ⟨rfl, LeL.refl _⟩ | exact Le.refl _ | exact List.Sublist.refl _ | (show Le (AV.i _) (AV.i _); rw [List.length_map]; exact Le.refl _) | refine And.intro ?_ ?_))
      exact badk (by rw [kindOk, if_neg k1, if_neg k2, if_neg k3, if_neg (by omega), if_neg k7])
    obtain ⟨qa, ql⟩ := q
    obtain ⟨hk, hko⟩ := hI
    simp only at hko
    have hnode : tmNode vars l.kind l.n l.name l.levels.length l.args.length = ((l.kind = 1 || decide (l.n = 0)) && ((l.kind = 3 || decide (l.name = [])) && (decide ((l.levels.length : Int) = ql) && decide ((l.args.length : Int) = qa)))) := by rw [tmNode_kind, hko]; rfl
    refine sem_join (esc := fun _ => false) tab_ok mixed (X := Unit) (fun q => ⟨[(1, .g (.i n)), (2, .g (.i vars)), (3, .lp 3 0), (6, .g (.b false)), (8, .g (.i l.args.length))], [(3, (tmX l).cells)], H⟩) (fun q => tmNode vars l.kind l.n l.name l.levels.length l.args.length = true) ?_ (fun q hI => ?_)
    · refine ifB_dec (fun k1 => ?_) (fun k1 => ?_)
      · refine ifB_dec (fun k3 => ?_) (fun k3 => ?_)
        · refine ifB_dec (fun h4 => ?_) (fun h4 => ?_)
          · simp only [List.length_map] at h4
            refine ifB_dec (fun h5 => ?_) (fun h5 => ?_)
            · simp only [List.length_map] at h5
              refine ⟨(), by rw [hnode, decide_eq_true h4, decide_eq_true h5]; first | (exfalso; omega) | simp [*], ?_⟩
              refine ⟨⟨Le.refl _, Le.refl _, ⟨rfl, rfl⟩, Le.refl _, le_of_eq ?_, trivial⟩, ⟨⟨rfl, LeL.refl _⟩, trivial⟩, List.Sublist.refl _⟩
              show AV.i _ = AV.i _
              rw [h5]
            · simp only [List.length_map] at h5
              exact bad (by rw [hnode, decide_eq_false h5]; simp)
          · simp only [List.length_map] at h4
            exact bad (by rw [hnode, decide_eq_false h4]; simp)
        · refine ifB_dec (fun h3 => ?_) (fun h3 => ?_)
          · have h3' : l.name = [] := h3
            refine ifB_dec (fun h4 => ?_) (fun h4 => ?_)
            · simp only [List.length_map] at h4
              refine ifB_dec (fun h5 => ?_) (fun h5 => ?_)
              · simp only [List.length_map] at h5
                refine ⟨(), by rw [hnode, decide_eq_true h4, decide_eq_true h5]; first | (exfalso; omega) | simp [*], ?_⟩
                refine ⟨⟨Le.refl _, Le.refl _, ⟨rfl, rfl⟩, Le.refl _, le_of_eq ?_, trivial⟩, ⟨⟨rfl, LeL.refl _⟩, trivial⟩, List.Sublist.refl _⟩
                show AV.i _ = AV.i _
                rw [h5]
              · simp only [List.length_map] at h5
                exact bad (by rw [hnode, decide_eq_false h5]; simp)
            · simp only [List.length_map] at h4
              exact bad (by rw [hnode, decide_eq_false h4]; simp)
          · exact bad (by rw [hnode, decide_eq_false (show ¬ l.name = [] from h3)]; simp [k3])
      · refine ifB_dec (fun h2 => ?_) (fun h2 => ?_)
        · refine ifB_dec (fun k3 => ?_) (fun k3 => ?_)
          · refine ifB_dec (fun h4 => ?_) (fun h4 => ?_)
            · simp only [List.length_map] at h4
              refine ifB_dec (fun h5 => ?_) (fun h5 => ?_)
              · simp only [List.length_map] at h5
                refine ⟨(), by rw [hnode, decide_eq_true h4, decide_eq_true h5]; first | (exfalso; omega) | simp [*], ?_⟩
                refine ⟨⟨Le.refl _, Le.refl _, ⟨rfl, rfl⟩, Le.refl _, le_of_eq ?_, trivial⟩, ⟨⟨rfl, LeL.refl _⟩, trivial⟩, List.Sublist.refl _⟩
                show AV.i _ = AV.i _
                rw [h5]
              · simp only [List.length_map] at h5
                exact bad (by rw [hnode, decide_eq_false h5]; simp)
            · simp only [List.length_map] at h4
              exact bad (by rw [hnode, decide_eq_false h4]; simp)
          · refine ifB_dec (fun h3 => ?_) (fun h3 => ?_)
            · have h3' : l.name = [] := h3
              refine ifB_dec (fun h4 => ?_) (fun h4 => ?_)
              · simp only [List.length_map] at h4
                refine ifB_dec (fun h5 => ?_) (fun h5 => ?_)
                · simp only [List.length_map] at h5
                  refine ⟨(), by rw [hnode, decide_eq_true h4, decide_eq_true h5]; first | (exfalso; omega) | simp [*], ?_⟩
                  refine ⟨⟨Le.refl _, Le.refl _, ⟨rfl, rfl⟩, Le.refl _, le_of_eq ?_, trivial⟩, ⟨⟨rfl, LeL.refl _⟩, trivial⟩, List.Sublist.refl _⟩
                  show AV.i _ = AV.i _
                  rw [h5]
                · simp only [List.length_map] at h5
                  exact bad (by rw [hnode, decide_eq_false h5]; simp)
              · simp only [List.length_map] at h4
                exact bad (by rw [hnode, decide_eq_false h4]; simp)
            · exact bad (by rw [hnode, decide_eq_false (show ¬ l.name = [] from h3)]; simp [k3])
        · exact bad (by rw [hnode, decide_eq_false h2]; simp [k1])
    have hnok := hI
    clear hI
    have hfit2 : tmFit n l vars = tmFitL n l.kind l.args 0 vars := by rw [hfit, hnok, hls]; rfl
    refine sem_join (esc := fun _ => false) tab_ok mixed (X := Unit) (fun q => ⟨[(6, .g (.b false))], [], H⟩) (fun q => tmFitL n l.kind l.args 0 vars = true) ?_ (fun q hI => ?_)
    · refine ⟨Nat, fun j => ⟨[(1, .g (.i n)), (2, .g (.i vars)), (3, .lp 3 0), (6, .g (.b false)), (8, .g (.i l.args.length)), (10, .g (.i j))], [(3, (tmX l).cells)], H⟩, fun j => j ≤ l.args.length ∧ tmFitL n l.kind l.args 0 vars = tmFitL n l.kind (l.args.drop j) j vars, fun j => l.args.length - j, ⟨0, ⟨Nat.zero_le _, rfl⟩, ?_⟩, ?_⟩
      · (constructor <;> repeat' (first | exact trivial | exact ⟨rfl, rfl⟩ | exact ⟨rfl, LeL.refl _⟩ | exact Le.refl _ | exact List.Sublist.refl _ | (show Le (AV.i _) (AV.i _); rw [List.length_map]; exact Le.refl _) | refine And.intro ?_ ?_))
      · rintro j ⟨hj, hinv⟩
        refine ifB_dec (fun h1 => ?_) (fun h1 => ?_)
        · have hlt : j < l.args.length := by omega
          have hmem := Tm.nodesL_mem (List.getElem_mem hlt)
          rw [tmFitL_at hlt] at hinv
          by_cases h2 : tmBind l.kind j = true
          · rw [if_pos h2] at hinv
            refine ⟨_, LeL.refl _, (binds_con l.kind j).yes h2 _ _ ?_⟩
            intro hz1 hz2; clear hz1 hz2
            refine ⟨in64_of (by first | omega | (dsimp only; omega)) (by first | omega | (dsimp only; omega)), ?_⟩
            refine ⟨j, rfl, _, tmAt' hlt, ?_⟩
            by_cases h3 : tmFit n l.args[j] (vars + 1) = true
            · refine ⟨_, LeL.refl _, (ih l.args[j] (vars + 1) (by omega) (by omega) (by omega)).yes h3 _ _ ?_⟩
              intro hz1 hz2; clear hz1 hz2
              refine ⟨in64_of (by first | omega | (dsimp only; omega)) (by first | omega | (dsimp only; omega)), ?_⟩
              refine ⟨j + 1, ⟨by omega, by rw [hinv, h3]; rfl⟩, by (try dsimp only); omega, ?_⟩
              (constructor <;> repeat' (first | exact trivial | exact ⟨rfl, rfl⟩ | exact ⟨rfl, LeL.refl _⟩ | exact Le.refl _ | exact List.Sublist.refl _ | (show Le (AV.i _) (AV.i _); rw [List.length_map]; exact Le.refl _) | refine And.intro ?_ ?_))
            · refine ⟨_, LeL.refl _, (ih l.args[j] (vars + 1) (by omega) (by omega) (by omega)).no h3 _ _ ?_⟩
              intro hz1 hz2; clear hz1 hz2
              exact fin _ (by rw [hfit2, hinv, ntrue h3]; rfl)
          · rw [if_neg h2] at hinv
            refine ⟨_, LeL.refl _, (binds_con l.kind j).no h2 _ _ ?_⟩
            intro hz1 hz2; clear hz1 hz2
            refine ⟨j, rfl, _, tmAt' hlt, ?_⟩
            by_cases h3 : tmFit n l.args[j] (vars) = true
            · refine ⟨_, LeL.refl _, (ih l.args[j] (vars) (by omega) (by omega) (by omega)).yes h3 _ _ ?_⟩
              intro hz1 hz2; clear hz1 hz2
              refine ⟨in64_of (by first | omega | (dsimp only; omega)) (by first | omega | (dsimp only; omega)), ?_⟩
              refine ⟨j + 1, ⟨by omega, by rw [hinv, h3]; rfl⟩, by (try dsimp only); omega, ?_⟩
              (constructor <;> repeat' (first | exact trivial | exact ⟨rfl, rfl⟩ | exact ⟨rfl, LeL.refl _⟩ | exact Le.refl _ | exact List.Sublist.refl _ | (show Le (AV.i _) (AV.i _); rw [List.length_map]; exact Le.refl _) | refine And.intro ?_ ?_))
            · refine ⟨_, LeL.refl _, (ih l.args[j] (vars) (by omega) (by omega) (by omega)).no h3 _ _ ?_⟩
              intro hz1 hz2; clear hz1 hz2
              exact fin _ (by rw [hfit2, hinv, ntrue h3]; rfl)
        · have hj' : j = l.args.length := by omega
          rw [hj', List.drop_length] at hinv
          refine ⟨(), by rw [hinv]; rfl, ?_⟩
          (constructor <;> repeat' (first | exact trivial | exact ⟨rfl, rfl⟩ | exact ⟨rfl, LeL.refl _⟩ | exact Le.refl _ | exact List.Sublist.refl _ | (show Le (AV.i _) (AV.i _); rw [List.length_map]; exact Le.refl _) | refine And.intro ?_ ?_))
    refine sem_of (esc := fun _ => false) tab_ok mixed ?_
    exact fin _ (by rw [hfit2, hI])
set_option maxRecDepth 100000 in
theorem ref04Right_con (n vars : Int) (l : Tm) : Ans Tryz.prog 52 [tmX l, .i n, .i vars] (.b (tmRight n vars l)) := by
  intro H Q hq
  refine con_of_awp (esc := fun _ => false) tab_ok mixed Tryz.func52 rfl (ent Tryz.func52 (by kernel_rfl) rfl) (by kernel_rfl) ?_
  intro hw hn
  have fin : ∀ q : Bool, q = tmRight n vars l → ∃ r H', Le (.b q) r ∧ List.Sublist H' H ∧ Q r H' := fun q h => ⟨_, H, ret_b h, List.Sublist.refl _, hq⟩
  refine ifB_dec (fun h1 => ?_) (fun h1 => ?_)
  rotate_left
  · exact fin _ (by unfold tmRight; simp [h1])
  refine ifB_dec (fun h2 => ?_) (fun h2 => ?_)
  rotate_left
  · exact fin _ (by unfold tmRight; simp [h2])
  refine ifB_dec (fun h3 => ?_) (fun h3 => ?_)
  rotate_left
  · exact fin _ (by unfold tmRight; simp [h3])
  refine ⟨_, LeL.refl _, ref04Nodes_con 2000 (by decide) _ l (Nat.le_refl _) _ _ ?_⟩
  intro hz1 hz2; clear hz1 hz2
  refine ifB_dec (fun h4 => ?_) (fun h4 => ?_)
  rotate_left
  · exact fin _ (by unfold tmRight; rw [decide_eq_false (show ¬ l.nodes ≤ 2000 by omega)]; simp)
  have hnod : l.nodes ≤ 2000 := by omega
  refine ⟨_, LeL.refl _, ref04right_con n _ l (min vars 1125899906842624) (Nat.le_refl _) (by omega) (by omega) _ _ ?_⟩
  intro hz1 hz2; clear hz1 hz2
  exact fin _ (by unfold tmRight; simp [h1, h2, h3, hnod])
end Go.Proofs.YtahdkhklngjmoaaGreatDoor

/-
  The reference's Formed. No condition.
-/
namespace Go.Proofs.YtahdkhklngjmoaaGreatDoor
open Go.RowKit

theorem any_take_step {α : Type} {p : α → Bool} {xs : List α} {k : Nat} (h : k < xs.length) (h1 : (xs.take k).any p = false) (h2 : p xs[k] = false) : (xs.take (k + 1)).any p = false := by
  rw [List.take_succ_eq_append_getElem h, List.any_append, h1]
  simp [h2]

end Go.Proofs.YtahdkhklngjmoaaGreatDoor

/-
  The references' copies of levels and terms. No condition.
-/
namespace Go.Proofs.YtahdkhklngjmoaaGreatDoor
open Go.RowKit

end Go.Proofs.YtahdkhklngjmoaaGreatDoor

/-
  The references' levels put in. No condition.
-/
namespace Go.Proofs.YtahdkhklngjmoaaGreatDoor
open Go.RowKit

set_option maxRecDepth 100000 in
theorem ref04Any_con (t : Tm) (n : Int) : Ans Tryz.prog 43 [tmX t, .i n] (.b (tmRight n 1125899906842624 t)) := by
  intro H Q hq
  refine con_of_awp (esc := fun _ => false) tab_ok mixed Tryz.func43 rfl (ent Tryz.func43 (by kernel_rfl) rfl) (by kernel_rfl) ?_
  intro hw hn
  refine ⟨_, LeL.refl _, ref04Right_con n 1125899906842624 t _ _ ?_⟩
  intro hz1 hz2; clear hz1 hz2
  exact ⟨_, H, Le.refl _, List.Sublist.refl _, hq⟩
end Go.Proofs.YtahdkhklngjmoaaGreatDoor

/-
  A level, a term at its own parameters is itself; an entry made of a declaration is right (plain laws of law 11). No condition.
-/
namespace Go.Proofs.YtahdkhklngjmoaaGreatDoor
open Go.RowKit

theorem lvNode_param {n m : Int} {len : Nat} (h : lvNode n 2 m len = true) : 0 ≤ m ∧ m < n ∧ len = 0 := by
  simp only [lvNode, show ¬ (2 : Int) = 1 by decide, if_false, if_true, Bool.and_eq_true, decide_eq_true_eq] at h
  exact ⟨h.1.1, h.1.2, h.2⟩
theorem tmNode_mono {v w k m : Int} {nm : List UInt8} {ls xs : Nat} (hv : v ≤ w) (h : tmNode v k m nm ls xs = true) : tmNode w k m nm ls xs = true := by
  unfold tmNode at *
  split
  · rename_i hk
    rw [if_pos hk] at h
    simp only [Bool.and_eq_true, decide_eq_true_eq] at h ⊢
    exact ⟨⟨⟨⟨h.1.1.1.1, by omega⟩, h.1.1.2⟩, h.1.2⟩, h.2⟩
  · rename_i hk
    rwa [if_neg hk] at h
mutual
theorem tmFit_mono (n : Int) : ∀ (t : Tm) (v w : Int), v ≤ w → tmFit n t v = true → tmFit n t w = true
  | .mk k m nm ls xs, v, w, hv, h => by
    rw [tmFit, Bool.and_eq_true, Bool.and_eq_true] at h ⊢
    exact ⟨⟨tmNode_mono hv h.1.1, h.1.2⟩, tmFitL_mono n k xs 0 v w hv h.2⟩
theorem tmFitL_mono (n k : Int) : ∀ (ts : List Tm) (i : Nat) (v w : Int), v ≤ w → tmFitL n k ts i v = true → tmFitL n k ts i w = true
  | [], _, _, _, _, _ => rfl
  | t :: ts, i, v, w, hv, h => by
    rw [tmFitL, Bool.and_eq_true] at h ⊢
    refine ⟨tmFit_mono n t _ _ ?_ h.1, tmFitL_mono n k ts (i + 1) v w hv h.2⟩
    split <;> omega
end
/-! entries of declarations -/
end Go.Proofs.YtahdkhklngjmoaaGreatDoor

/-
  decl.Clone, whose new memory may turn later: term's fresh, App of nothing, slices.Clone. No condition.
-/
namespace Go.Proofs.YtahdkhklngjmoaaGreatDoor
open Go.RowKit

theorem flat_len {size : Nat} : ∀ {xs : List AV}, wide size xs → (xs.flatMap AV.cells).length = xs.length * size
  | [], _ => by simp
  | x :: xs, h => by
    have h1 := h.2 x (by simp)
    have h2 : wide size xs := ⟨fun hs => (by have := h.1 hs; cases this), fun y hy => h.2 y (List.mem_cons_of_mem _ hy)⟩
    rw [List.flatMap_cons, List.length_append, h1, flat_len h2, List.length_cons, Nat.add_mul, Nat.one_mul, Nat.add_comm]
theorem wide_tms (ts : List Tm) : wide 5 (ts.map tmA) := ⟨fun h => (by cases h), fun y hy => by
  obtain ⟨t, _, rfl⟩ := List.mem_map.1 hy
  rw [tmA_eq]
  rfl⟩
/-- what stands in memory that may turn -/
structure TurnOk (size n : Nat) (xs : List AV) (H : Heap) (b cap : Nat) (cs : List AV) : Prop where
  len : xs.length = n
  out : b ∉ H.keys
  le : n ≤ cap
  max : cap ≤ maxLen
  room : cap * size ≤ cs.length
  here : cs.take (n * size) = xs.flatMap AV.cells
theorem TurnOk.first {size : Nat} {y : AV} {H : Heap} {b cap : Nat} {rest : List AV} (hy : y.cells.length = size) (h0 : b ∉ H.keys) (h1 : 0 + 1 ≤ cap) (h2 : cap ≤ maxLen) (h3 : rest.length = (cap - (0 + 1)) * size) : TurnOk size 1 [y] H b cap (([] ++ [y]).flatMap AV.cells ++ rest) := by
  have e : (([] ++ [y]).flatMap AV.cells ++ rest) = y.cells ++ rest := by simp
  rw [e]
  refine ⟨rfl, h0, h1, h2, ?_, ?_⟩
  · obtain ⟨c, rfl⟩ : ∃ c, cap = c + 1 := ⟨cap - 1, by omega⟩
    rw [List.length_append, hy, h3, Nat.add_mul]
    simp
    omega
  · rw [Nat.one_mul, ← hy, List.take_left']
    · simp
    · rfl
theorem TurnOk.next {size n : Nat} {xs : List AV} {y : AV} {H : Heap} {b0 cap0 : Nat} {cs : List AV} (h : TurnOk size n xs H b0 cap0 cs) (hw : wide size xs) {b cap : Nat} {rest : List AV} (hy : y.cells.length = size) (k1 : b ∉ H.keys) (k2 : n + 1 ≤ cap) (k3 : cap ≤ maxLen) (k4 : cap * size ≤ (n + 1) * size + rest.length) :
    TurnOk size (n + 1) (xs ++ [y]) H b cap (cs.take (n * size) ++ [y].flatMap AV.cells ++ rest) := by
  have hl : (xs.flatMap AV.cells).length = n * size := by rw [flat_len hw, h.len]
  have hl1 : (([y] : List AV).flatMap AV.cells).length = size := by simp [hy]
  refine ⟨by simp [h.len], k1, k2, k3, ?_, ?_⟩
  · rw [List.length_append, List.length_append, h.here, hl, hl1, ← Nat.succ_mul]
    exact k4
  · rw [h.here, ← List.flatMap_append, List.take_left']
    rw [List.flatMap_append, List.length_append, hl, hl1, Nat.add_mul, Nat.one_mul]
theorem TurnOk.see {size n : Nat} {xs : List AV} {H : Heap} {b cap : Nat} {cs : List AV} (h : TurnOk size n xs H b cap cs) (hw : wide size xs) {M : Mem} (hat : atL M cs b 0) : LeM M (hs b n cap) (.sl .no size xs) := by
  have e : xs.flatMap AV.cells ++ cs.drop (n * size) = cs := by rw [← h.here, List.take_append_drop]
  rw [← e] at hat
  exact hs_ice hat h.len.symm h.le h.max hw
/-- an owned slice that may turn later -/
abbrev Mv := Option (Nat × Nat × List AV)
def mvV (size : Nat) (m : Mv) (n : Nat) : AV :=
  match m with
  | none => .sl .no size []
  | some (b, cap, _) => hs b n cap
def mvS (m : Mv) (n : Nat) : AV :=
  match m with
  | none => .sl .full 0 []
  | some (b, cap, _) => hs b n cap
def mvH (m : Mv) (H : Heap) : Heap :=
  match m with
  | none => H
  | some (b, _, cs) => (b, .cells cs) :: H
def MvOk (size n : Nat) (xs : List AV) (H : Heap) : Mv → Prop
  | none => n = 0 ∧ xs = []
  | some (b, cap, cs) => n ≠ 0 ∧ TurnOk size n xs H b cap cs
theorem mvS_le (size : Nat) (m : Mv) (n : Nat) : Le (mvS m n) (mvV size m n) := by
  cases m with
  | none => exact Le.nil _ _
  | some p => exact Le.refl _
theorem MvOk.see {size n : Nat} {xs : List AV} {H : Heap} {m : Mv} (h : MvOk size n xs H m) (hw : wide size xs) {M : Mem} (hat : ∀ b cs, (b, .cells cs) ∈ mvH m H → atL M cs b 0) : LeM M (mvV size m n) (.sl .no size xs) := by
  cases m with
  | none =>
    obtain ⟨_, rfl⟩ := h
    exact LeM.refl _
  | some p => exact h.2.see hw (hat _ _ (by simp [mvH]))
set_option maxRecDepth 100000 in
set_option maxHeartbeats 1000000 in
/-- the new memory of the parts may turn -/
theorem freshA_con (t : Tm) (hN1 : t.nodes ≤ 1000000) (H : Heap) (Q : AV → Heap → Prop) (hq : ∀ m : Mv, MvOk 5 t.args.length (t.args.map tmA) H m → Q (.agg [.i t.kind, .i t.n, .str t.name, .sl .no 3 (t.levels.map lvA), mvV 5 m t.args.length]) (mvH m H)) : Con Tryz.prog 68 [tmX t] H Q := by
  have hnd := t.nodes_eq
  have hll := lvLen_nodes t.levels
  have htl := tmLen_nodes t.args
  refine con_of_awp (esc := ([43].contains ·)) tab_ok mixed Tryz.func68 rfl (ent Tryz.func68 (by kernel_rfl) rfl) (by kernel_rfl) ?_
  intro hw hn
  clear hw hn
  refine ⟨Option Cap × Nat, fun p => ⟨[(1, .lp 1 0), (2, .lp 2 0), (3, .lp 3 0), (16, .g (.sl .no 3 (t.levels.map lvA))), (17, .g (.i t.levels.length)), (18, .g (.i p.2))], [(3, [.i t.kind, .i t.n, .str t.name, .sl (ownQ p.1) 3 ((t.levels.take p.2).map lvA), .sl .full 0 []]), (2, [.i 0, .i 0, .str [], .sl .full 0 [], .sl .full 0 []]), (1, (tmX t).cells)], bufH p.1 H⟩,
    fun p => p.2 ≤ t.levels.length, fun p => t.levels.length - p.2, ⟨(none, 0), Nat.zero_le _, ?_⟩, ?_⟩
  · refine ⟨⟨⟨rfl, rfl⟩, ⟨rfl, rfl⟩, ⟨rfl, rfl⟩, Le.refl _, le_of_eq ?_, Le.refl _, trivial⟩, ⟨⟨rfl, ⟨Le.refl _, Le.refl _, Le.refl _, Le.nil' _, Le.refl _, trivial⟩⟩, ⟨rfl, LeL.refl _⟩, ⟨rfl, LeL.refl _⟩, trivial⟩, List.Sublist.refl _⟩
    show AV.i _ = AV.i _
    rw [List.length_map]
  · rintro ⟨q, j⟩ hj
    simp only at hj
    refine ifB_dec (fun h1 => ?_) (fun h1 => ?_)
    · simp only at h1
      have hlt : j < t.levels.length := by omega
      have hmem := Lv.nodesL_mem (List.getElem_mem hlt)
      have hsn : (t.levels.take j).map lvA ++ [lvX t.levels[j]] = (t.levels.take (j + 1)).map lvA := by rw [List.take_succ_eq_append_getElem hlt, List.map_append, ← lvA_eq]; rfl
      have hnext : ∀ c' : Cap, Le (.sl (.own c') 3 ((t.levels.take j).map lvA ++ [lvX t.levels[j]])) (.sl (ownQ (some c')) 3 ((t.levels.take (j + 1)).map lvA)) := fun c' => by rw [hsn]; exact Le.refl _
      refine ⟨j, rfl, _, lvAt hlt, ?_⟩
      refine ⟨[0, 1, 2, 3, 4, 5, 6, 7, 8], [], by kernel_rfl, by simp, ?_⟩
      refine ⟨_, LeL.refl _, Max1_con _ t.levels[j] (by omega) _ _ ?_⟩
      intro hz1 hz2; clear hz1 hz2
      refine ⟨?_, ?_⟩
      · first | refine Or.inl ?_ | skip
        simp only [List.length_map, List.length_cons, List.length_nil]
        try simp only [List.length_take]
        show _ * (40 + 1) ≤ _
        omega
      refine own_of (q := q) (H0 := H) ?_ ?_ ?_ (fun c hc => ?_)
      · exact rfl
      · exact rfl
      · exact fun _ h => h
      refine ⟨in64_of (by first | omega | (dsimp only; omega)) (by first | omega | (dsimp only; omega)), ?_⟩
      exact ⟨(some c, j + 1), (by simp only; omega), by (try dsimp only); omega, ⟨⟨⟨rfl, rfl⟩, ⟨rfl, rfl⟩, ⟨rfl, rfl⟩, Le.refl _, Le.refl _, Le.refl _, trivial⟩, ⟨⟨rfl, ⟨Le.refl _, Le.refl _, Le.refl _, hnext c, Le.refl _, trivial⟩⟩, ⟨rfl, LeL.refl _⟩, ⟨rfl, LeL.refl _⟩, trivial⟩, List.Sublist.refl _⟩⟩
    · simp only at h1
      have hj' : t.levels.length = j := by omega
      subst hj'
      have hlv : Le (.sl (ownQ q) 3 ((t.levels.take t.levels.length).map lvA)) (.sl .no 3 (t.levels.map lvA)) := Le.trans (ownQ_le _ _ _) (le_of_eq (by rw [List.take_length]))
      refine ⟨Mv × Nat, fun p => ⟨[(2, .lp 2 0), (3, .lp 3 0), (32, .g (.sl .no 5 (t.args.map tmA))), (33, .g (.i t.args.length)), (34, .g (.i p.2))], [(3, [.i t.kind, .i t.n, .str t.name, .sl .no 3 (t.levels.map lvA), mvS p.1 p.2]), (2, [.i 0, .i 0, .str [], .sl .full 0 [], .sl .full 0 []]), (1, (tmX t).cells)], mvH p.1 H⟩,
        fun p => p.2 ≤ t.args.length ∧ MvOk 5 p.2 ((t.args.take p.2).map tmA) H p.1, fun p => t.args.length - p.2, ⟨(none, 0), ⟨Nat.zero_le _, ⟨rfl, rfl⟩⟩, ?_⟩, ?_⟩
      · refine ⟨⟨⟨rfl, rfl⟩, ⟨rfl, rfl⟩, Le.refl _, le_of_eq ?_, Le.refl _, trivial⟩, ⟨⟨rfl, ⟨Le.refl _, Le.refl _, Le.refl _, hlv, Le.refl _, trivial⟩⟩, ⟨rfl, LeL.refl _⟩, ⟨rfl, LeL.refl _⟩, trivial⟩, bufH_sub q _⟩
        show AV.i _ = AV.i _
        rw [List.length_map]
      · rintro ⟨m, j⟩ ⟨hj, hz⟩
        simp only at hj hz
        refine ifB_dec (fun h1 => ?_) (fun h1 => ?_)
        · simp only at h1
          have hlt : j < t.args.length := by omega
          have hmem := Tm.nodesL_mem (List.getElem_mem hlt)
          have hsn : (t.args.take j).map tmA ++ [tmX t.args[j]] = (t.args.take (j + 1)).map tmA := by rw [List.take_succ_eq_append_getElem hlt, List.map_append, ← tmA_eq]; rfl
          refine ⟨j, rfl, _, tmAt' hlt, ?_⟩
          refine ⟨[0, 1, 2, 3, 4, 5, 6, 7], [], by kernel_rfl, by simp, ?_⟩
          refine ⟨_, LeL.refl _, fresh_con _ t.args[j] (Nat.le_refl _) (by omega) _ _ ?_⟩
          intro hz1 hz2; clear hz1 hz2
          cases m with
          | none =>
            have hj0 : j = 0 := hz.1
            subst hj0
            refine ⟨(by (first | refine Or.inl ?_ | skip); show (0 + 1) * (80 + 1) ≤ _; omega), by simp, rfl, fun b cap rest k1 k2 k3 k4 => ?_⟩
            have hok : MvOk 5 1 ((t.args.take (0 + 1)).map tmA) H (some (b, cap, ([] ++ [tmX t.args[0]]).flatMap AV.cells ++ rest)) := by
              rw [← hsn]
              exact ⟨by decide, TurnOk.first rfl k1 k2 k3 k4⟩
            refine ⟨in64_of (by first | omega | (dsimp only; omega)) (by first | omega | (dsimp only; omega)), ?_⟩
            exact ⟨(some (b, cap, ([] ++ [tmX t.args[0]]).flatMap AV.cells ++ rest), 1), ⟨by simp only; omega, hok⟩, by (try dsimp only); omega, ⟨⟨⟨rfl, rfl⟩, ⟨rfl, rfl⟩, Le.refl _, Le.refl _, Le.refl _, trivial⟩, ⟨⟨rfl, ⟨Le.refl _, Le.refl _, Le.refl _, Le.refl _, Le.refl _, trivial⟩⟩, ⟨rfl, LeL.refl _⟩, ⟨rfl, LeL.refl _⟩, trivial⟩, List.Sublist.refl _⟩⟩
          | some p =>
            obtain ⟨b0, cap0, cs0⟩ := p
            obtain ⟨hj0, htk⟩ := hz
            refine ⟨?_, by simp, cs0, H, Heap.Rem.here, htk.le, htk.max, htk.room, fun b cap rest k1 k2 k3 k4 => ?_⟩
            · simp only [List.length_cons, List.length_nil]
              (first | refine Or.inl ?_ | skip)
              show _ * (80 + 1) ≤ _
              omega
            have hok : MvOk 5 (j + 1) ((t.args.take (j + 1)).map tmA) H (some (b, cap, cs0.take (j * 5) ++ [tmX t.args[j]].flatMap AV.cells ++ rest)) := by
              rw [← hsn]
              exact ⟨by omega, htk.next (wide_tms _) rfl k1 k2 k3 k4⟩
            refine ⟨in64_of (by first | omega | (dsimp only; omega)) (by first | omega | (dsimp only; omega)), ?_⟩
            exact ⟨(some (b, cap, cs0.take (j * 5) ++ [tmX t.args[j]].flatMap AV.cells ++ rest), j + 1), ⟨by simp only; omega, hok⟩, by (try dsimp only); omega, ⟨⟨⟨rfl, rfl⟩, ⟨rfl, rfl⟩, Le.refl _, Le.refl _, Le.refl _, trivial⟩, ⟨⟨rfl, ⟨Le.refl _, Le.refl _, Le.refl _, Le.refl _, Le.refl _, trivial⟩⟩, ⟨rfl, LeL.refl _⟩, ⟨rfl, LeL.refl _⟩, trivial⟩, List.Sublist.refl _⟩⟩
        · simp only at h1
          have hj' : t.args.length = j := by omega
          subst hj'
          rw [List.take_length] at hz
          have hfin : Le (.agg [.i t.kind, .i t.n, .str t.name, .sl .no 3 (t.levels.map lvA), mvS m t.args.length]) (.agg [.i t.kind, .i t.n, .str t.name, .sl .no 3 (t.levels.map lvA), mvV 5 m t.args.length]) := Le.agg ⟨Le.refl _, Le.refl _, Le.refl _, Le.refl _, mvS_le 5 m _, trivial⟩
          exact ⟨_, _, hfin, List.Sublist.refl _, hq m hz⟩
end Go.Proofs.YtahdkhklngjmoaaGreatDoor

/-
  ref04's Loose. No condition.
-/
namespace Go.Proofs.YtahdkhklngjmoaaGreatDoor
open Go.RowKit

mutual
/-- how many variables a term needs, in deep binders -/
def tmLoose : Tm → Int → Int
  | .mk k n _ _ xs, deep => if k = 1 then max (n - deep + 1) 0 else tmLooseL k xs 0 deep
def tmLooseL (k : Int) : List Tm → Nat → Int → Int
  | [], _, _ => 0
  | t :: ts, i, deep => max (tmLoose t (if tmBind k i = true then deep + 1 else deep)) (tmLooseL k ts (i + 1) deep)
end
theorem tmLoose_eq (t : Tm) (deep : Int) : tmLoose t deep = if t.kind = 1 then max (t.n - deep + 1) 0 else tmLooseL t.kind t.args 0 deep := by cases t; rfl
theorem tmLooseL_nonneg (k : Int) : ∀ (ts : List Tm) (i : Nat) (deep : Int), 0 ≤ tmLooseL k ts i deep
  | [], _, _ => by rw [tmLooseL]; exact Int.le_refl _
  | t :: ts, i, deep => by rw [tmLooseL]; have := tmLooseL_nonneg k ts (i + 1) deep; omega
theorem tmLooseL_at {k : Int} {ts : List Tm} {j : Nat} (h : j < ts.length) (deep : Int) : tmLooseL k (ts.drop j) j deep = max (tmLoose ts[j] (if tmBind k j = true then deep + 1 else deep)) (tmLooseL k (ts.drop (j + 1)) (j + 1) deep) := by
  rw [List.drop_eq_getElem_cons h, tmLooseL]
theorem tmFit_var {p vars : Int} {t : Tm} (h : tmFit p t vars = true) (h1 : t.kind = 1) : 0 ≤ t.n ∧ t.n < vars := by
  rw [tmFit_eq, Bool.and_eq_true, Bool.and_eq_true] at h
  have h2 := h.1.1
  unfold tmNode at h2
  rw [if_pos h1] at h2
  simp only [Bool.and_eq_true, decide_eq_true_eq] at h2
  omega
theorem tmFit_argL {p vars : Int} {t : Tm} (h : tmFit p t vars = true) : tmFitL p t.kind t.args 0 vars = true := by
  rw [tmFit_eq, Bool.and_eq_true] at h
  exact h.2

set_option maxRecDepth 100000 in
set_option maxHeartbeats 1000000 in
theorem ref04loose_con (p : Int) : ∀ (N : Nat) (l : Tm) (deep vars : Int), l.nodes ≤ N → tmFit p l vars = true → vars + N ≤ 4611686018427387904 → 0 ≤ deep → deep + N ≤ 4611686018427387904 → Ans Tryz.prog 44 [tmX l, .i deep] (.i (tmLoose l deep)) := by
  intro N
  induction N with
  | zero => intro l d v h; have := l.nodes_pos; omega
  | succ N ih =>
    intro l deep vars hN hfit hv hd0 hd1 H Q hq
    have hnd := l.nodes_eq
    have hl := tmLoose_eq l deep
    have hfl := tmFit_argL hfit
    refine con_of_awp (esc := fun _ => false) tab_ok mixed Tryz.func44 rfl (ent Tryz.func44 (by kernel_rfl) rfl) (by kernel_rfl) ?_
    intro hw hn
    have hlena := (hw (tmX l) (by simp)).targs
    clear hw hn
    refine ifB_dec (fun h1 => ?_) (fun h1 => ?_)
    · have hvn := tmFit_var hfit h1
      rw [if_pos h1] at hl
      refine ⟨in64_of (by first | omega | (dsimp only; omega)) (by first | omega | (dsimp only; omega)), ?_⟩
      refine ⟨in64_of (by first | omega | (dsimp only; omega)) (by first | omega | (dsimp only; omega)), ?_⟩
      exact ⟨_, H, ret_i hl.symm, List.Sublist.refl _, hq⟩
    · rw [if_neg h1] at hl
      refine ⟨Nat × Int, fun p => ⟨[(1, .g (.i deep)), (2, .lp 2 0), (4, .g (.i 0)), (5, .g (.i p.2)), (6, .g (.i p.1))], [(2, (tmX l).cells)], H⟩,
        fun q => q.1 ≤ l.args.length ∧ tmLooseL l.kind l.args 0 deep = max q.2 (tmLooseL l.kind (l.args.drop q.1) q.1 deep) ∧ tmFitL p l.kind (l.args.drop q.1) q.1 vars = true ∧ 0 ≤ q.2, fun q => l.args.length - q.1, ⟨(0, 0), ⟨Nat.zero_le _, ?_, hfl, Int.le_refl _⟩, ?_⟩, ?_⟩
      · have := tmLooseL_nonneg l.kind l.args 0 deep
        show _ = max 0 (tmLooseL l.kind l.args 0 deep)
        omega
      · (constructor <;> repeat' (first | exact trivial | exact ⟨rfl, rfl⟩ | exact ⟨rfl, LeL.refl _⟩ | exact Le.refl _ | exact List.Sublist.refl _ | (show Le (AV.i _) (AV.i _); rw [List.length_map]; exact Le.refl _) | refine And.intro ?_ ?_))
      · rintro ⟨j, out⟩ ⟨hj, hinv, hft, ho⟩
        simp only at hj hinv hft ho
        refine ifB_dec (fun h2 => ?_) (fun h2 => ?_)
        · simp only [List.length_map] at h2
          have hlt : j < l.args.length := by omega
          have hmem := Tm.nodesL_mem (List.getElem_mem hlt)
          rw [tmLooseL_at hlt] at hinv
          rw [tmFitL_at hlt, Bool.and_eq_true] at hft
          by_cases h3 : tmBind l.kind j = true
          · rw [if_pos h3] at hinv
            rw [if_pos h3] at hft
            refine ⟨_, LeL.refl _, (binds_con l.kind j).yes h3 _ _ ?_⟩
            intro hz1 hz2; clear hz1 hz2
            refine ⟨in64_of (by first | omega | (dsimp only; omega)) (by first | omega | (dsimp only; omega)), ?_⟩
            refine ⟨j, rfl, _, tmAt' hlt, ?_⟩
            refine ⟨_, LeL.refl _, ih l.args[j] (deep + 1) (vars + 1) (by omega) hft.1 (by omega) (by omega) (by omega) _ _ ?_⟩
            intro hz1 hz2; clear hz1 hz2
            refine ⟨in64_of (by first | omega | (dsimp only; omega)) (by first | omega | (dsimp only; omega)), ?_⟩
            refine ⟨(j + 1, max out (tmLoose l.args[j] (deep + 1))), ⟨by simp only; omega, ?_, hft.2, by simp only; omega⟩, by (try dsimp only); omega, ?_⟩
            · simp only
              rw [hinv]
              omega
            · (constructor <;> repeat' (first | exact trivial | exact ⟨rfl, rfl⟩ | exact ⟨rfl, LeL.refl _⟩ | exact Le.refl _ | exact List.Sublist.refl _ | (show Le (AV.i _) (AV.i _); rw [List.length_map]; exact Le.refl _) | refine And.intro ?_ ?_))
          · rw [if_neg h3] at hinv
            rw [if_neg h3] at hft
            refine ⟨_, LeL.refl _, (binds_con l.kind j).no h3 _ _ ?_⟩
            intro hz1 hz2; clear hz1 hz2
            refine ⟨j, rfl, _, tmAt' hlt, ?_⟩
            refine ⟨_, LeL.refl _, ih l.args[j] (deep) (vars) (by omega) hft.1 (by omega) (by omega) (by omega) _ _ ?_⟩
            intro hz1 hz2; clear hz1 hz2
            refine ⟨in64_of (by first | omega | (dsimp only; omega)) (by first | omega | (dsimp only; omega)), ?_⟩
            refine ⟨(j + 1, max out (tmLoose l.args[j] (deep))), ⟨by simp only; omega, ?_, hft.2, by simp only; omega⟩, by (try dsimp only); omega, ?_⟩
            · simp only
              rw [hinv]
              omega
            · (constructor <;> repeat' (first | exact trivial | exact ⟨rfl, rfl⟩ | exact ⟨rfl, LeL.refl _⟩ | exact Le.refl _ | exact List.Sublist.refl _ | (show Le (AV.i _) (AV.i _); rw [List.length_map]; exact Le.refl _) | refine And.intro ?_ ?_))
        · simp only [List.length_map] at h2
          have hj' : j = l.args.length := by omega
          rw [hj', List.drop_length, tmLooseL] at hinv
          exact ⟨_, H, ret_i (by rw [hl, hinv]; omega), List.Sublist.refl _, hq⟩
set_option maxRecDepth 100000 in
theorem ref04Loose_con (t : Tm) : Ans Tryz.prog 16 [tmX t] (.i (if tmRight 4 1125899906842624 t = true then tmLoose t 0 else 0)) := by
  intro H Q hq
  refine con_of_awp (esc := fun _ => false) tab_ok mixed Tryz.func16 rfl (ent Tryz.func16 (by kernel_rfl) rfl) (by kernel_rfl) ?_
  intro hw hn
  by_cases h1 : tmRight 4 1125899906842624 t = true
  · rw [if_pos h1] at hq
    have h2 := h1
    unfold tmRight at h2
    simp only [Bool.and_eq_true, decide_eq_true_eq] at h2
    refine ⟨_, LeL.refl _, (ref04Any_con t 4).yes h1 _ _ ?_⟩
    intro hz1 hz2; clear hz1 hz2
    refine ⟨_, LeL.refl _, ref04loose_con 4 _ t 0 _ (Nat.le_refl _) h2.2 (by omega) (by omega) (by omega) _ _ ?_⟩
    intro hz1 hz2; clear hz1 hz2
    exact ⟨_, H, Le.refl _, List.Sublist.refl _, hq⟩
  · rw [if_neg h1] at hq
    refine ⟨_, LeL.refl _, (ref04Any_con t 4).no h1 _ _ ?_⟩
    intro hz1 hz2; clear hz1 hz2
    exact ⟨_, H, Le.refl _, List.Sublist.refl _, hq⟩
end Go.Proofs.YtahdkhklngjmoaaGreatDoor

