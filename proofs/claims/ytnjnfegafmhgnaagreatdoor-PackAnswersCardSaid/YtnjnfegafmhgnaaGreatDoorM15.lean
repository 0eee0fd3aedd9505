/-
  Texts put together: R1, R2, R3, R4, R5, R6, H14. No condition.
-/
import Derived.Test.YtnjnfegafmhgnaaGreatDoorM13
import Derived.Test.YtnjnfegafmhgnaaGreatDoorM12
/-
  The references' name.Right, term.Right, Formed. No condition.
-/
namespace Go.Proofs.YtnjnfegafmhgnaaGreatDoor
open Go.RowKit

theorem u8_le (a b : UInt8) : (a ≤ b) ↔ ((a.toNat : Int) ≤ b.toNat) := by rw [UInt8.le_iff_toNat_le]; omega
set_option maxRecDepth 100000 in
theorem letter_con (c : UInt8) : Ans Tryz.prog 134 [byteV c] (.b (letB c)) := by
  intro H Q hq
  refine con_of_awp (esc := fun _ => false) tab_ok mixed Tryz.func134 rfl (ent Tryz.func134 (by kernel_rfl) rfl) (by kernel_rfl) ?_
  intro hw hn
  have fin : ∀ q : Bool, q = letB c → ∃ r H', Le (.b q) r ∧ List.Sublist H' H ∧ Q r H' := fun q h => ⟨_, H, ret_b h, List.Sublist.refl _, hq⟩
  have e1 : (97 ≤ c) ↔ ((97 : Int) ≤ c.toNat) := u8_le 97 c
  have e2 : (c ≤ 122) ↔ ((c.toNat : Int) ≤ 122) := u8_le c 122
  have e3 : (c = 95) ↔ ((c.toNat : Int) = 95) := ⟨fun h => by rw [h]; rfl, fun h => u8_eq (b := 95) h⟩
  have e : letB c = (decide ((97 : Int) ≤ c.toNat) && decide ((c.toNat : Int) ≤ 122) || decide ((c.toNat : Int) = 95)) := by
    unfold letB
    simp only [← e1, ← e2, ← e3]
    rfl
  refine ifB_dec (fun h1 => ?_) (fun h1 => ?_)
  · refine ifB_dec (fun h2 => ?_) (fun h2 => ?_)
    · exact fin _ (by rw [e]; simp [show (97 : Int) ≤ c.toNat from h1, show (c.toNat : Int) ≤ 122 from h2])
    · refine ifB_dec (fun h3 => ?_) (fun h3 => ?_)
      · exact fin _ (by rw [e]; simp [show (c.toNat : Int) = 95 from h3])
      · exact fin _ (by rw [e, decide_eq_false (show ¬ (c.toNat : Int) ≤ 122 from h2), decide_eq_false (show ¬ (c.toNat : Int) = 95 from h3)]; simp)
  · refine ifB_dec (fun h3 => ?_) (fun h3 => ?_)
    · exact fin _ (by rw [e]; simp [show (c.toNat : Int) = 95 from h3])
    · exact fin _ (by rw [e, decide_eq_false (show ¬ (97 : Int) ≤ c.toNat from h1), decide_eq_false (show ¬ (c.toNat : Int) = 95 from h3)]; simp)
set_option maxRecDepth 100000 in
theorem digit_con (c : UInt8) : Ans Tryz.prog 135 [byteV c] (.b (digB c)) := by
  intro H Q hq
  refine con_of_awp (esc := fun _ => false) tab_ok mixed Tryz.func135 rfl (ent Tryz.func135 (by kernel_rfl) rfl) (by kernel_rfl) ?_
  intro hw hn
  have fin : ∀ q : Bool, q = digB c → ∃ r H', Le (.b q) r ∧ List.Sublist H' H ∧ Q r H' := fun q h => ⟨_, H, ret_b h, List.Sublist.refl _, hq⟩
  have e1 : (48 ≤ c) ↔ ((48 : Int) ≤ c.toNat) := u8_le 48 c
  have e2 : (c ≤ 57) ↔ ((c.toNat : Int) ≤ 57) := u8_le c 57
  have e : digB c = (decide ((48 : Int) ≤ c.toNat) && decide ((c.toNat : Int) ≤ 57)) := by
    unfold digB
    simp only [← e1, ← e2]
  refine ifB_dec (fun h1 => ?_) (fun h1 => ?_)
  rotate_left
  · exact fin _ (by rw [e, decide_eq_false (show ¬ (48 : Int) ≤ c.toNat from h1)]; simp)
  refine ifB_dec (fun h2 => ?_) (fun h2 => ?_)
  rotate_left
  · exact fin _ (by rw [e, decide_eq_false (show ¬ (c.toNat : Int) ≤ 57 from h2)]; simp)
  exact fin _ (by rw [e, decide_eq_true (show (48 : Int) ≤ c.toNat from h1), decide_eq_true (show (c.toNat : Int) ≤ 57 from h2)]; rfl)
theorem nmGo_cons (first : Bool) (c : UInt8) (r : List UInt8) : nmGo first (c :: r) = if c == 46 then (if first then false else nmGo true r) else if letB c || (digB c && !first) then nmGo false r else false := rfl
set_option maxRecDepth 100000 in
theorem ref01Right_con (l : List UInt8) : Ans Tryz.prog 76 [.str l] (.b (nameOk l)) := by
  intro H Q hq
  refine con_of_awp (esc := fun _ => false) tab_ok mixed Tryz.func76 rfl (ent Tryz.func76 (by kernel_rfl) rfl) (by kernel_rfl) ?_
  intro hw hn
  have fin : ∀ q : Bool, q = nameOk l → ∃ r H', Le (.b q) r ∧ List.Sublist H' H ∧ Q r H' := fun q h => ⟨_, H, ret_b h, List.Sublist.refl _, hq⟩
  refine ifB_dec (fun h1 => ?_) (fun h1 => ?_)
  · exact fin _ (by rw [nameOk, decide_eq_false (show ¬ 1 ≤ l.length by omega)]; rfl)
  refine ifB_dec (fun h2 => ?_) (fun h2 => ?_)
  · exact fin _ (by rw [nameOk, decide_eq_false (show ¬ l.length ≤ 40 by omega)]; simp)
  have hok : nameOk l = nmGo true l := by rw [nameOk, decide_eq_true (show 1 ≤ l.length by omega), decide_eq_true (show l.length ≤ 40 by omega)]; rfl
  refine ⟨Nat × Bool, fun p => ⟨[(0, .g (.str l)), (2, .g (.b false)), (3, .g (.b p.2)), (4, .g (.i p.1))], [], H⟩, fun p => p.1 ≤ l.length ∧ nmGo true l = nmGo p.2 (l.drop p.1), fun p => l.length - p.1, ⟨(0, true), ⟨Nat.zero_le _, rfl⟩, ?_⟩, ?_⟩
  · (constructor <;> repeat' (first | exact trivial | exact ⟨rfl, rfl⟩ | exact ⟨rfl, LeL.refl _⟩ | exact Le.refl _ | exact List.Sublist.refl _ | (show Le (AV.i _) (AV.i _); rw [List.length_map]; exact Le.refl _) | refine And.intro ?_ ?_))
  · rintro ⟨k, first⟩ ⟨hk, hinv⟩
    simp only at hk hinv
    refine ifB_dec (fun h3 => ?_) (fun h3 => ?_)
    · simp only at h3
      have hlt : k < l.length := by omega
      rw [List.drop_eq_getElem_cons hlt, nmGo_cons] at hinv
      have hget : l[k]? = some l[k] := by simp [hlt]
      refine ⟨k, rfl, l[k], hget, ?_⟩
      refine ifB_dec (fun h4 => ?_) (fun h4 => ?_)
      · have hd : l[k] = 46 := u8_eq (b := 46) h4
        rw [if_pos (by rw [hd]; rfl)] at hinv
        cases first with
        | true => exact fin _ (by rw [hok, hinv]; rfl)
        | false =>
          refine ⟨in64_of (by first | omega | (dsimp only; omega)) (by first | omega | (dsimp only; omega)), ?_⟩
          refine ⟨(k + 1, true), ⟨by simp only; omega, by simpa using hinv⟩, by (try dsimp only); omega, ?_⟩
          (constructor <;> repeat' (first | exact trivial | exact ⟨rfl, rfl⟩ | exact ⟨rfl, LeL.refl _⟩ | exact Le.refl _ | exact List.Sublist.refl _ | (show Le (AV.i _) (AV.i _); rw [List.length_map]; exact Le.refl _) | refine And.intro ?_ ?_))
      · have hd : ¬ (l[k] == 46) = true := by
          rw [beq_iff_eq]
          exact fun h => h4 (by rw [h]; rfl)
        rw [if_neg hd] at hinv
        refine ⟨k, rfl, l[k], hget, ?_⟩
        by_cases h5 : letB l[k] = true
        · refine ⟨_, LeL.refl _, (letter_con l[k]).yes h5 _ _ ?_⟩
          intro hz1 hz2; clear hz1 hz2
          refine ⟨in64_of (by first | omega | (dsimp only; omega)) (by first | omega | (dsimp only; omega)), ?_⟩
          refine ⟨(k + 1, false), ⟨by simp only; omega, by rw [hinv, h5]; rfl⟩, by (try dsimp only); omega, ?_⟩
          (constructor <;> repeat' (first | exact trivial | exact ⟨rfl, rfl⟩ | exact ⟨rfl, LeL.refl _⟩ | exact Le.refl _ | exact List.Sublist.refl _ | (show Le (AV.i _) (AV.i _); rw [List.length_map]; exact Le.refl _) | refine And.intro ?_ ?_))
        · refine ⟨_, LeL.refl _, (letter_con l[k]).no h5 _ _ ?_⟩
          intro hz1 hz2; clear hz1 hz2
          refine ⟨k, rfl, l[k], hget, ?_⟩
          by_cases h6 : digB l[k] = true
          · refine ⟨_, LeL.refl _, (digit_con l[k]).yes h6 _ _ ?_⟩
            intro hz1 hz2; clear hz1 hz2
            cases first with
            | true => exact fin _ (by rw [hok, hinv, ntrue h5]; simp)
            | false =>
              refine ⟨in64_of (by first | omega | (dsimp only; omega)) (by first | omega | (dsimp only; omega)), ?_⟩
              refine ⟨(k + 1, false), ⟨by simp only; omega, by rw [hinv, h6]; simp⟩, by (try dsimp only); omega, ?_⟩
              (constructor <;> repeat' (first | exact trivial | exact ⟨rfl, rfl⟩ | exact ⟨rfl, LeL.refl _⟩ | exact Le.refl _ | exact List.Sublist.refl _ | (show Le (AV.i _) (AV.i _); rw [List.length_map]; exact Le.refl _) | refine And.intro ?_ ?_))
          · refine ⟨_, LeL.refl _, (digit_con l[k]).no h6 _ _ ?_⟩
            intro hz1 hz2; clear hz1 hz2
            exact fin _ (by rw [hok, hinv, ntrue h5, ntrue h6]; simp)
    · simp only at h3
      have hk' : k = l.length := by omega
      rw [hk', List.drop_length] at hinv
      exact fin _ (by rw [hok, hinv]; rfl)

set_option maxRecDepth 100000 in
theorem ref04Nodes_con (most : Nat) (hm : most ≤ 1099511627776) : ∀ (N : Nat) (l : Tm), l.nodes ≤ N → Ans Tryz.prog 52 [tmX l, .i most] (.i (min l.nodes (most + 1) : Nat)) := by
  intro N
  induction N with
  | zero => intro l h; have := l.nodes_pos; omega
  | succ N ih =>
    intro l hN H Q hq
    refine con_of_awp (esc := fun _ => false) tab_ok mixed Tryz.func52 rfl (ent Tryz.func52 (by kernel_rfl) rfl) (by kernel_rfl) ?_
    intro hw hn
    have hlena := (hw (tmX l) (by simp)).targs
    have hlenl := (hw (tmX l) (by simp)).tlevels
    have hnd := l.nodes_eq
    refine ⟨Nat × Int, fun p => ⟨[(1, .g (.i most)), (2, .lp 2 0), (4, .g (.i 0)), (5, .g (.i p.2)), (6, .g (.i p.1))], [(2, (tmX l).cells)], H⟩,
      fun p => p.1 ≤ l.levels.length ∧ CntRel most (1 + Lv.nodesL (l.levels.take p.1)) p.2, fun p => l.levels.length - p.1, ⟨(0, 1), ⟨Nat.zero_le _, by unfold CntRel; simp [Lv.nodesL]; omega⟩, ?_⟩, ?_⟩
    · (constructor <;> repeat' (first | exact trivial | exact ⟨rfl, rfl⟩ | exact ⟨rfl, LeL.refl _⟩ | exact Le.refl _ | exact List.Sublist.refl _ | (show Le (AV.i _) (AV.i _); rw [List.length_map]; exact Le.refl _) | refine And.intro ?_ ?_))
    · rintro ⟨k, m⟩ ⟨hk, hrel⟩
      simp only at hk hrel
      have hr := hrel
      unfold CntRel at hr
      have hle : Lv.nodesL (l.levels.take k) ≤ Lv.nodesL l.levels := nodesL_le _ _
      refine ifB_dec (fun h1 => ?_) (fun h1 => ?_)
      · have hlt : k < l.levels.length := by simpa using h1
        refine ifB_dec (fun h2 => ?_) (fun h2 => ?_)
        · refine ⟨k, rfl, _, lvAt hlt, ?_⟩
          refine ⟨_, LeL.refl _, LevelNodes_con most hm _ _ (Nat.le_refl _) _ _ ?_⟩
          intro hz1 hz2; clear hz1 hz2
          refine ⟨in64_of (by first | omega | (dsimp only; omega)) (by first | omega | (dsimp only; omega)), ?_⟩
          refine ⟨in64_of (by first | omega | (dsimp only; omega)) (by first | omega | (dsimp only; omega)), ?_⟩
          have hs := nodesL_snoc hlt
          refine ⟨(k + 1, m + (min l.levels[k].nodes (most + 1) : Nat)), ⟨by simp only; omega, by unfold CntRel at *; simp only; omega⟩, by dsimp only; omega, ?_⟩
          (constructor <;> repeat' (first | exact trivial | exact ⟨rfl, rfl⟩ | exact ⟨rfl, LeL.refl _⟩ | exact Le.refl _ | exact List.Sublist.refl _ | (show Le (AV.i _) (AV.i _); rw [List.length_map]; exact Le.refl _) | refine And.intro ?_ ?_))
        · refine ⟨Nat × Int, fun p => ⟨[(1, .g (.i most)), (2, .lp 2 0), (4, .g (.i 0)), (5, .g (.i p.2)), (7, .g (.i p.1))], [(2, (tmX l).cells)], H⟩,
            fun p => p.1 ≤ l.args.length ∧ CntRel most (1 + Lv.nodesL l.levels + Tm.nodesL (l.args.take p.1)) p.2, fun p => l.args.length - p.1, ⟨(0, m), ⟨Nat.zero_le _, by unfold CntRel; simp [Tm.nodesL]; omega⟩, ?_⟩, ?_⟩
          · (constructor <;> repeat' (first | exact trivial | exact ⟨rfl, rfl⟩ | exact ⟨rfl, LeL.refl _⟩ | exact Le.refl _ | exact List.Sublist.refl _ | (show Le (AV.i _) (AV.i _); rw [List.length_map]; exact Le.refl _) | refine And.intro ?_ ?_))
          · rintro ⟨j, m'⟩ ⟨hj, hrel'⟩
            simp only at hj hrel'
            have hr' := hrel'
            unfold CntRel at hr'
            have hle' : Tm.nodesL (l.args.take j) ≤ Tm.nodesL l.args := nodesTL_le _ _
            refine ifB_dec (fun h3 => ?_) (fun h3 => ?_)
            · have hlt' : j < l.args.length := by simpa using h3
              refine ifB_dec (fun h4 => ?_) (fun h4 => ?_)
              · refine ⟨j, rfl, _, tmAt' hlt', ?_⟩
                have hmem := Tm.nodesL_mem (List.getElem_mem hlt')
                refine ⟨_, LeL.refl _, ih _ (by omega) _ _ ?_⟩
                intro hz1 hz2; clear hz1 hz2
                refine ⟨in64_of (by first | omega | (dsimp only; omega)) (by first | omega | (dsimp only; omega)), ?_⟩
                refine ⟨in64_of (by first | omega | (dsimp only; omega)) (by first | omega | (dsimp only; omega)), ?_⟩
                have hs' := nodesTL_snoc hlt'
                refine ⟨(j + 1, m' + (min l.args[j].nodes (most + 1) : Nat)), ⟨by simp only; omega, by unfold CntRel at *; simp only; omega⟩, by dsimp only; omega, ?_⟩
                (constructor <;> repeat' (first | exact trivial | exact ⟨rfl, rfl⟩ | exact ⟨rfl, LeL.refl _⟩ | exact Le.refl _ | exact List.Sublist.refl _ | (show Le (AV.i _) (AV.i _); rw [List.length_map]; exact Le.refl _) | refine And.intro ?_ ?_))
              · refine ⟨in64_of (by first | omega | (dsimp only; omega)) (by first | omega | (dsimp only; omega)), ?_⟩
                exact ⟨_, H, ret_i (by omega), List.Sublist.refl _, hq⟩
            · have hj' : j = l.args.length := by
                have : ¬ j < l.args.length := by simpa using h3
                omega
              refine ⟨in64_of (by first | omega | (dsimp only; omega)) (by first | omega | (dsimp only; omega)), ?_⟩
              refine ⟨_, H, ret_i ?_, List.Sublist.refl _, hq⟩
              rw [hj', List.take_length] at hr'
              omega
      · have hk' : k = l.levels.length := by
          have : ¬ k < l.levels.length := by simpa using h1
          omega
        rw [hk', List.take_length] at hr
        refine ⟨Nat × Int, fun p => ⟨[(1, .g (.i most)), (2, .lp 2 0), (4, .g (.i 0)), (5, .g (.i p.2)), (7, .g (.i p.1))], [(2, (tmX l).cells)], H⟩,
          fun p => p.1 ≤ l.args.length ∧ CntRel most (1 + Lv.nodesL l.levels + Tm.nodesL (l.args.take p.1)) p.2, fun p => l.args.length - p.1, ⟨(0, m), ⟨Nat.zero_le _, by unfold CntRel; simp [Tm.nodesL]; omega⟩, ?_⟩, ?_⟩
        · (constructor <;> repeat' (first | exact trivial | exact ⟨rfl, rfl⟩ | exact ⟨rfl, LeL.refl _⟩ | exact Le.refl _ | exact List.Sublist.refl _ | (show Le (AV.i _) (AV.i _); rw [List.length_map]; exact Le.refl _) | refine And.intro ?_ ?_))
        · rintro ⟨j, m'⟩ ⟨hj, hrel'⟩
          simp only at hj hrel'
          have hr' := hrel'
          unfold CntRel at hr'
          have hle' : Tm.nodesL (l.args.take j) ≤ Tm.nodesL l.args := nodesTL_le _ _
          refine ifB_dec (fun h3 => ?_) (fun h3 => ?_)
          · have hlt' : j < l.args.length := by simpa using h3
            refine ifB_dec (fun h4 => ?_) (fun h4 => ?_)
            · refine ⟨j, rfl, _, tmAt' hlt', ?_⟩
              have hmem := Tm.nodesL_mem (List.getElem_mem hlt')
              refine ⟨_, LeL.refl _, ih _ (by omega) _ _ ?_⟩
              intro hz1 hz2; clear hz1 hz2
              refine ⟨in64_of (by first | omega | (dsimp only; omega)) (by first | omega | (dsimp only; omega)), ?_⟩
              refine ⟨in64_of (by first | omega | (dsimp only; omega)) (by first | omega | (dsimp only; omega)), ?_⟩
              have hs' := nodesTL_snoc hlt'
              refine ⟨(j + 1, m' + (min l.args[j].nodes (most + 1) : Nat)), ⟨by simp only; omega, by unfold CntRel at *; simp only; omega⟩, by dsimp only; omega, ?_⟩
              (constructor <;> repeat' (first | exact trivial | exact ⟨rfl, rfl⟩ | exact ⟨rfl, LeL.refl _⟩ | exact Le.refl _ | exact List.Sublist.refl _ | (show Le (AV.i _) (AV.i _); rw [List.length_map]; exact Le.refl _) | refine And.intro ?_ ?_))
            · refine ⟨in64_of (by first | omega | (dsimp only; omega)) (by first | omega | (dsimp only; omega)), ?_⟩
              exact ⟨_, H, ret_i (by omega), List.Sublist.refl _, hq⟩
          · have hj' : j = l.args.length := by
              have : ¬ j < l.args.length := by simpa using h3
              omega
            refine ⟨in64_of (by first | omega | (dsimp only; omega)) (by first | omega | (dsimp only; omega)), ?_⟩
            refine ⟨_, H, ret_i ?_, List.Sublist.refl _, hq⟩
            rw [hj', List.take_length] at hr'
            omega

set_option maxRecDepth 100000 in
theorem binds_con (k : Int) (i : Nat) : Ans Tryz.prog 137 [.i k, .i i] (.b (tmBind k i)) := by
  intro H Q hq
  refine con_of_awp (esc := fun _ => false) tab_ok mixed Tryz.func137 rfl (ent Tryz.func137 (by kernel_rfl) rfl) (by kernel_rfl) ?_
  intro hw hn
  have fin : ∀ q : Bool, q = tmBind k i → ∃ r H', Le (.b q) r ∧ List.Sublist H' H ∧ Q r H' := fun q h => ⟨_, H, ret_b h, List.Sublist.refl _, hq⟩
  refine ifB_dec (fun h5 => ?_) (fun h5 => ?_)
  · refine ifB_dec (fun h1 => ?_) (fun h1 => ?_)
    · exact fin _ (by have : i = 1 := (by omega); simp [tmBind, h5, this])
    · have hi : ¬ i = 1 := by omega
      refine ifB_dec (fun h7 => ?_) (fun h7 => ?_)
      · refine ifB_dec (fun h2 => ?_) (fun h2 => ?_)
        · exact fin _ (by have : i = 2 := (by omega); simp [tmBind, h7, this])
        · exact fin _ (by have : ¬ i = 2 := (by omega); simp [tmBind, h7, this])
      · exact fin _ (by simp [tmBind, *])
  · refine ifB_dec (fun h6 => ?_) (fun h6 => ?_)
    · refine ifB_dec (fun h1 => ?_) (fun h1 => ?_)
      · exact fin _ (by have : i = 1 := (by omega); simp [tmBind, h6, this])
      · have hi : ¬ i = 1 := by omega
        refine ifB_dec (fun h7 => ?_) (fun h7 => ?_)
        · refine ifB_dec (fun h2 => ?_) (fun h2 => ?_)
          · exact fin _ (by have : i = 2 := (by omega); simp [tmBind, h7, this])
          · exact fin _ (by have : ¬ i = 2 := (by omega); simp [tmBind, h7, this])
        · exact fin _ (by simp [tmBind, *])
    · refine ifB_dec (fun h7 => ?_) (fun h7 => ?_)
      · refine ifB_dec (fun h2 => ?_) (fun h2 => ?_)
        · exact fin _ (by have : i = 2 := (by omega); simp [tmBind, h7, this])
        · exact fin _ (by have : ¬ i = 2 := (by omega); simp [tmBind, h7, this])
      · exact fin _ (by simp [tmBind, *])
end Go.Proofs.YtnjnfegafmhgnaaGreatDoor

/-
  The references' term.Right, Formed. No condition.
-/
namespace Go.Proofs.YtnjnfegafmhgnaaGreatDoor
open Go.RowKit

theorem sem_use {P : Program} {N : Nat} {c : Code} {Q Q' : Exit → St → Prop} {s : St} (h : sem P N c Q s) (k : ∀ x s, Q x s → Q' x s) : sem P N c Q' s := fun hs B a w hc => wp_mono (h hs B a w hc) fun _ _ _ ⟨s', h1, h2⟩ => ⟨s', h1, k _ _ h2⟩
/-- what a term's kind asks of the node: how many parts, how many levels -/
def kindOk (vars k m : Int) (nm : List UInt8) (ls : Nat) : Int × Int × Bool :=
  if k = 1 then (0, 0, decide (0 ≤ m) && decide (m < vars))
  else if k = 2 then (0, 1, true)
  else if k = 3 then (0, ls, nameOk nm && decide (ls ≤ 4))
  else if k = 4 ∨ k = 5 ∨ k = 6 then (2, 0, true)
  else if k = 7 then (3, 0, true)
  else (0, 0, false)
theorem tmNode_kind (vars k m : Int) (nm : List UInt8) (ls xs : Nat) : tmNode vars k m nm ls xs = ((kindOk vars k m nm ls).2.2 && ((k = 1 || decide (m = 0)) && ((k = 3 || decide (nm = [])) && (decide ((ls : Int) = (kindOk vars k m nm ls).2.1) && decide ((xs : Int) = (kindOk vars k m nm ls).1))))) := by
  unfold tmNode kindOk
  by_cases h1 : k = 1
  · subst h1
    simp only [if_true]
    rw [Bool.eq_iff_iff]; simp; grind
  · by_cases h2 : k = 2
    · subst h2
      rw [Bool.eq_iff_iff]; simp; grind
    · by_cases h3 : k = 3
      · subst h3
        rw [Bool.eq_iff_iff]; simp; grind
      · by_cases h4 : k = 4 ∨ k = 5 ∨ k = 6
        · simp only [h1, h2, h3, h4, if_true, if_false]
          rw [Bool.eq_iff_iff]; simp; grind
        · by_cases h7 : k = 7
          · subst h7
            rw [Bool.eq_iff_iff]; simp; grind
          · simp [h1, h2, h3, h4, h7]

set_option maxRecDepth 100000 in
set_option maxHeartbeats 1000000 in
theorem ref04right_con (n : Int) : ∀ (N : Nat) (l : Tm) (vars : Int), l.nodes ≤ N → -1 ≤ vars → vars + N ≤ 4611686018427387904 → Ans Tryz.prog 136 [tmX l, .i n, .i vars] (.b (tmFit n l vars)) := by
  intro N
  induction N with
  | zero => intro l v h; have := l.nodes_pos; omega
  | succ N ih =>
    intro l vars hN hv0 hv1 H Q hq
    have hnd := l.nodes_eq
    have hfit := tmFit_eq n l vars
    have fin : ∀ q : Bool, q = tmFit n l vars → ∃ r H', Le (.b q) r ∧ List.Sublist H' H ∧ Q r H' := fun q h => ⟨_, H, ret_b h, List.Sublist.refl _, hq⟩
    have bad : tmNode vars l.kind l.n l.name l.levels.length l.args.length = false → ∃ r H', Le (.b false) r ∧ List.Sublist H' H ∧ Q r H' := fun h => fin _ (by rw [hfit, h]; rfl)
    refine con_of_sem tab_ok Tryz.func136 rfl (ent Tryz.func136 (by kernel_rfl) rfl) (by kernel_rfl) ?_
    intro hw hn
    have hlena := (hw (tmX l) (by simp)).targs
    have hlenl := (hw (tmX l) (by simp)).tlevels
    clear hw hn
    refine sem_seq (esc := fun _ => false) tab_ok mixed ?_
    refine sem_join (esc := fun _ => false) tab_ok mixed (X := Unit) (fun q => ⟨[(1, .g (.i n)), (2, .g (.i vars)), (3, .lp 3 0), (6, .g (.b false))], [(3, (tmX l).cells)], H⟩) (fun q => lvRightL n l.levels = true) ?_ (fun q hI => ?_)
    · refine ⟨Nat, fun j => ⟨[(1, .g (.i n)), (2, .g (.i vars)), (3, .lp 3 0), (6, .g (.b false)), (7, .g (.i j))], [(3, (tmX l).cells)], H⟩, fun j => j ≤ l.levels.length ∧ (l.levels.take j).all (lvRight n) = true, fun j => l.levels.length - j, ⟨0, ⟨Nat.zero_le _, rfl⟩, ?_⟩, ?_⟩
      · (constructor <;> repeat' (first | exact trivial | exact ⟨rfl, rfl⟩ | exact ⟨rfl, LeL.refl _⟩ | exact Le.refl _ | exact List.Sublist.refl _ | (show Le (AV.i _) (AV.i _); rw [List.length_map]; exact Le.refl _) | refine And.intro ?_ ?_))
      · rintro j ⟨hj, hall⟩
        refine ifB_dec (fun h1 => ?_) (fun h1 => ?_)
        · have hlt : j < l.levels.length := by simpa using h1
          refine ⟨j, rfl, _, lvAt hlt, ?_⟩
          by_cases h2 : lvRight n l.levels[j] = true
          · refine ⟨_, LeL.refl _, (ref03Right_con n _).yes h2 _ _ ?_⟩
            intro hz1 hz2; clear hz1 hz2
            refine ⟨in64_of (by first | omega | (dsimp only; omega)) (by first | omega | (dsimp only; omega)), ?_⟩
            refine ⟨j + 1, ⟨by omega, all_take hlt hall h2⟩, by (try dsimp only); omega, ?_⟩
            (constructor <;> repeat' (first | exact trivial | exact ⟨rfl, rfl⟩ | exact ⟨rfl, LeL.refl _⟩ | exact Le.refl _ | exact List.Sublist.refl _ | (show Le (AV.i _) (AV.i _); rw [List.length_map]; exact Le.refl _) | refine And.intro ?_ ?_))
          · refine ⟨_, LeL.refl _, (ref03Right_con n _).no h2 _ _ ?_⟩
            intro hz1 hz2; clear hz1 hz2
            exact fin _ (by rw [hfit, lvRightL, all_no hlt (ntrue h2)]; simp)
        · have hj' : j = l.levels.length := by
            have : ¬ j < l.levels.length := by simpa using h1
            omega
          rw [hj', List.take_length] at hall
          refine ⟨(), hall, ?_⟩
          (constructor <;> repeat' (first | exact trivial | exact ⟨rfl, rfl⟩ | exact ⟨rfl, LeL.refl _⟩ | exact Le.refl _ | exact List.Sublist.refl _ | (show Le (AV.i _) (AV.i _); rw [List.length_map]; exact Le.refl _) | refine And.intro ?_ ?_))
    have hls := hI
    clear hI
    refine sem_seq (esc := fun _ => false) tab_ok mixed ?_
    refine sem_seq (esc := fun _ => false) tab_ok mixed ?_
    refine sem_join (esc := fun _ => false) tab_ok mixed (X := Int × Int) (fun q => ⟨[(1, .g (.i n)), (2, .g (.i vars)), (3, .lp 3 0), (6, .g (.b false)), (8, .g (.i q.1)), (9, .g (.i q.2))], [(3, (tmX l).cells)], H⟩) (fun q => (1 ≤ l.kind ∧ l.kind ≤ 7) ∧ kindOk vars l.kind l.n l.name l.levels.length = (q.1, q.2, true)) ?_ (fun q hI => ?_)
    · have badk : (kindOk vars l.kind l.n l.name l.levels.length).2.2 = false → ∃ r H', Le (.b false) r ∧ List.Sublist H' H ∧ Q r H' := fun h => bad (by rw [tmNode_kind, h]; rfl)
      refine ifB_dec (fun k1 => ?_) (fun k1 => ?_)
      · refine ifB_dec (fun h2 => ?_) (fun h2 => ?_)
        · exact badk (by rw [kindOk, if_pos k1, decide_eq_false (show ¬ 0 ≤ l.n by omega)]; rfl)
        refine ifB_dec (fun h3 => ?_) (fun h3 => ?_)
        · exact badk (by rw [kindOk, if_pos k1, decide_eq_false (show ¬ l.n < vars by omega)]; simp)
        refine ⟨(0, 0), ⟨by omega, by rw [kindOk, if_pos k1, decide_eq_true (show 0 ≤ l.n by omega), decide_eq_true (show l.n < vars by omega)]; rfl⟩, ?_⟩
        (constructor <;> repeat' (first | exact trivial | exact ⟨rfl, rfl⟩ | exact ⟨rfl, LeL.refl _⟩ | exact Le.refl _ | exact List.Sublist.refl _ | (show Le (AV.i _) (AV.i _); rw [List.length_map]; exact Le.refl _) | refine And.intro ?_ ?_))
      refine ifB_dec (fun k2 => ?_) (fun k2 => ?_)
      · refine ⟨(0, 1), ⟨by omega, by rw [kindOk, if_neg k1, if_pos k2]⟩, ?_⟩
        (constructor <;> repeat' (first | exact trivial | exact ⟨rfl, rfl⟩ | exact ⟨rfl, LeL.refl _⟩ | exact Le.refl _ | exact List.Sublist.refl _ | (show Le (AV.i _) (AV.i _); rw [List.length_map]; exact Le.refl _) | refine And.intro ?_ ?_))
      refine ifB_dec (fun k3 => ?_) (fun k3 => ?_)
      · by_cases h4 : nameOk l.name = true
        rotate_left
        · refine ⟨_, LeL.refl _, (ref01Right_con l.name).no h4 _ _ ?_⟩
          intro hz1 hz2; clear hz1 hz2
          exact badk (by rw [kindOk, if_neg k1, if_neg k2, if_pos k3, ntrue h4]; rfl)
        refine ⟨_, LeL.refl _, (ref01Right_con l.name).yes h4 _ _ ?_⟩
        intro hz1 hz2; clear hz1 hz2
        refine ifB_dec (fun h5 => ?_) (fun h5 => ?_)
        · simp only [List.length_map] at h5
          exact badk (by rw [kindOk, if_neg k1, if_neg k2, if_pos k3, h4, decide_eq_false (show ¬ l.levels.length ≤ 4 by omega)]; rfl)
        simp only [List.length_map] at h5
        refine ⟨(0, l.levels.length), ⟨by omega, by rw [kindOk, if_neg k1, if_neg k2, if_pos k3, h4, decide_eq_true (show l.levels.length ≤ 4 by omega)]; rfl⟩, ?_⟩
        (constructor <;> repeat' (first | exact trivial | exact ⟨rfl, rfl⟩ | exact ⟨rfl, LeL.refl _⟩ | exact Le.refl _ | exact List.Sublist.refl _ | (show Le (AV.i _) (AV.i _); rw [List.length_map]; exact Le.refl _) | refine And.intro ?_ ?_))
      refine ifB_dec (fun k4 => ?_) (fun k4 => ?_)
      · refine ⟨(2, 0), ⟨by omega, by rw [kindOk, if_neg k1, if_neg k2, if_neg k3, if_pos (by omega)]⟩, ?_⟩
        (constructor <;> repeat' (first | exact trivial | exact ⟨rfl, rfl⟩ | exact ⟨rfl, LeL.refl _⟩ | exact Le.refl _ | exact List.Sublist.refl _ | (show Le (AV.i _) (AV.i _); rw [List.length_map]; exact Le.refl _) | refine And.intro ?_ ?_))
      refine ifB_dec (fun k5 => ?_) (fun k5 => ?_)
      · refine ⟨(2, 0), ⟨by omega, by rw [kindOk, if_neg k1, if_neg k2, if_neg k3, if_pos (by omega)]⟩, ?_⟩
        (constructor <;> repeat' (first | exact trivial | exact ⟨rfl, rfl⟩ | exact ⟨rfl, LeL.refl _⟩ | exact Le.refl _ | exact List.Sublist.refl _ | (show Le (AV.i _) (AV.i _); rw [List.length_map]; exact Le.refl _) | refine And.intro ?_ ?_))
      refine ifB_dec (fun k6 => ?_) (fun k6 => ?_)
      · refine ⟨(2, 0), ⟨by omega, by rw [kindOk, if_neg k1, if_neg k2, if_neg k3, if_pos (by omega)]⟩, ?_⟩
        (constructor <;> repeat' (first | exact trivial | exact ⟨rfl, rfl⟩ | exact ⟨rfl, LeL.refl _⟩ | exact Le.refl _ | exact List.Sublist.refl _ | (show Le (AV.i _) (AV.i _); rw [List.length_map]; exact Le.refl _) | refine And.intro ?_ ?_))
      refine ifB_dec (fun k7 => ?_) (fun k7 => ?_)
      · refine ⟨(3, 0), ⟨by omega, by rw [kindOk, if_neg k1, if_neg k2, if_neg k3, if_neg (by omega), if_pos k7]⟩, ?_⟩
        (constructor <;> repeat' (first | exact trivial | exact ⟨rfl, rfl⟩ | exact ⟨rfl, LeL.refl _⟩ | exact Le.refl _ | exact List.Sublist.refl _ | (show Le (AV.i _) (AV.i _); rw [List.length_map]; exact Le.refl _) | refine And.intro ?_ ?_))
      exact badk (by rw [kindOk, if_neg k1, if_neg k2, if_neg k3, if_neg (by omega), if_neg k7])
    obtain ⟨qa, ql⟩ := q
    obtain ⟨hk, hko⟩ := hI
    simp only at hko
    have hnode : tmNode vars l.kind l.n l.name l.levels.length l.args.length = ((l.kind = 1 || decide (l.n = 0)) && ((l.kind = 3 || decide (l.name = [])) && (decide ((l.levels.length : Int) = ql) && decide ((l.args.length : Int) = qa)))) := by rw [tmNode_kind, hko]; rfl
    refine sem_join (esc := fun _ => false) tab_ok mixed (X := Unit) (fun q => ⟨[(1, .g (.i n)), (2, .g (.i vars)), (3, .lp 3 0), (6, .g (.b false)), (8, .g (.i l.args.length))], [(3, (tmX l).cells)], H⟩) (fun q => tmNode vars l.kind l.n l.name l.levels.length l.args.length = true) ?_ (fun q hI => ?_)
    · refine ifB_dec (fun k1 => ?_) (fun k1 => ?_)
      · refine ifB_dec (fun k3 => ?_) (fun k3 => ?_)
        · refine ifB_dec (fun h4 => ?_) (fun h4 => ?_)
          · simp only [List.length_map] at h4
            refine ifB_dec (fun h5 => ?_) (fun h5 => ?_)
            · simp only [List.length_map] at h5
              refine ⟨(), by rw [hnode, decide_eq_true h4, decide_eq_true h5]; first | (exfalso; omega) | simp [*], ?_⟩
              refine ⟨⟨Le.refl _, Le.refl _, ⟨rfl, rfl⟩, Le.refl _, le_of_eq ?_, trivial⟩, ⟨⟨rfl, LeL.refl _⟩, trivial⟩, List.Sublist.refl _⟩
              show AV.i _ = AV.i _
              rw [h5]
            · simp only [List.length_map] at h5
              exact bad (by rw [hnode, decide_eq_false h5]; simp)
          · simp only [List.length_map] at h4
            exact bad (by rw [hnode, decide_eq_false h4]; simp)
        · refine ifB_dec (fun h3 => ?_) (fun h3 => ?_)
          · have h3' : l.name = [] := h3
            refine ifB_dec (fun h4 => ?_) (fun h4 => ?_)
            · simp only [List.length_map] at h4
              refine ifB_dec (fun h5 => ?_) (fun h5 => ?_)
              · simp only [List.length_map] at h5
                refine ⟨(), by rw [hnode, decide_eq_true h4, decide_eq_true h5]; first | (exfalso; omega) | simp [*], ?_⟩
                refine ⟨⟨Le.refl _, Le.refl _, ⟨rfl, rfl⟩, Le.refl _, le_of_eq ?_, trivial⟩, ⟨⟨rfl, LeL.refl _⟩, trivial⟩, List.Sublist.refl _⟩
                show AV.i _ = AV.i _
                rw [h5]
              · simp only [List.length_map] at h5
                exact bad (by rw [hnode, decide_eq_false h5]; simp)
            · simp only [List.length_map] at h4
              exact bad (by rw [hnode, decide_eq_false h4]; simp)
          · exact bad (by rw [hnode, decide_eq_false (show ¬ l.name = [] from h3)]; simp [k3])
      · refine ifB_dec (fun h2 => ?_) (fun h2 => ?_)
        · refine ifB_dec (fun k3 => ?_) (fun k3 => ?_)
          · refine ifB_dec (fun h4 => ?_) (fun h4 => ?_)
            · simp only [List.length_map] at h4
              refine ifB_dec (fun h5 => ?_) (fun h5 => ?_)
              · simp only [List.length_map] at h5
                refine ⟨(), by rw [hnode, decide_eq_true h4, decide_eq_true h5]; first | (exfalso; omega) | simp [*], ?_⟩
                refine ⟨⟨Le.refl _, Le.refl _, ⟨rfl, rfl⟩, Le.refl _, le_of_eq ?_, trivial⟩, ⟨⟨rfl, LeL.refl _⟩, trivial⟩, List.Sublist.refl _⟩
                show AV.i _ = AV.i _
                rw [h5]
              · simp only [List.length_map] at h5
                exact bad (by rw [hnode, decide_eq_false h5]; simp)
            · simp only [List.length_map] at h4
              exact bad (by rw [hnode, decide_eq_false h4]; simp)
          · refine ifB_dec (fun h3 => ?_) (fun h3 => ?_)
            · have h3' : l.name = [] := h3
              refine ifB_dec (fun h4 => ?_) (fun h4 => ?_)
              · simp only [List.length_map] at h4
                refine ifB_dec (fun h5 => ?_) (fun h5 => ?_)
                · simp only [List.length_map] at h5
                  refine ⟨(), by rw [hnode, decide_eq_true h4, decide_eq_true h5]; first | (exfalso; omega) | simp [*], ?_⟩
                  refine ⟨⟨Le.refl _, Le.refl _, ⟨rfl, rfl⟩, Le.refl _, le_of_eq ?_, trivial⟩, ⟨⟨rfl, LeL.refl _⟩, trivial⟩, List.Sublist.refl _⟩
                  show AV.i _ = AV.i _
                  rw [h5]
                · simp only [List.length_map] at h5
                  exact bad (by rw [hnode, decide_eq_false h5]; simp)
              · simp only [List.length_map] at h4
                exact bad (by rw [hnode, decide_eq_false h4]; simp)
            · exact bad (by rw [hnode, decide_eq_false (show ¬ l.name = [] from h3)]; simp [k3])
        · exact bad (by rw [hnode, decide_eq_false h2]; simp [k1])
    have hnok := hI
    clear hI
    have hfit2 : tmFit n l vars = tmFitL n l.kind l.args 0 vars := by rw [hfit, hnok, hls]; rfl
    refine sem_join (esc := fun _ => false) tab_ok mixed (X := Unit) (fun q => ⟨[(6, .g (.b false))], [], H⟩) (fun q => tmFitL n l.kind l.args 0 vars = true) ?_ (fun q hI => ?_)
    · refine ⟨Nat, fun j => ⟨[(1, .g (.i n)), (2, .g (.i vars)), (3, .lp 3 0), (6, .g (.b false)), (8, .g (.i l.args.length)), (10, .g (.i j))], [(3, (tmX l).cells)], H⟩, fun j => j ≤ l.args.length ∧ tmFitL n l.kind l.args 0 vars = tmFitL n l.kind (l.args.drop j) j vars, fun j => l.args.length - j, ⟨0, ⟨Nat.zero_le _, rfl⟩, ?_⟩, ?_⟩
      · (constructor <;> repeat' (first | exact trivial | exact ⟨rfl, rfl⟩ | exact ⟨rfl, LeL.refl _⟩ | exact Le.refl _ | exact List.Sublist.refl _ | (show Le (AV.i _) (AV.i _); rw [List.length_map]; exact Le.refl _) | refine And.intro ?_ ?_))
      · rintro j ⟨hj, hinv⟩
        refine ifB_dec (fun h1 => ?_) (fun h1 => ?_)
        · have hlt : j < l.args.length := by omega
          have hmem := Tm.nodesL_mem (List.getElem_mem hlt)
          rw [tmFitL_at hlt] at hinv
          by_cases h2 : tmBind l.kind j = true
          · rw [if_pos h2] at hinv
            refine ⟨_, LeL.refl _, (binds_con l.kind j).yes h2 _ _ ?_⟩
            intro hz1 hz2; clear hz1 hz2
            refine ⟨in64_of (by first | omega | (dsimp only; omega)) (by first | omega | (dsimp only; omega)), ?_⟩
            refine ⟨j, rfl, _, tmAt' hlt, ?_⟩
            by_cases h3 : tmFit n l.args[j] (vars + 1) = true
            · refine ⟨_, LeL.refl _, (ih l.args[j] (vars + 1) (by omega) (by omega) (by omega)).yes h3 _ _ ?_⟩
              intro hz1 hz2; clear hz1 hz2
              refine ⟨in64_of (by first | omega | (dsimp only; omega)) (by first | omega | (dsimp only; omega)), ?_⟩
              refine ⟨j + 1, ⟨by omega, by rw [hinv, h3]; rfl⟩, by (try dsimp only); omega, ?_⟩
              (constructor <;> repeat' (first | exact trivial | exact ⟨rfl, rfl⟩ | exact ⟨rfl, LeL.refl _⟩ | exact Le.refl _ | exact List.Sublist.refl _ | (show Le (AV.i _) (AV.i _); rw [List.length_map]; exact Le.refl _) | refine And.intro ?_ ?_))
            · refine ⟨_, LeL.refl _, (ih l.args[j] (vars + 1) (by omega) (by omega) (by omega)).no h3 _ _ ?_⟩
              intro hz1 hz2; clear hz1 hz2
              exact fin _ (by rw [hfit2, hinv, ntrue h3]; rfl)
          · rw [if_neg h2] at hinv
            refine ⟨_, LeL.refl _, (binds_con l.kind j).no h2 _ _ ?_⟩
            intro hz1 hz2; clear hz1 hz2
            refine ⟨j, rfl, _, tmAt' hlt, ?_⟩
            by_cases h3 : tmFit n l.args[j] (vars) = true
            · refine ⟨_, LeL.refl _, (ih l.args[j] (vars) (by omega) (by omega) (by omega)).yes h3 _ _ ?_⟩
              intro hz1 hz2; clear hz1 hz2
              refine ⟨in64_of (by first | omega | (dsimp only; omega)) (by first | omega | (dsimp only; omega)), ?_⟩
              refine ⟨j + 1, ⟨by omega, by rw [hinv, h3]; rfl⟩, by (try dsimp only); omega, ?_⟩
              (constructor <;> repeat' (first | exact trivial | exact ⟨rfl, rfl⟩ | exact ⟨rfl, LeL.refl _⟩ | exact Le.refl _ | exact List.Sublist.refl _ | (show Le (AV.i _) (AV.i _); rw [List.length_map]; exact Le.refl _) | refine And.intro ?_ ?_))
            · refine ⟨_, LeL.refl _, (ih l.args[j] (vars) (by omega) (by omega) (by omega)).no h3 _ _ ?_⟩
              intro hz1 hz2; clear hz1 hz2
              exact fin _ (by rw [hfit2, hinv, ntrue h3]; rfl)
        · have hj' : j = l.args.length := by omega
          rw [hj', List.drop_length] at hinv
          refine ⟨(), by rw [hinv]; rfl, ?_⟩
          (constructor <;> repeat' (first | exact trivial | exact ⟨rfl, rfl⟩ | exact ⟨rfl, LeL.refl _⟩ | exact Le.refl _ | exact List.Sublist.refl _ | (show Le (AV.i _) (AV.i _); rw [List.length_map]; exact Le.refl _) | refine And.intro ?_ ?_))
    refine sem_of (esc := fun _ => false) tab_ok mixed ?_
    exact fin _ (by rw [hfit2, hI])
set_option maxRecDepth 100000 in
theorem ref04Right_con (n vars : Int) (l : Tm) : Ans Tryz.prog 77 [tmX l, .i n, .i vars] (.b (tmRight n vars l)) := by
  intro H Q hq
  refine con_of_awp (esc := fun _ => false) tab_ok mixed Tryz.func77 rfl (ent Tryz.func77 (by kernel_rfl) rfl) (by kernel_rfl) ?_
  intro hw hn
  have fin : ∀ q : Bool, q = tmRight n vars l → ∃ r H', Le (.b q) r ∧ List.Sublist H' H ∧ Q r H' := fun q h => ⟨_, H, ret_b h, List.Sublist.refl _, hq⟩
  refine ifB_dec (fun h1 => ?_) (fun h1 => ?_)
  rotate_left
  · exact fin _ (by unfold tmRight; simp [h1])
  refine ifB_dec (fun h2 => ?_) (fun h2 => ?_)
  rotate_left
  · exact fin _ (by unfold tmRight; simp [h2])
  refine ifB_dec (fun h3 => ?_) (fun h3 => ?_)
  rotate_left
  · exact fin _ (by unfold tmRight; simp [h3])
  refine ⟨_, LeL.refl _, ref04Nodes_con 2000 (by decide) _ l (Nat.le_refl _) _ _ ?_⟩
  intro hz1 hz2; clear hz1 hz2
  refine ifB_dec (fun h4 => ?_) (fun h4 => ?_)
  rotate_left
  · exact fin _ (by unfold tmRight; rw [decide_eq_false (show ¬ l.nodes ≤ 2000 by omega)]; simp)
  have hnod : l.nodes ≤ 2000 := by omega
  refine ⟨_, LeL.refl _, ref04right_con n _ l (min vars 1125899906842624) (Nat.le_refl _) (by omega) (by omega) _ _ ?_⟩
  intro hz1 hz2; clear hz1 hz2
  exact fin _ (by unfold tmRight; simp [h1, h2, h3, hnod])
end Go.Proofs.YtnjnfegafmhgnaaGreatDoor

/-
  The reference's Formed. No condition.
-/
namespace Go.Proofs.YtnjnfegafmhgnaaGreatDoor
open Go.RowKit

theorem le_tm0' : Le (.agg [.i 0, .i 0, .str [], .sl .full 0 [], .sl .full 0 []]) (tmX tm0) := le_tm0
theorem formed_one (d : Dc) (h5 : d.kind ≠ 5) : formed d = (decide (1 ≤ d.kind) && decide (d.kind ≤ 5) && nameOk d.name && tmRight d.params 0 d.type && (if d.fixed = 0 ∧ d.ctors.length = 0 then (if 2 ≤ d.kind ∧ d.kind ≤ 4 then tmRight d.params 0 d.value else tmEq d.value tm0) else false)) := by
  rw [formed, if_neg h5]
theorem formed_fam (d : Dc) (h5 : d.kind = 5) : formed d = (decide (1 ≤ d.kind) && decide (d.kind ≤ 5) && nameOk d.name && tmRight d.params 0 d.type && (tmEq d.value tm0 && decide (0 ≤ d.fixed) && decide (d.fixed ≤ 16) && decide (d.ctors.length ≤ 8) && !(d.ctors.any (ctWrong d.params)))) := by
  rw [formed, if_pos h5]
theorem any_take_step {α : Type} {p : α → Bool} {xs : List α} {k : Nat} (h : k < xs.length) (h1 : (xs.take k).any p = false) (h2 : p xs[k] = false) : (xs.take (k + 1)).any p = false := by
  rw [List.take_succ_eq_append_getElem h, List.any_append, h1]
  simp [h2]

set_option maxRecDepth 100000 in
set_option maxHeartbeats 1000000 in
theorem ref08Formed_con (d : Dc) : Ans Tryz.prog 40 [dcX d] (.b (formed d)) := by
  intro H Q hq
  have fin : ∀ q : Bool, q = formed d → ∃ r H', Le (.b q) r ∧ List.Sublist H' H ∧ Q r H' := fun q h => ⟨_, H, ret_b h, List.Sublist.refl _, hq⟩
  refine con_of_sem tab_ok Tryz.func40 rfl (ent Tryz.func40 (by kernel_rfl) rfl) (by kernel_rfl) ?_
  intro hw hn
  clear hw hn
  refine sem_seq (esc := fun _ => false) tab_ok mixed ?_
  refine sem_seq (esc := fun _ => false) tab_ok mixed ?_
  refine ifB_dec (fun k1 => ?_) (fun k1 => ?_)
  · exact fin _ (by rw [formed, decide_eq_false (show ¬ 1 ≤ d.kind by omega)]; simp)
  refine ifB_dec (fun k2 => ?_) (fun k2 => ?_)
  · exact fin _ (by rw [formed, decide_eq_false (show ¬ d.kind ≤ 5 by omega)]; simp)
  by_cases k3 : nameOk d.name = true
  rotate_left
  · refine ⟨_, LeL.refl _, (ref01Right_con d.name).no k3 _ _ ?_⟩
    intro hz1 hz2; clear hz1 hz2
    exact fin _ (by rw [formed, ntrue k3]; simp)
  refine ⟨_, LeL.refl _, (ref01Right_con d.name).yes k3 _ _ ?_⟩
  intro hz1 hz2; clear hz1 hz2
  by_cases k4 : tmRight d.params 0 d.type = true
  rotate_left
  · refine ⟨_, LeL.refl _, (ref04Right_con d.params 0 d.type).no k4 _ _ ?_⟩
    intro hz1 hz2; clear hz1 hz2
    exact fin _ (by rw [formed, ntrue k4]; simp)
  refine ⟨_, LeL.refl _, (ref04Right_con d.params 0 d.type).yes k4 _ _ ?_⟩
  intro hz1 hz2; clear hz1 hz2
  have e1 : decide (1 ≤ d.kind) = true := decide_eq_true (by omega)
  have e2 : decide (d.kind ≤ 5) = true := decide_eq_true (by omega)
  refine sem_seq (esc := fun _ => false) tab_ok mixed ?_
  refine ⟨[tmX d.value, tmX tm0], ⟨Le.refl _, le_tm0, trivial⟩, SameTerm_con _ d.value tm0 (Nat.le_refl _) _ _ ?_⟩
  intro hz1 hz2; clear hz1 hz2
  obtain ⟨none, hnone⟩ : ∃ q, tmEq d.value tm0 = q := ⟨_, rfl⟩
  refine sem_le ⟨[(1, .lp 1 0), (2, .g (.b false)), (3, .g (.b none))], [(1, (dcX d).cells)], H⟩ ?_ ?_
  · exact ⟨⟨⟨rfl, rfl⟩, Le.refl _, ret_b hnone, trivial⟩, ⟨⟨rfl, LeL.refl _⟩, trivial⟩, List.Sublist.refl _⟩
  by_cases h5 : d.kind = 5
  rotate_left
  · have hf := formed_one d h5
    rw [e1, e2, k3, k4] at hf
    refine sem_seq (esc := fun _ => false) tab_ok mixed ?_
    refine ifB_f h5 ?_
    refine ifB_dec (fun k5 => ?_) (fun k5 => ?_)
    rotate_left
    · exact fin _ (by rw [hf, if_neg (fun h => k5 h.1)]; rfl)
    refine ifB_dec (fun k6 => ?_) (fun k6 => ?_)
    rotate_left
    · exact fin _ (by rw [hf, if_neg (fun h => k6 (by simpa using h.2))]; rfl)
    have hz : d.fixed = 0 ∧ d.ctors.length = 0 := ⟨k5, by simpa using k6⟩
    rw [if_pos hz] at hf
    refine ifB_dec (fun k7 => ?_) (fun k7 => ?_)
    · exact fin _ (by rw [hf, if_neg (by omega), hnone]; rfl)
    · refine ⟨_, LeL.refl _, ref04Right_con d.params 0 d.value _ _ ?_⟩
      intro hz1 hz2; clear hz1 hz2
      exact fin _ (by rw [hf, if_pos (by omega)]; rfl)
  · have hf := formed_fam d h5
    rw [e1, e2, k3, k4, hnone] at hf
    refine sem_seq (esc := fun _ => false) tab_ok mixed ?_
    refine ifB_t h5 ?_
    refine sem_seq (esc := fun _ => false) tab_ok mixed ?_
    cases none with
    | false => exact fin _ (by rw [hf]; rfl)
    | true =>
      refine ifB_dec (fun k5 => ?_) (fun k5 => ?_)
      · exact fin _ (by rw [hf, decide_eq_false (show ¬ 0 ≤ d.fixed by omega)]; rfl)
      refine ifB_dec (fun k6 => ?_) (fun k6 => ?_)
      · exact fin _ (by rw [hf, decide_eq_false (show ¬ d.fixed ≤ 16 by omega)]; simp)
      refine ifB_dec (fun k7 => ?_) (fun k7 => ?_)
      · simp only [List.length_map] at k7
        exact fin _ (by rw [hf, decide_eq_false (show ¬ d.ctors.length ≤ 8 by omega)]; simp)
      simp only [List.length_map] at k7
      have hf2 : formed d = !(d.ctors.any (ctWrong d.params)) := by
        rw [hf, decide_eq_true (show 0 ≤ d.fixed by omega), decide_eq_true (show d.fixed ≤ 16 by omega), decide_eq_true (show d.ctors.length ≤ 8 by omega)]; rfl
      refine sem_join (esc := fun _ => false) tab_ok mixed (X := Unit) (fun _ => ⟨[], [], H⟩) (fun _ => d.ctors.any (ctWrong d.params) = false) ?_ (fun _ hI => ?_)
      · refine ⟨Nat, fun j => ⟨[(1, .lp 1 0), (2, .g (.b false)), (4, .g (.i j))], [(1, (dcX d).cells)], H⟩, fun j => j ≤ d.ctors.length ∧ (d.ctors.take j).any (ctWrong d.params) = false, fun j => d.ctors.length - j, ⟨0, ⟨Nat.zero_le _, rfl⟩, ?_⟩, ?_⟩
        · (constructor <;> repeat' (first | exact trivial | exact ⟨rfl, rfl⟩ | exact ⟨rfl, LeL.refl _⟩ | exact Le.refl _ | exact List.Sublist.refl _ | (show Le (AV.i _) (AV.i _); rw [List.length_map]; exact Le.refl _) | refine And.intro ?_ ?_))
        · rintro j ⟨hj, hall⟩
          refine ifB_dec (fun h1 => ?_) (fun h1 => ?_)
          · simp only [List.length_map] at h1
            have hlt : j < d.ctors.length := by omega
            refine ⟨[0, 1, 2, 3, 4, 5, 6, 7, 8, 9, 10, 11, 12, 13, 14, 15, 16, 17, 18, 19], [], by kernel_rfl, by simp, ?_⟩
            refine ⟨j, rfl, _, ctAt hlt, ?_⟩
            by_cases k8 : nameOk d.ctors[j].name = true
            rotate_left
            · refine ⟨_, LeL.refl _, (ref01Right_con d.ctors[j].name).no k8 _ _ ?_⟩
              intro hz1 hz2; clear hz1 hz2
              exact fin _ (by rw [hf2, any_yes hlt (by rw [ctWrong, ntrue k8]; rfl)]; rfl)
            refine ⟨_, LeL.refl _, (ref01Right_con d.ctors[j].name).yes k8 _ _ ?_⟩
            intro hz1 hz2; clear hz1 hz2
            refine ⟨j, rfl, _, ctAt hlt, ?_⟩
            by_cases k9 : tmRight d.params 0 d.ctors[j].type = true
            rotate_left
            · refine ⟨_, LeL.refl _, (ref04Right_con d.params 0 d.ctors[j].type).no k9 _ _ ?_⟩
              intro hz1 hz2; clear hz1 hz2
              exact fin _ (by rw [hf2, any_yes hlt (by rw [ctWrong, ntrue k9]; simp)]; rfl)
            refine ⟨_, LeL.refl _, (ref04Right_con d.params 0 d.ctors[j].type).yes k9 _ _ ?_⟩
            intro hz1 hz2; clear hz1 hz2
            refine ⟨in64_of (by first | omega | (dsimp only; omega)) (by first | omega | (dsimp only; omega)), ?_⟩
            refine ⟨j + 1, ⟨by omega, any_take_step hlt hall (by rw [ctWrong, k8, k9]; rfl)⟩, by (try dsimp only); omega, ?_⟩
            (constructor <;> repeat' (first | exact trivial | exact ⟨rfl, rfl⟩ | exact ⟨rfl, LeL.refl _⟩ | exact Le.refl _ | exact List.Sublist.refl _ | (show Le (AV.i _) (AV.i _); rw [List.length_map]; exact Le.refl _) | refine And.intro ?_ ?_))
          · simp only [List.length_map] at h1
            have hj' : d.ctors.length = j := by omega
            subst hj'
            rw [List.take_length] at hall
            refine ⟨(), hall, ?_⟩
            exact ⟨trivial, trivial, List.Sublist.refl _⟩
      refine sem_of (esc := fun _ => false) tab_ok mixed ?_
      exact fin _ (by rw [hf2, hI]; rfl)
end Go.Proofs.YtnjnfegafmhgnaaGreatDoor

/-
  The references' copies of levels and terms. No condition.
-/
namespace Go.Proofs.YtnjnfegafmhgnaaGreatDoor
open Go.RowKit

set_option maxRecDepth 100000 in
set_option maxHeartbeats 1000000 in
theorem CopyLevel_con : ∀ (N : Nat) (l : Lv), l.nodes ≤ N → N ≤ 1000000 → Ans Tryz.prog 125 [lvX l] (lvX l) := by
  intro N
  induction N with
  | zero => intro l h; have := l.nodes_pos; omega
  | succ N ih =>
    intro l hN hN1 H Q hq
    have hnd := l.nodes_eq
    have hla := lvLen_nodes l.args
    refine con_of_awp (esc := fun _ => false) tab_ok mixed Tryz.func125 rfl (ent Tryz.func125 (by kernel_rfl) rfl) (by kernel_rfl) ?_
    intro hw hn
    clear hw hn
    refine ⟨Option Cap × Nat, fun p => ⟨[(1, .lp 1 0), (2, .lp 2 0), (3, .lp 3 0), (4, .g (.i p.2))], [(3, [.i l.kind, .i l.n, .sl (ownQ p.1) 3 ((l.args.take p.2).map lvA)]), (2, [.i 0, .i 0, .sl .full 0 []]), (1, (lvX l).cells)], bufH p.1 H⟩,
      fun p => p.2 ≤ l.args.length, fun p => l.args.length - p.2, ⟨(none, 0), Nat.zero_le _, ?_⟩, ?_⟩
    · exact ⟨⟨⟨rfl, rfl⟩, ⟨rfl, rfl⟩, ⟨rfl, rfl⟩, Le.refl _, trivial⟩, ⟨⟨rfl, ⟨Le.refl _, Le.refl _, Le.nil' _, trivial⟩⟩, ⟨rfl, LeL.refl _⟩, ⟨rfl, LeL.refl _⟩, trivial⟩, List.Sublist.refl _⟩
    · rintro ⟨q, j⟩ hj
      simp only at hj
      refine ifB_dec (fun h1 => ?_) (fun h1 => ?_)
      · simp only [List.length_map] at h1
        have hlt : j < l.args.length := by omega
        have hmem := Lv.nodesL_mem (List.getElem_mem hlt)
        refine ⟨[0, 1, 2, 3, 4, 5, 6, 7, 8, 9, 10, 11], [], by kernel_rfl, by simp, ?_⟩
        refine ⟨j, rfl, _, lvAt hlt, ?_⟩
        refine ⟨_, LeL.refl _, ih l.args[j] (by omega) (by omega) _ _ ?_⟩
        intro hz1 hz2; clear hz1 hz2
        refine ⟨?_, ?_⟩
        · simp only [List.length_map, List.length_cons, List.length_nil]
          try simp only [List.length_take]
          show _ * (40 + 1) ≤ _
          omega
        refine own_of (q := q) (H0 := H) ?_ ?_ ?_ (fun c hc => ?_)
        · exact rfl
        · exact rfl
        · exact fun _ h => h
        have hsn : (l.args.take j).map lvA ++ [lvX l.args[j]] = (l.args.take (j + 1)).map lvA := by rw [List.take_succ_eq_append_getElem hlt, List.map_append, ← lvA_eq]; rfl
        have hnext : Le (.sl (.own c) 3 ((l.args.take j).map lvA ++ [lvX l.args[j]])) (.sl (ownQ (some c)) 3 ((l.args.take (j + 1)).map lvA)) := by rw [hsn]; exact Le.refl _
        refine ⟨in64_of (by first | omega | (dsimp only; omega)) (by first | omega | (dsimp only; omega)), ?_⟩
        exact ⟨(some c, j + 1), (by simp only; omega), by (try dsimp only); omega, ⟨⟨⟨rfl, rfl⟩, ⟨rfl, rfl⟩, ⟨rfl, rfl⟩, Le.refl _, trivial⟩, ⟨⟨rfl, ⟨Le.refl _, Le.refl _, hnext, trivial⟩⟩, ⟨rfl, LeL.refl _⟩, ⟨rfl, LeL.refl _⟩, trivial⟩, List.Sublist.refl _⟩⟩
      · simp only [List.length_map] at h1
        have hj' : l.args.length = j := by omega
        subst hj'
        have hfin : Le (.agg [.i l.kind, .i l.n, .sl (ownQ q) 3 ((l.args.take l.args.length).map lvA)]) (lvX l) := Le.agg ⟨Le.refl _, Le.refl _, Le.trans (ownQ_le _ _ _) (le_of_eq (by rw [List.take_length])), trivial⟩
        exact ⟨_, _, hfin, bufH_sub q _, hq⟩
set_option maxRecDepth 100000 in
set_option maxHeartbeats 1000000 in
theorem CopyTerm_con : ∀ (N : Nat) (t : Tm), t.nodes ≤ N → N ≤ 1000000 → Ans Tryz.prog 60 [tmX t] (tmX t) := by
  intro N
  induction N with
  | zero => intro l h; have := l.nodes_pos; omega
  | succ N ih =>
    intro t hN hN1 H Q hq
    have hnd := t.nodes_eq
    have hll := lvLen_nodes t.levels
    have htl := tmLen_nodes t.args
    refine con_of_awp (esc := fun _ => false) tab_ok mixed Tryz.func60 rfl (ent Tryz.func60 (by kernel_rfl) rfl) (by kernel_rfl) ?_
    intro hw hn
    clear hw hn
    refine ⟨Option Cap × Nat, fun p => ⟨[(1, .lp 1 0), (2, .lp 2 0), (3, .lp 3 0), (4, .g (.i p.2))], [(3, [.i t.kind, .i t.n, .str t.name, .sl (ownQ p.1) 3 ((t.levels.take p.2).map lvA), .sl .full 0 []]), (2, [.i 0, .i 0, .str [], .sl .full 0 [], .sl .full 0 []]), (1, (tmX t).cells)], bufH p.1 H⟩,
      fun p => p.2 ≤ t.levels.length, fun p => t.levels.length - p.2, ⟨(none, 0), Nat.zero_le _, ?_⟩, ?_⟩
    · exact ⟨⟨⟨rfl, rfl⟩, ⟨rfl, rfl⟩, ⟨rfl, rfl⟩, Le.refl _, trivial⟩, ⟨⟨rfl, ⟨Le.refl _, Le.refl _, Le.refl _, Le.nil' _, Le.refl _, trivial⟩⟩, ⟨rfl, LeL.refl _⟩, ⟨rfl, LeL.refl _⟩, trivial⟩, List.Sublist.refl _⟩
    · rintro ⟨q, j⟩ hj
      simp only at hj
      refine ifB_dec (fun h1 => ?_) (fun h1 => ?_)
      · simp only [List.length_map] at h1
        have hlt : j < t.levels.length := by omega
        have hmem := Lv.nodesL_mem (List.getElem_mem hlt)
        refine ⟨[0, 1, 2, 3, 4, 5, 6, 7, 8, 9, 10, 11], [], by kernel_rfl, by simp, ?_⟩
        refine ⟨j, rfl, _, lvAt hlt, ?_⟩
        refine ⟨_, LeL.refl _, CopyLevel_con _ t.levels[j] (Nat.le_refl _) (by omega) _ _ ?_⟩
        intro hz1 hz2; clear hz1 hz2
        refine ⟨?_, ?_⟩
        · simp only [List.length_map, List.length_cons, List.length_nil]
          try simp only [List.length_take]
          show _ * (40 + 1) ≤ _
          omega
        refine own_of (q := q) (H0 := H) ?_ ?_ ?_ (fun c hc => ?_)
        · exact rfl
        · exact rfl
        · exact fun _ h => h
        have hsn : (t.levels.take j).map lvA ++ [lvX t.levels[j]] = (t.levels.take (j + 1)).map lvA := by rw [List.take_succ_eq_append_getElem hlt, List.map_append, ← lvA_eq]; rfl
        have hnext : Le (.sl (.own c) 3 ((t.levels.take j).map lvA ++ [lvX t.levels[j]])) (.sl (ownQ (some c)) 3 ((t.levels.take (j + 1)).map lvA)) := by rw [hsn]; exact Le.refl _
        refine ⟨in64_of (by first | omega | (dsimp only; omega)) (by first | omega | (dsimp only; omega)), ?_⟩
        exact ⟨(some c, j + 1), (by simp only; omega), by (try dsimp only); omega, ⟨⟨⟨rfl, rfl⟩, ⟨rfl, rfl⟩, ⟨rfl, rfl⟩, Le.refl _, trivial⟩, ⟨⟨rfl, ⟨Le.refl _, Le.refl _, Le.refl _, hnext, Le.refl _, trivial⟩⟩, ⟨rfl, LeL.refl _⟩, ⟨rfl, LeL.refl _⟩, trivial⟩, List.Sublist.refl _⟩⟩
      · simp only [List.length_map] at h1
        have hj' : t.levels.length = j := by omega
        subst hj'
        have hlv : Le (.sl (ownQ q) 3 ((t.levels.take t.levels.length).map lvA)) (.sl .no 3 (t.levels.map lvA)) := Le.trans (ownQ_le _ _ _) (le_of_eq (by rw [List.take_length]))
        refine ⟨Option Cap × Nat, fun p => ⟨[(1, .lp 1 0), (2, .lp 2 0), (3, .lp 3 0), (5, .g (.i p.2))], [(3, [.i t.kind, .i t.n, .str t.name, .sl .no 3 (t.levels.map lvA), .sl (ownQ p.1) 5 ((t.args.take p.2).map tmA)]), (2, [.i 0, .i 0, .str [], .sl .full 0 [], .sl .full 0 []]), (1, (tmX t).cells)], bufH p.1 H⟩,
          fun p => p.2 ≤ t.args.length, fun p => t.args.length - p.2, ⟨(none, 0), Nat.zero_le _, ?_⟩, ?_⟩
        · exact ⟨⟨⟨rfl, rfl⟩, ⟨rfl, rfl⟩, ⟨rfl, rfl⟩, Le.refl _, trivial⟩, ⟨⟨rfl, ⟨Le.refl _, Le.refl _, Le.refl _, hlv, Le.nil' _, trivial⟩⟩, ⟨rfl, LeL.refl _⟩, ⟨rfl, LeL.refl _⟩, trivial⟩, bufH_sub q _⟩
        · rintro ⟨q, j⟩ hj
          simp only at hj
          refine ifB_dec (fun h1 => ?_) (fun h1 => ?_)
          · simp only [List.length_map] at h1
            have hlt : j < t.args.length := by omega
            have hmem := Tm.nodesL_mem (List.getElem_mem hlt)
            refine ⟨[0, 1, 2, 3, 4, 5, 6, 7, 8, 9, 10, 11], [], by kernel_rfl, by simp, ?_⟩
            refine ⟨j, rfl, _, tmAt' hlt, ?_⟩
            refine ⟨_, LeL.refl _, ih t.args[j] (by omega) (by omega) _ _ ?_⟩
            intro hz1 hz2; clear hz1 hz2
            refine ⟨?_, ?_⟩
            · simp only [List.length_map, List.length_cons, List.length_nil]
              try simp only [List.length_take]
              show _ * (80 + 1) ≤ _
              omega
            refine own_of (q := q) (H0 := H) ?_ ?_ ?_ (fun c hc => ?_)
            · exact rfl
            · exact rfl
            · exact fun _ h => h
            have hsn : (t.args.take j).map tmA ++ [tmX t.args[j]] = (t.args.take (j + 1)).map tmA := by rw [List.take_succ_eq_append_getElem hlt, List.map_append, ← tmA_eq]; rfl
            have hnext : Le (.sl (.own c) 5 ((t.args.take j).map tmA ++ [tmX t.args[j]])) (.sl (ownQ (some c)) 5 ((t.args.take (j + 1)).map tmA)) := by rw [hsn]; exact Le.refl _
            refine ⟨in64_of (by first | omega | (dsimp only; omega)) (by first | omega | (dsimp only; omega)), ?_⟩
            exact ⟨(some c, j + 1), (by simp only; omega), by (try dsimp only); omega, ⟨⟨⟨rfl, rfl⟩, ⟨rfl, rfl⟩, ⟨rfl, rfl⟩, Le.refl _, trivial⟩, ⟨⟨rfl, ⟨Le.refl _, Le.refl _, Le.refl _, Le.refl _, hnext, trivial⟩⟩, ⟨rfl, LeL.refl _⟩, ⟨rfl, LeL.refl _⟩, trivial⟩, List.Sublist.refl _⟩⟩
          · simp only [List.length_map] at h1
            have hj' : t.args.length = j := by omega
            subst hj'
            have hfin : Le (.agg [.i t.kind, .i t.n, .str t.name, .sl .no 3 (t.levels.map lvA), .sl (ownQ q) 5 ((t.args.take t.args.length).map tmA)]) (tmX t) := Le.agg ⟨Le.refl _, Le.refl _, Le.refl _, Le.refl _, Le.trans (ownQ_le _ _ _) (le_of_eq (by rw [List.take_length])), trivial⟩
            exact ⟨_, _, hfin, bufH_sub q _, hq⟩
end Go.Proofs.YtnjnfegafmhgnaaGreatDoor

/-
  The references' levels put in. No condition.
-/
namespace Go.Proofs.YtnjnfegafmhgnaaGreatDoor
open Go.RowKit

set_option maxRecDepth 100000 in
set_option maxHeartbeats 1000000 in
theorem ref03inst_con (o : Own) (bys : List Lv) (hb : ∀ b ∈ bys, b.nodes ≤ 1000000) : ∀ (N : Nat) (l : Lv), l.nodes ≤ N → N ≤ 1000000 → lvFit bys.length l = true → Ans Tryz.prog 199 [lvX l, .sl o 3 (bys.map lvA)] (lvX (lvInst bys l)) := by
  intro N
  induction N with
  | zero => intro l h; have := l.nodes_pos; omega
  | succ N ih =>
    intro l hN hN1 hfit H Q hq
    have hnd := l.nodes_eq
    have hla := lvLen_nodes l.args
    rw [lvInst_eq] at hq
    refine con_of_awp (esc := fun _ => false) tab_ok mixed Tryz.func199 rfl (ent Tryz.func199 (by kernel_rfl) rfl) (by kernel_rfl) ?_
    intro hw hn
    clear hw hn
    refine ifB_dec (fun h0 => ?_) (fun h0 => ?_)
    · rw [if_pos h0] at hq
      have hr := lvFit_num hfit h0
      have hlt : l.n.toNat < bys.length := by omega
      have he : bys.getD l.n.toNat (.mk 0 0 []) = bys[l.n.toNat] := by simp [List.getD_eq_getElem?_getD, hlt]
      rw [he] at hq
      refine ⟨l.n.toNat, by omega, _, lvAt hlt, ?_⟩
      refine ⟨_, LeL.refl _, CopyLevel_con _ _ (hb _ (List.getElem_mem hlt)) (Nat.le_refl _) _ _ ?_⟩
      intro hz1 hz2; clear hz1 hz2
      exact ⟨_, H, Le.refl _, List.Sublist.refl _, hq⟩
    · rw [if_neg h0, lvInstL_map] at hq
      refine ⟨Option Cap × Nat, fun p => ⟨[(1, .g (.sl o 3 (bys.map lvA))), (2, .lp 2 0), (4, .lp 4 0), (5, .lp 5 0), (6, .g (.i p.2))], [(5, [.i l.kind, .i l.n, .sl (ownQ p.1) 3 (((l.args.take p.2).map (lvInst bys)).map lvA)]), (4, [.i 0, .i 0, .sl .full 0 []]), (2, (lvX l).cells)], bufH p.1 H⟩,
        fun p => p.2 ≤ l.args.length, fun p => l.args.length - p.2, ⟨(none, 0), Nat.zero_le _, ?_⟩, ?_⟩
      · exact ⟨⟨Le.refl _, ⟨rfl, rfl⟩, ⟨rfl, rfl⟩, ⟨rfl, rfl⟩, Le.refl _, trivial⟩, ⟨⟨rfl, ⟨Le.refl _, Le.refl _, Le.nil' _, trivial⟩⟩, ⟨rfl, LeL.refl _⟩, ⟨rfl, LeL.refl _⟩, trivial⟩, List.Sublist.refl _⟩
      · rintro ⟨q, j⟩ hj
        simp only at hj
        refine ifB_dec (fun h1 => ?_) (fun h1 => ?_)
        · simp only [List.length_map] at h1
          have hlt : j < l.args.length := by omega
          have hmem := Lv.nodesL_mem (List.getElem_mem hlt)
          refine ⟨[0, 1, 2, 3, 4, 5, 6, 7, 8, 9, 10, 11, 12], [], by kernel_rfl, by simp, ?_⟩
          refine ⟨j, rfl, _, lvAt hlt, ?_⟩
          refine ⟨_, LeL.refl _, ih l.args[j] (by omega) (by omega) (lvFit_arg hfit (List.getElem_mem hlt)) _ _ ?_⟩
          intro hz1 hz2; clear hz1 hz2
          refine ⟨?_, ?_⟩
          · simp only [List.length_map, List.length_cons, List.length_nil]
            try simp only [List.length_take]
            show _ * (40 + 1) ≤ _
            omega
          refine own_of (q := q) (H0 := H) ?_ ?_ ?_ (fun c hc => ?_)
          · exact rfl
          · exact rfl
          · exact fun _ h => h
          have hsn : ((l.args.take j).map (lvInst bys)).map lvA ++ [lvX (lvInst bys l.args[j])] = ((l.args.take (j + 1)).map (lvInst bys)).map lvA := by rw [List.take_succ_eq_append_getElem hlt, List.map_append, List.map_append, ← lvA_eq]; rfl
          have hnext : Le (.sl (.own c) 3 (((l.args.take j).map (lvInst bys)).map lvA ++ [lvX (lvInst bys l.args[j])])) (.sl (ownQ (some c)) 3 (((l.args.take (j + 1)).map (lvInst bys)).map lvA)) := by rw [hsn]; exact Le.refl _
          refine ⟨in64_of (by first | omega | (dsimp only; omega)) (by first | omega | (dsimp only; omega)), ?_⟩
          exact ⟨(some c, j + 1), (by simp only; omega), by (try dsimp only); omega, ⟨⟨Le.refl _, ⟨rfl, rfl⟩, ⟨rfl, rfl⟩, ⟨rfl, rfl⟩, Le.refl _, trivial⟩, ⟨⟨rfl, ⟨Le.refl _, Le.refl _, hnext, trivial⟩⟩, ⟨rfl, LeL.refl _⟩, ⟨rfl, LeL.refl _⟩, trivial⟩, List.Sublist.refl _⟩⟩
        · simp only [List.length_map] at h1
          have hj' : l.args.length = j := by omega
          subst hj'
          have hfin : Le (.agg [.i l.kind, .i l.n, .sl (ownQ q) 3 (((l.args.take l.args.length).map (lvInst bys)).map lvA)]) (lvX (.mk l.kind l.n (l.args.map (lvInst bys)))) := Le.agg ⟨Le.refl _, Le.refl _, Le.trans (ownQ_le _ _ _) (le_of_eq (by rw [List.take_length]; rfl)), trivial⟩
          exact ⟨_, _, hfin, bufH_sub q _, hq⟩
set_option maxRecDepth 100000 in
theorem LevelNodes64 (l : Lv) : Ans Tryz.prog 29 [lvX l, .i (64 : Nat)] (.i (min l.nodes 65 : Nat)) := (LevelNodes_con 64 (by decide) _ l (Nat.le_refl _)).to (congrArg AV.i (by omega))
set_option maxRecDepth 100000 in
theorem ref03grown_con (o : Own) (bys : List Lv) : ∀ (N : Nat) (l : Lv), l.nodes ≤ N → N ≤ 1000000 → lvFit bys.length l = true → Ans Tryz.prog 198 [lvX l, .sl o 3 (bys.map lvA)] (.i (lvGrown bys l)) := by
  intro N
  induction N with
  | zero => intro l h; have := l.nodes_pos; omega
  | succ N ih =>
    intro l hN hN1 hfit H Q hq
    have hnd := l.nodes_eq
    have hla := lvLen_nodes l.args
    rw [lvGrown_eq] at hq
    refine con_of_awp (esc := fun _ => false) tab_ok mixed Tryz.func198 rfl (ent Tryz.func198 (by kernel_rfl) rfl) (by kernel_rfl) ?_
    intro hw hn
    clear hw hn
    refine ifB_dec (fun h0 => ?_) (fun h0 => ?_)
    · rw [if_pos h0] at hq
      have hr := lvFit_num hfit h0
      have hlt : l.n.toNat < bys.length := by omega
      have he : bys.getD l.n.toNat (.mk 0 0 []) = bys[l.n.toNat] := by simp [List.getD_eq_getElem?_getD, hlt]
      rw [he] at hq
      refine ⟨l.n.toNat, by omega, _, lvAt hlt, ?_⟩
      refine ⟨_, LeL.refl _, LevelNodes64 _ _ _ ?_⟩
      intro hz1 hz2; clear hz1 hz2
      exact ⟨_, H, Le.refl _, List.Sublist.refl _, hq⟩
    · rw [if_neg h0] at hq
      refine ⟨Nat, fun j => ⟨[(1, .g (.sl o 3 (bys.map lvA))), (2, .lp 2 0), (4, .g (.i 0)), (5, .g (.i (1 + lvGrownL bys (l.args.take j) : Nat))), (6, .g (.i j))], [(2, (lvX l).cells)], H⟩,
        fun j => j ≤ l.args.length, fun j => l.args.length - j, ⟨0, Nat.zero_le _, ?_⟩, ?_⟩
      · exact ⟨⟨Le.refl _, ⟨rfl, rfl⟩, Le.refl _, Le.refl _, Le.refl _, trivial⟩, ⟨⟨rfl, LeL.refl _⟩, trivial⟩, List.Sublist.refl _⟩
      · intro j hj
        refine ifB_dec (fun h1 => ?_) (fun h1 => ?_)
        · simp only [List.length_map] at h1
          have hlt : j < l.args.length := by omega
          have hmem := Lv.nodesL_mem (List.getElem_mem hlt)
          have hs := lvGrownL_snoc bys hlt
          have hle := lvGrownL_le bys (l.args.take (j + 1))
          have hp := nodesL_le l.args (j + 1)
          refine ⟨j, rfl, _, lvAt hlt, ?_⟩
          refine ⟨_, LeL.refl _, ih l.args[j] (by omega) (by omega) (lvFit_arg hfit (List.getElem_mem hlt)) _ _ ?_⟩
          intro hz1 hz2; clear hz1 hz2
          refine ⟨in64_of (by first | omega | (dsimp only; omega)) (by first | omega | (dsimp only; omega)), ?_⟩
          refine ⟨in64_of (by first | omega | (dsimp only; omega)) (by first | omega | (dsimp only; omega)), ?_⟩
          refine ⟨j + 1, (by omega), by (try dsimp only); omega, ⟨⟨Le.refl _, ⟨rfl, rfl⟩, Le.refl _, le_of_eq (congrArg AV.i (by omega)), Le.refl _, trivial⟩, ⟨⟨rfl, LeL.refl _⟩, trivial⟩, List.Sublist.refl _⟩⟩
        · simp only [List.length_map] at h1
          have hj' : l.args.length = j := by omega
          subst hj'
          exact ⟨_, H, le_of_eq (congrArg AV.i (by rw [List.take_length])), List.Sublist.refl _, hq⟩
set_option maxRecDepth 100000 in
theorem ref03Inst_con (o : Own) (bys : List Lv) (l : Lv) : Ans Tryz.prog 186 [lvX l, .sl o 3 (bys.map lvA)] (.tup [lvX (lvIn bys l).1, .b (lvIn bys l).2]) := by
  intro H Q hq
  have hm : (bys.map lvA).length = bys.length := List.length_map _
  have no : lvInstOk bys l = false → ∃ r H', Le (.tup [.agg [.i 0, .i 0, .sl .full 0 []], .b false]) r ∧ List.Sublist H' H ∧ Q r H' := fun h => ⟨.tup [lvX (lvIn bys l).1, .b (lvIn bys l).2], H, Le.tup ⟨by rw [lvIn, if_neg (by rw [h]; decide)]; exact le_lv0, by rw [lvIn, if_neg (by rw [h]; decide)]; exact Le.refl _, trivial⟩, List.Sublist.refl _, hq⟩
  have yes : lvInstOk bys l = true → ∃ r H', Le (.tup [lvX (lvInst bys l), .b true]) r ∧ List.Sublist H' H ∧ Q r H' := fun h => ⟨_, H, le_of_eq (by rw [lvIn, if_pos h]), List.Sublist.refl _, hq⟩
  refine con_of_awp (esc := fun _ => false) tab_ok mixed Tryz.func186 rfl (ent Tryz.func186 (by kernel_rfl) rfl) (by kernel_rfl) ?_
  intro hw hn
  have hlen : bys.length ≤ 9223372036854775807 := by
    have := Wf.len (hw (.sl o 3 (bys.map lvA)) (by simp))
    simpa using this
  clear hw hn
  by_cases h1 : lvRight bys.length l = true
  rotate_left
  · refine ⟨_, LeL.refl _, (ref03Right_con _ l).no (by rw [hm]; exact h1) _ _ ?_⟩
    intro hz1 hz2; clear hz1 hz2
    exact no (by unfold lvInstOk; rw [ntrue h1]; rfl)
  refine ⟨_, LeL.refl _, (ref03Right_con _ l).yes (by rw [hm]; exact h1) _ _ ?_⟩
  intro hz1 hz2; clear hz1 hz2
  have hfit := lvRight_both h1
  refine ⟨Nat, fun j => ⟨[(1, .g (.sl o 3 (bys.map lvA))), (2, .lp 2 0), (4, .lp 4 0), (5, .g (.b false)), (6, .g (.i j))], [(4, [.i 0, .i 0, .sl .full 0 []]), (2, (lvX l).cells)], H⟩,
    fun j => j ≤ bys.length ∧ (bys.take j).all (lvRight 4) = true, fun j => bys.length - j, ⟨0, ⟨Nat.zero_le _, rfl⟩, ?_⟩, ?_⟩
  · (constructor <;> repeat' (first | exact trivial | exact ⟨rfl, rfl⟩ | exact ⟨rfl, LeL.refl _⟩ | exact Le.refl _ | exact List.Sublist.refl _ | (show Le (AV.i _) (AV.i _); rw [List.length_map]; exact Le.refl _) | refine And.intro ?_ ?_))
  · rintro j ⟨hj, hall⟩
    refine ifB_dec (fun h2 => ?_) (fun h2 => ?_)
    · simp only [List.length_map] at h2
      have hlt : j < bys.length := by omega
      refine ⟨j, rfl, _, lvAt hlt, ?_⟩
      by_cases h3 : lvRight 4 bys[j] = true
      · refine ⟨_, LeL.refl _, (ref03Right_con _ _).yes h3 _ _ ?_⟩
        intro hz1 hz2; clear hz1 hz2
        refine ⟨in64_of (by first | omega | (dsimp only; omega)) (by first | omega | (dsimp only; omega)), ?_⟩
        refine ⟨j + 1, ⟨by omega, all_take hlt hall h3⟩, by (try dsimp only); omega, ?_⟩
        (constructor <;> repeat' (first | exact trivial | exact ⟨rfl, rfl⟩ | exact ⟨rfl, LeL.refl _⟩ | exact Le.refl _ | exact List.Sublist.refl _ | (show Le (AV.i _) (AV.i _); rw [List.length_map]; exact Le.refl _) | refine And.intro ?_ ?_))
      · refine ⟨_, LeL.refl _, (ref03Right_con _ _).no h3 _ _ ?_⟩
        intro hz1 hz2; clear hz1 hz2
        exact no (by unfold lvInstOk; rw [all_no hlt (ntrue h3)]; simp)
    · simp only [List.length_map] at h2
      have hj' : bys.length = j := by omega
      subst hj'
      rw [List.take_length] at hall
      refine ⟨_, LeL.refl _, ref03grown_con o bys _ l (Nat.le_refl _) (by omega) hfit.2 _ _ ?_⟩
      intro hz1 hz2; clear hz1 hz2
      refine ifB_dec (fun h4 => ?_) (fun h4 => ?_)
      · exact no (by unfold lvInstOk; rw [decide_eq_false (show ¬ lvGrown bys l ≤ 64 by omega)]; simp)
      · refine ⟨_, LeL.refl _, ref03inst_con o bys (fun b hb => by have := (lvRight_both (List.all_eq_true.1 hall b hb)).1; omega) _ l (Nat.le_refl _) (by omega) hfit.2 _ _ ?_⟩
        intro hz1 hz2; clear hz1 hz2
        exact yes (by unfold lvInstOk; rw [h1, hall, decide_eq_true (show lvGrown bys l ≤ 64 by omega)]; rfl)
set_option maxRecDepth 100000 in
set_option maxHeartbeats 1000000 in
theorem ref04levels_con (o : Own) (bys : List Lv) : ∀ (N : Nat) (t : Tm), t.nodes ≤ N → N ≤ 1000000 → Ans Tryz.prog 163 [tmX t, .sl o 3 (bys.map lvA)] (.tup [tmX (tmIn bys t).1, .b (tmIn bys t).2]) := by
  intro N
  induction N with
  | zero => intro l h; have := l.nodes_pos; omega
  | succ N ih =>
    intro t hN hN1 H Q hq
    have hnd := t.nodes_eq
    have hll := lvLen_nodes t.levels
    have htl := tmLen_nodes t.args
    have no : ∀ H', List.Sublist H H' → tmInst bys t = none → ∃ r H2, Le (.tup [.agg [.i 0, .i 0, .str [], .sl .full 0 [], .sl .full 0 []], .b false]) r ∧ List.Sublist H2 H' ∧ Q r H2 := fun H' hs h => ⟨.tup [tmX tm0, .b false], H, Le.tup ⟨le_tm0, Le.refl _, trivial⟩, hs, by rw [tmIn_none h] at hq; exact hq⟩
    refine con_of_awp (esc := fun _ => false) tab_ok mixed Tryz.func163 rfl (ent Tryz.func163 (by kernel_rfl) rfl) (by kernel_rfl) ?_
    intro hw hn
    clear hw hn
    refine ⟨Option Cap × Nat, fun p => ⟨[(1, .g (.sl o 3 (bys.map lvA))), (2, .lp 2 0), (4, .lp 4 0), (5, .g (.b false)), (6, .lp 6 0), (7, .g (.i p.2))], [(6, [.i t.kind, .i t.n, .str t.name, .sl (ownQ p.1) 3 (((t.levels.take p.2).map (lvInst bys)).map lvA), .sl .full 0 []]), (4, [.i 0, .i 0, .str [], .sl .full 0 [], .sl .full 0 []]), (2, (tmX t).cells)], bufH p.1 H⟩,
      fun p => p.2 ≤ t.levels.length ∧ (t.levels.take p.2).all (lvInstOk bys) = true, fun p => t.levels.length - p.2, ⟨(none, 0), ⟨Nat.zero_le _, rfl⟩, ?_⟩, ?_⟩
    · exact ⟨⟨Le.refl _, ⟨rfl, rfl⟩, ⟨rfl, rfl⟩, Le.refl _, ⟨rfl, rfl⟩, Le.refl _, trivial⟩, ⟨⟨rfl, ⟨Le.refl _, Le.refl _, Le.refl _, Le.nil' _, Le.refl _, trivial⟩⟩, ⟨rfl, LeL.refl _⟩, ⟨rfl, LeL.refl _⟩, trivial⟩, List.Sublist.refl _⟩
    · rintro ⟨q, j⟩ ⟨hj, hall⟩
      simp only at hj hall
      refine ifB_dec (fun h1 => ?_) (fun h1 => ?_)
      · simp only [List.length_map] at h1
        have hlt : j < t.levels.length := by omega
        refine ⟨j, rfl, _, lvAt hlt, ?_⟩
        by_cases h2 : lvInstOk bys t.levels[j] = true
        rotate_left
        · refine ⟨_, LeL.refl _, (ref03Inst_con o bys t.levels[j]).to (by rw [lvIn, if_neg h2]) _ _ ?_⟩
          intro hz1 hz2; clear hz1 hz2
          exact no _ (bufH_sub q H) (by rw [tmInst_eq, all_no hlt (ntrue h2)]; rfl)
        refine ⟨_, LeL.refl _, (ref03Inst_con o bys t.levels[j]).to (by rw [lvIn, if_pos h2]) _ _ ?_⟩
        intro hz1 hz2; clear hz1 hz2
        refine ⟨?_, ?_⟩
        · simp only [List.length_map, List.length_cons, List.length_nil]
          try simp only [List.length_take]
          show _ * (40 + 1) ≤ _
          omega
        refine own_of (q := q) (H0 := H) ?_ ?_ ?_ (fun c hc => ?_)
        · exact rfl
        · exact rfl
        · exact fun _ h => h
        have hsn : ((t.levels.take j).map (lvInst bys)).map lvA ++ [lvX (lvInst bys t.levels[j])] = ((t.levels.take (j + 1)).map (lvInst bys)).map lvA := by rw [List.take_succ_eq_append_getElem hlt, List.map_append, List.map_append, ← lvA_eq]; rfl
        have hnext : Le (.sl (.own c) 3 (((t.levels.take j).map (lvInst bys)).map lvA ++ [lvX (lvInst bys t.levels[j])])) (.sl (ownQ (some c)) 3 (((t.levels.take (j + 1)).map (lvInst bys)).map lvA)) := by rw [hsn]; exact Le.refl _
        refine ⟨in64_of (by first | omega | (dsimp only; omega)) (by first | omega | (dsimp only; omega)), ?_⟩
        exact ⟨(some c, j + 1), ⟨by simp only; omega, all_take hlt hall h2⟩, by (try dsimp only); omega, ⟨⟨Le.refl _, ⟨rfl, rfl⟩, ⟨rfl, rfl⟩, Le.refl _, ⟨rfl, rfl⟩, Le.refl _, trivial⟩, ⟨⟨rfl, ⟨Le.refl _, Le.refl _, Le.refl _, hnext, Le.refl _, trivial⟩⟩, ⟨rfl, LeL.refl _⟩, ⟨rfl, LeL.refl _⟩, trivial⟩, List.Sublist.refl _⟩⟩
      · simp only [List.length_map] at h1
        have hj' : t.levels.length = j := by omega
        subst hj'
        rw [List.take_length] at hall
        have hlv : Le (.sl (ownQ q) 3 (((t.levels.take t.levels.length).map (lvInst bys)).map lvA)) (.sl .no 3 ((t.levels.map (lvInst bys)).map lvA)) := by rw [List.take_length]; exact ownQ_le _ _ _
        refine ⟨Option Cap × Nat × List Tm, fun p => ⟨[(1, .g (.sl o 3 (bys.map lvA))), (2, .lp 2 0), (4, .lp 4 0), (5, .g (.b false)), (6, .lp 6 0), (10, .g (.i p.2.1))], [(6, [.i t.kind, .i t.n, .str t.name, .sl .no 3 ((t.levels.map (lvInst bys)).map lvA), .sl (ownQ p.1) 5 (p.2.2.map tmA)]), (4, [.i 0, .i 0, .str [], .sl .full 0 [], .sl .full 0 []]), (2, (tmX t).cells)], bufH p.1 H⟩,
          fun p => p.2.1 ≤ t.args.length ∧ tmInstL bys (t.args.take p.2.1) = some p.2.2, fun p => t.args.length - p.2.1, ⟨(none, 0, []), ⟨Nat.zero_le _, rfl⟩, ?_⟩, ?_⟩
        · exact ⟨⟨Le.refl _, ⟨rfl, rfl⟩, ⟨rfl, rfl⟩, Le.refl _, ⟨rfl, rfl⟩, Le.refl _, trivial⟩, ⟨⟨rfl, ⟨Le.refl _, Le.refl _, Le.refl _, hlv, Le.nil' _, trivial⟩⟩, ⟨rfl, LeL.refl _⟩, ⟨rfl, LeL.refl _⟩, trivial⟩, bufH_sub q _⟩
        · rintro ⟨q, j, us⟩ ⟨hj, hus⟩
          simp only at hj hus
          refine ifB_dec (fun h1 => ?_) (fun h1 => ?_)
          · simp only [List.length_map] at h1
            have hlt : j < t.args.length := by omega
            have hmem := Tm.nodesL_mem (List.getElem_mem hlt)
            have hul := tmInstL_len hus
            rw [List.length_take] at hul
            refine ⟨j, rfl, _, tmAt' hlt, ?_⟩
            cases hu : tmInst bys t.args[j] with
            | none =>
              refine ⟨_, LeL.refl _, (ih t.args[j] (by omega) (by omega)).to (by rw [tmIn_none hu]) _ _ ?_⟩
              intro hz1 hz2; clear hz1 hz2
              exact no _ (bufH_sub q H) (by rw [tmInst_eq, if_pos hall, tmInstL_no hlt hu]; rfl)
            | some u =>
              refine ⟨_, LeL.refl _, (ih t.args[j] (by omega) (by omega)).to (by rw [tmIn_some hu]) _ _ ?_⟩
              intro hz1 hz2; clear hz1 hz2
              refine ⟨?_, ?_⟩
              · simp only [List.length_map, List.length_cons, List.length_nil]
                try simp only [List.length_take]
                show _ * (80 + 1) ≤ _
                omega
              refine own_of (q := q) (H0 := H) ?_ ?_ ?_ (fun c hc => ?_)
              · exact rfl
              · exact rfl
              · exact fun _ h => h
              have hsn : us.map tmA ++ [tmX u] = (us ++ [u]).map tmA := by rw [List.map_append, ← tmA_eq]; rfl
              have hnext : Le (.sl (.own c) 5 (us.map tmA ++ [tmX u])) (.sl (ownQ (some c)) 5 ((us ++ [u]).map tmA)) := by rw [hsn]; exact Le.refl _
              refine ⟨in64_of (by first | omega | (dsimp only; omega)) (by first | omega | (dsimp only; omega)), ?_⟩
              exact ⟨(some c, j + 1, us ++ [u]), ⟨by simp only; omega, tmInstL_snoc hlt hus hu⟩, by (try dsimp only); omega, ⟨⟨Le.refl _, ⟨rfl, rfl⟩, ⟨rfl, rfl⟩, Le.refl _, ⟨rfl, rfl⟩, Le.refl _, trivial⟩, ⟨⟨rfl, ⟨Le.refl _, Le.refl _, Le.refl _, Le.refl _, hnext, trivial⟩⟩, ⟨rfl, LeL.refl _⟩, ⟨rfl, LeL.refl _⟩, trivial⟩, List.Sublist.refl _⟩⟩
          · simp only [List.length_map] at h1
            have hj' : t.args.length = j := by omega
            subst hj'
            rw [List.take_length] at hus
            have hres : tmIn bys t = (.mk t.kind t.n t.name (t.levels.map (lvInst bys)) us, true) := tmIn_some (by rw [tmInst_eq, if_pos hall, hus, lvInstL_map]; rfl)
            rw [hres] at hq
            exact ⟨.tup [tmX (.mk t.kind t.n t.name (t.levels.map (lvInst bys)) us), .b true], H, Le.tup ⟨Le.agg ⟨Le.refl _, Le.refl _, Le.refl _, Le.refl _, ownQ_le _ _ _, trivial⟩, Le.refl _, trivial⟩, bufH_sub q _, hq⟩
set_option maxRecDepth 100000 in
theorem ref04Any_con (t : Tm) (n : Int) : Ans Tryz.prog 79 [tmX t, .i n] (.b (tmRight n 1125899906842624 t)) := by
  intro H Q hq
  refine con_of_awp (esc := fun _ => false) tab_ok mixed Tryz.func79 rfl (ent Tryz.func79 (by kernel_rfl) rfl) (by kernel_rfl) ?_
  intro hw hn
  refine ⟨_, LeL.refl _, ref04Right_con n 1125899906842624 t _ _ ?_⟩
  intro hz1 hz2; clear hz1 hz2
  exact ⟨_, H, Le.refl _, List.Sublist.refl _, hq⟩
set_option maxRecDepth 100000 in
theorem ref04Levels_con (o : Own) (bys : List Lv) (t : Tm) : Ans Tryz.prog 128 [tmX t, .sl o 3 (bys.map lvA)] (.tup [tmX (tmLv bys t).1, .b (tmLv bys t).2]) := by
  intro H Q hq
  have hm : (bys.map lvA).length = bys.length := List.length_map _
  have no : tmAt bys t = none → ∃ r H', Le (.tup [.agg [.i 0, .i 0, .str [], .sl .full 0 [], .sl .full 0 []], .b false]) r ∧ List.Sublist H' H ∧ Q r H' := fun h => ⟨.tup [tmX tm0, .b false], H, Le.tup ⟨le_tm0, Le.refl _, trivial⟩, List.Sublist.refl _, by rw [tmLv_none h] at hq; exact hq⟩
  refine con_of_awp (esc := fun _ => false) tab_ok mixed Tryz.func128 rfl (ent Tryz.func128 (by kernel_rfl) rfl) (by kernel_rfl) ?_
  intro hw hn
  clear hw hn
  by_cases h1 : tmRight bys.length 1125899906842624 t = true
  rotate_left
  · refine ⟨_, LeL.refl _, (ref04Any_con t _).no (by rw [hm]; exact h1) _ _ ?_⟩
    intro hz1 hz2; clear hz1 hz2
    exact no (by rw [tmAt, if_neg h1])
  refine ⟨_, LeL.refl _, (ref04Any_con t _).yes (by rw [hm]; exact h1) _ _ ?_⟩
  intro hz1 hz2; clear hz1 hz2
  have hnod := tmRight_nodes h1
  cases hu : tmInst bys t with
  | none =>
    refine ⟨_, LeL.refl _, (ref04levels_con o bys _ t (Nat.le_refl _) (by omega)).to (by rw [tmIn_none hu]) _ _ ?_⟩
    intro hz1 hz2; clear hz1 hz2
    exact no (by rw [tmAt, if_pos h1, hu])
  | some u =>
    refine ⟨_, LeL.refl _, (ref04levels_con o bys _ t (Nat.le_refl _) (by omega)).to (by rw [tmIn_some hu]) _ _ ?_⟩
    intro hz1 hz2; clear hz1 hz2
    refine ⟨_, LeL.refl _, ref04Nodes_con 2000 (by decide) _ u (Nat.le_refl _) _ _ ?_⟩
    intro hz1 hz2; clear hz1 hz2
    refine ifB_dec (fun h2 => ?_) (fun h2 => ?_)
    · exact no (by rw [tmAt, if_pos h1, hu]; simp only; rw [if_neg (by omega)])
    · have he : tmLv bys t = (u, true) := tmLv_some (by rw [tmAt, if_pos h1, hu]; simp only; rw [if_pos (by omega)])
      rw [he] at hq
      exact ⟨_, H, Le.refl _, List.Sublist.refl _, hq⟩
end Go.Proofs.YtnjnfegafmhgnaaGreatDoor

/-
  The reference's entries: span, Right, Plain, at, Type, Value. No condition.
-/
namespace Go.Proofs.YtnjnfegafmhgnaaGreatDoor
open Go.RowKit

/-- an entry's parts, one by one -/
def EnH (e : En) : Prop := (e.kind = 2 → spanB e.height 1 1048576 = true) ∧ (e.kind ≠ 2 → e.height = 0)
def EnI (e : En) : Prop := (e.kind = 6 ∨ e.kind = 7) → nameOk e.family = true ∧ spanB e.fixed 0 32 = true ∧ spanB e.index 0 32 = true ∧ spanB e.fields 0 32 = true
def EnO (e : En) : Prop := ¬ (e.kind = 6 ∨ e.kind = 7) → e.family = [] ∧ e.index = 0 ∧ e.fields = 0 ∧ (e.kind = 5 → spanB e.fixed 0 16 = true) ∧ (e.kind ≠ 5 → e.fixed = 0)
def EnC (e : En) : Prop := (¬ (e.kind = 5 ∨ e.kind = 7) → e.ctors.length = 0) ∧ e.ctors.length ≤ 8
theorem enNumbered_iff (e : En) : enNumbered e = true ↔ EnH e ∧ EnI e ∧ EnO e := by
  unfold enNumbered EnH EnI EnO
  by_cases k : e.kind = 6 ∨ e.kind = 7
  · have k2 : e.kind ≠ 2 := by omega
    rw [if_pos k]
    simp only [Bool.and_eq_true, decide_eq_true_eq]
    constructor
    · rintro ⟨h1, h2⟩
      exact ⟨⟨fun h => absurd h k2, fun _ => h1⟩, fun _ => h2, fun h => absurd k h⟩
    · rintro ⟨h1, h2, _⟩
      exact ⟨h1.2 k2, h2 k⟩
  · rw [if_neg k]
    by_cases k5 : e.kind = 5
    · have k2 : e.kind ≠ 2 := by omega
      rw [if_pos k5]
      simp only [Bool.and_eq_true, decide_eq_true_eq]
      constructor
      · rintro ⟨h1, h2, h3, h4, h5⟩
        exact ⟨⟨fun h => absurd h k2, fun _ => h1⟩, fun h => absurd h k, fun _ => ⟨h2, h4, h5, fun _ => h3, fun h => absurd k5 h⟩⟩
      · rintro ⟨h1, _, h3⟩
        obtain ⟨a, b, c, d, _⟩ := h3 k
        exact ⟨h1.2 k2, a, d k5, b, c⟩
    · rw [if_neg k5]
      by_cases k2 : e.kind = 2
      · rw [if_pos k2]
        simp only [Bool.and_eq_true, decide_eq_true_eq]
        constructor
        · rintro ⟨h1, h2, h3, h4, h5⟩
          exact ⟨⟨fun _ => h1, fun h => absurd k2 h⟩, fun h => absurd h k, fun _ => ⟨h2, h4, h5, fun h => absurd h k5, fun _ => h3⟩⟩
        · rintro ⟨h1, _, h3⟩
          obtain ⟨a, b, c, _, d⟩ := h3 k
          exact ⟨h1.1 k2, a, d k5, b, c⟩
      · rw [if_neg k2]
        simp only [Bool.and_eq_true, decide_eq_true_eq]
        constructor
        · rintro ⟨h1, h2, h3, h4, h5⟩
          exact ⟨⟨fun h => absurd h k2, fun _ => h1⟩, fun h => absurd h k, fun _ => ⟨h2, h4, h5, fun h => absurd h k5, fun _ => h3⟩⟩
        · rintro ⟨h1, _, h3⟩
          obtain ⟨a, b, c, _, d⟩ := h3 k
          exact ⟨h1.2 k2, a, d k5, b, c⟩
theorem enListed_iff (e : En) : enListed e = true ↔ EnC e ∧ (e.ctors.any fun s => !nameOk s) = false := by
  unfold enListed EnC
  by_cases k : e.kind = 5 ∨ e.kind = 7
  · rw [if_pos k]
    simp only [Bool.and_eq_true, decide_eq_true_eq, Bool.not_eq_true']
    exact ⟨fun h => ⟨⟨fun h => absurd k h, h.1⟩, h.2⟩, fun h => ⟨h.1.2, h.2⟩⟩
  · rw [if_neg k]
    simp only [decide_eq_true_eq]
    constructor
    · intro h
      exact ⟨⟨fun _ => h, by omega⟩, by rw [List.eq_nil_of_length_eq_zero h]; rfl⟩
    · intro h
      exact h.1.1 k
theorem enRight_iff (e : En) : enRight e = true ↔ spanB e.kind 1 7 = true ∧ nameOk e.name = true ∧ spanB e.params 0 4 = true ∧ tmRight e.params 0 e.type = true ∧ enValued e = true ∧ (EnH e ∧ EnI e ∧ EnO e) ∧ EnC e ∧ (e.ctors.any fun s => !nameOk s) = false := by
  unfold enRight
  simp only [Bool.and_eq_true, enNumbered_iff, enListed_iff]

set_option maxRecDepth 100000 in
theorem ref11span_con (n a b : Int) : Ans Tryz.prog 67 [.i n, .i a, .i b] (.b (spanB n a b)) := by
  intro H Q hq
  refine con_of_awp (esc := fun _ => false) tab_ok mixed Tryz.func67 rfl (ent Tryz.func67 (by kernel_rfl) rfl) (by kernel_rfl) ?_
  intro hw hn
  have fin : ∀ q : Bool, q = spanB n a b → ∃ r H', Le (.b q) r ∧ List.Sublist H' H ∧ Q r H' := fun q h => ⟨_, H, ret_b h, List.Sublist.refl _, hq⟩
  refine ifB_dec (fun h1 => ?_) (fun h1 => ?_)
  · refine ifB_dec (fun h2 => ?_) (fun h2 => ?_)
    · exact fin _ (by simp [spanB, show a ≤ n from h1, show n ≤ b from h2])
    · exact fin _ (by simp [spanB, show ¬ n ≤ b from h2])
  · exact fin _ (by simp [spanB, show ¬ a ≤ n from h1])
set_option maxRecDepth 100000 in
set_option maxHeartbeats 1000000 in
theorem ref11Right_con (e : En) : Ans Tryz.prog 24 [enX e] (.b (enRight e)) := by
  intro H Q hq
  have hiff := enRight_iff e
  have fin : ∀ q : Bool, q = enRight e → ∃ r H', Le (.b q) r ∧ List.Sublist H' H ∧ Q r H' := fun q h => ⟨_, H, ret_b h, List.Sublist.refl _, hq⟩
  have no : ¬ enRight e = true → ∃ r H', Le (.b false) r ∧ List.Sublist H' H ∧ Q r H' := fun h => fin _ (ntrue h).symm
  refine con_of_sem tab_ok Tryz.func24 rfl (ent Tryz.func24 (by kernel_rfl) rfl) (by kernel_rfl) ?_
  intro hw hn
  clear hw hn
  refine sem_seq (esc := fun _ => false) tab_ok mixed ?_
  refine sem_seq (esc := fun _ => false) tab_ok mixed ?_
  by_cases k1 : spanB e.kind 1 7 = true
  rotate_left
  · refine ⟨_, LeL.refl _, (ref11span_con e.kind 1 7).no k1 _ _ ?_⟩
    intro hz1 hz2; clear hz1 hz2
    exact no (fun h => k1 ((fun h => h.1) (hiff.1 h)))
  refine ⟨_, LeL.refl _, (ref11span_con e.kind 1 7).yes k1 _ _ ?_⟩
  intro hz1 hz2; clear hz1 hz2
  by_cases k2 : nameOk e.name = true
  rotate_left
  · refine ⟨_, LeL.refl _, (ref01Right_con e.name).no k2 _ _ ?_⟩
    intro hz1 hz2; clear hz1 hz2
    exact no (fun h => k2 ((fun h => h.2.1) (hiff.1 h)))
  refine ⟨_, LeL.refl _, (ref01Right_con e.name).yes k2 _ _ ?_⟩
  intro hz1 hz2; clear hz1 hz2
  by_cases k4 : tmRight e.params 0 e.type = true
  rotate_left
  · refine ⟨_, LeL.refl _, (ref04Right_con e.params 0 e.type).no k4 _ _ ?_⟩
    intro hz1 hz2; clear hz1 hz2
    exact no (fun h => k4 ((fun h => h.2.2.2.1) (hiff.1 h)))
  refine ⟨_, LeL.refl _, (ref04Right_con e.params 0 e.type).yes k4 _ _ ?_⟩
  intro hz1 hz2; clear hz1 hz2
  by_cases k3 : spanB e.params 0 4 = true
  rotate_left
  · refine ⟨_, LeL.refl _, (ref11span_con e.params 0 4).no k3 _ _ ?_⟩
    intro hz1 hz2; clear hz1 hz2
    exact no (fun h => k3 ((fun h => h.2.2.1) (hiff.1 h)))
  refine ⟨_, LeL.refl _, (ref11span_con e.params 0 4).yes k3 _ _ ?_⟩
  intro hz1 hz2; clear hz1 hz2
  have hp : 0 ≤ e.params ∧ e.params ≤ 4 := by simpa [spanB] using k3
  refine sem_seq (esc := fun _ => false) tab_ok mixed ?_
  refine ⟨[tmX e.value, tmX tm0], ⟨Le.refl _, le_tm0, trivial⟩, SameTerm_con _ e.value tm0 (Nat.le_refl _) _ _ ?_⟩
  intro hz1 hz2; clear hz1 hz2
  obtain ⟨none, hnone⟩ : ∃ q, tmEq e.value tm0 = q := ⟨_, rfl⟩
  refine sem_le ⟨[(1, .lp 1 0), (2, .g (.b false)), (3, .g (.b none))], [(1, (enX e).cells)], H⟩ ?_ ?_
  · exact ⟨⟨⟨rfl, rfl⟩, Le.refl _, ret_b hnone, trivial⟩, ⟨⟨rfl, LeL.refl _⟩, trivial⟩, List.Sublist.refl _⟩
  refine sem_join (esc := fun _ => false) tab_ok mixed (X := Unit) (fun q => ⟨[(1, .lp 1 0), (2, .g (.b false))], [(1, (enX e).cells)], H⟩) (fun q => enValued e = true) ?_ (fun q hI => ?_)
  · have hv := hiff
    refine ifB_dec (fun h2 => ?_) (fun h2 => ?_)
    · have hval : enValued e = tmRight e.params 0 e.value := by rw [enValued, if_pos (by omega)]
      by_cases h7 : tmRight e.params 0 e.value = true
      rotate_left
      · refine ⟨_, LeL.refl _, (ref04Right_con e.params 0 e.value).no h7 _ _ ?_⟩
        intro hz1 hz2; clear hz1 hz2
        exact no (fun h => h7 (by rw [← hval]; exact (hiff.1 h).2.2.2.2.1))
      refine ⟨_, LeL.refl _, (ref04Right_con e.params 0 e.value).yes h7 _ _ ?_⟩
      intro hz1 hz2; clear hz1 hz2
      refine ⟨(), by rw [hval]; exact h7, ?_⟩
      (constructor <;> repeat' (first | exact trivial | exact ⟨rfl, rfl⟩ | exact ⟨rfl, LeL.refl _⟩ | exact Le.refl _ | exact List.Sublist.refl _ | (show Le (AV.i _) (AV.i _); rw [List.length_map]; exact Le.refl _) | refine And.intro ?_ ?_))
    refine ifB_dec (fun h3 => ?_) (fun h3 => ?_)
    · have hval : enValued e = tmRight e.params 0 e.value := by rw [enValued, if_pos (by omega)]
      by_cases h7 : tmRight e.params 0 e.value = true
      rotate_left
      · refine ⟨_, LeL.refl _, (ref04Right_con e.params 0 e.value).no h7 _ _ ?_⟩
        intro hz1 hz2; clear hz1 hz2
        exact no (fun h => h7 (by rw [← hval]; exact (hiff.1 h).2.2.2.2.1))
      refine ⟨_, LeL.refl _, (ref04Right_con e.params 0 e.value).yes h7 _ _ ?_⟩
      intro hz1 hz2; clear hz1 hz2
      refine ⟨(), by rw [hval]; exact h7, ?_⟩
      (constructor <;> repeat' (first | exact trivial | exact ⟨rfl, rfl⟩ | exact ⟨rfl, LeL.refl _⟩ | exact Le.refl _ | exact List.Sublist.refl _ | (show Le (AV.i _) (AV.i _); rw [List.length_map]; exact Le.refl _) | refine And.intro ?_ ?_))
    refine ifB_dec (fun h4 => ?_) (fun h4 => ?_)
    · have hval : enValued e = tmRight e.params 0 e.value := by rw [enValued, if_pos (by omega)]
      by_cases h7 : tmRight e.params 0 e.value = true
      rotate_left
      · refine ⟨_, LeL.refl _, (ref04Right_con e.params 0 e.value).no h7 _ _ ?_⟩
        intro hz1 hz2; clear hz1 hz2
        exact no (fun h => h7 (by rw [← hval]; exact (hiff.1 h).2.2.2.2.1))
      refine ⟨_, LeL.refl _, (ref04Right_con e.params 0 e.value).yes h7 _ _ ?_⟩
      intro hz1 hz2; clear hz1 hz2
      refine ⟨(), by rw [hval]; exact h7, ?_⟩
      (constructor <;> repeat' (first | exact trivial | exact ⟨rfl, rfl⟩ | exact ⟨rfl, LeL.refl _⟩ | exact Le.refl _ | exact List.Sublist.refl _ | (show Le (AV.i _) (AV.i _); rw [List.length_map]; exact Le.refl _) | refine And.intro ?_ ?_))
    have hno : ¬ (2 ≤ e.kind ∧ e.kind ≤ 4) := by omega
    refine ifB_dec (fun h6 => ?_) (fun h6 => ?_)
    · have hval : enValued e = (tmEq e.value tm0 || tmRight (min (e.params + 1) 4) 0 e.value) := by rw [enValued, if_neg hno, if_pos h6]
      rw [hnone] at hval
      cases none with
      | true =>
        refine ⟨(), by rw [hval]; rfl, ?_⟩
        (constructor <;> repeat' (first | exact trivial | exact ⟨rfl, rfl⟩ | exact ⟨rfl, LeL.refl _⟩ | exact Le.refl _ | exact List.Sublist.refl _ | (show Le (AV.i _) (AV.i _); rw [List.length_map]; exact Le.refl _) | refine And.intro ?_ ?_))
      | false =>
        refine ⟨in64_of (by first | omega | (dsimp only; omega)) (by first | omega | (dsimp only; omega)), ?_⟩
        by_cases h7 : tmRight (min (e.params + 1) 4) 0 e.value = true
        rotate_left
        · refine ⟨_, LeL.refl _, (ref04Right_con (min (e.params + 1) 4) 0 e.value).no h7 _ _ ?_⟩
          intro hz1 hz2; clear hz1 hz2
          exact no (fun h => h7 (by have := (hiff.1 h).2.2.2.2.1; rw [hval] at this; exact this))
        refine ⟨_, LeL.refl _, (ref04Right_con (min (e.params + 1) 4) 0 e.value).yes h7 _ _ ?_⟩
        intro hz1 hz2; clear hz1 hz2
        refine ⟨(), by rw [hval]; exact h7, ?_⟩
        (constructor <;> repeat' (first | exact trivial | exact ⟨rfl, rfl⟩ | exact ⟨rfl, LeL.refl _⟩ | exact Le.refl _ | exact List.Sublist.refl _ | (show Le (AV.i _) (AV.i _); rw [List.length_map]; exact Le.refl _) | refine And.intro ?_ ?_))
    · have hval : enValued e = tmEq e.value tm0 := by rw [enValued, if_neg hno, if_neg h6]
      rw [hnone] at hval
      cases none with
      | true =>
        refine ⟨(), hval, ?_⟩
        (constructor <;> repeat' (first | exact trivial | exact ⟨rfl, rfl⟩ | exact ⟨rfl, LeL.refl _⟩ | exact Le.refl _ | exact List.Sublist.refl _ | (show Le (AV.i _) (AV.i _); rw [List.length_map]; exact Le.refl _) | refine And.intro ?_ ?_))
      | false => exact no (fun h => by have := (hiff.1 h).2.2.2.2.1; rw [hval] at this; cases this)
  have kv := hI
  clear hI
  refine sem_join (esc := fun _ => false) tab_ok mixed (X := Unit) (fun q => ⟨[(1, .lp 1 0), (2, .g (.b false))], [(1, (enX e).cells)], H⟩) (fun q => EnH e) ?_ (fun q hI => ?_)
  · by_cases k : e.kind = 2
    · refine ifB_t k ?_
      by_cases k5 : spanB e.height 1 1048576 = true
      rotate_left
      · refine ⟨_, LeL.refl _, (ref11span_con e.height 1 1048576).no k5 _ _ ?_⟩
        intro hz1 hz2; clear hz1 hz2
        exact no (fun h => k5 ((fun h => h.2.2.2.2.2.1.1.1 k) (hiff.1 h)))
      refine ⟨_, LeL.refl _, (ref11span_con e.height 1 1048576).yes k5 _ _ ?_⟩
      intro hz1 hz2; clear hz1 hz2
      refine ifB_t k ?_
      refine ⟨(), ⟨fun _ => k5, fun h => absurd k h⟩, ?_⟩
      (constructor <;> repeat' (first | exact trivial | exact ⟨rfl, rfl⟩ | exact ⟨rfl, LeL.refl _⟩ | exact Le.refl _ | exact List.Sublist.refl _ | (show Le (AV.i _) (AV.i _); rw [List.length_map]; exact Le.refl _) | refine And.intro ?_ ?_))
    · refine ifB_f k ?_
      refine ifB_f k ?_
      refine ifB_dec (fun k5 => ?_) (fun k5 => ?_)
      · refine ⟨(), ⟨fun h => absurd h k, fun _ => k5⟩, ?_⟩
        (constructor <;> repeat' (first | exact trivial | exact ⟨rfl, rfl⟩ | exact ⟨rfl, LeL.refl _⟩ | exact Le.refl _ | exact List.Sublist.refl _ | (show Le (AV.i _) (AV.i _); rw [List.length_map]; exact Le.refl _) | refine And.intro ?_ ?_))
      · exact no (fun h => k5 ((hiff.1 h).2.2.2.2.2.1.1.2 k))
  have kh := hI
  clear hI
  refine sem_join (esc := fun _ => false) tab_ok mixed (X := Bool) (fun q => ⟨[(1, .lp 1 0), (2, .g (.b false)), (4, .g (.b q))], [(1, (enX e).cells)], H⟩) (fun q => (q = true ↔ e.kind = 6 ∨ e.kind = 7)) ?_ (fun q hI => ?_)
  · refine ifB_dec (fun k6 => ?_) (fun k6 => ?_)
    · refine ⟨true, ⟨fun _ => Or.inl k6, fun _ => rfl⟩, ?_⟩
      (constructor <;> repeat' (first | exact trivial | exact ⟨rfl, rfl⟩ | exact ⟨rfl, LeL.refl _⟩ | exact Le.refl _ | exact List.Sublist.refl _ | (show Le (AV.i _) (AV.i _); rw [List.length_map]; exact Le.refl _) | refine And.intro ?_ ?_))
    refine ifB_dec (fun k7 => ?_) (fun k7 => ?_)
    · refine ⟨true, ⟨fun _ => Or.inr k7, fun _ => rfl⟩, ?_⟩
      (constructor <;> repeat' (first | exact trivial | exact ⟨rfl, rfl⟩ | exact ⟨rfl, LeL.refl _⟩ | exact Le.refl _ | exact List.Sublist.refl _ | (show Le (AV.i _) (AV.i _); rw [List.length_map]; exact Le.refl _) | refine And.intro ?_ ?_))
    · refine ⟨false, ⟨nofun, fun h => absurd h (by omega)⟩, ?_⟩
      (constructor <;> repeat' (first | exact trivial | exact ⟨rfl, rfl⟩ | exact ⟨rfl, LeL.refl _⟩ | exact Le.refl _ | exact List.Sublist.refl _ | (show Le (AV.i _) (AV.i _); rw [List.length_map]; exact Le.refl _) | refine And.intro ?_ ?_))
  have kq := hI
  clear hI
  refine sem_join (esc := fun _ => false) tab_ok mixed (X := Unit) (fun _ => ⟨[(1, .lp 1 0), (2, .g (.b false)), (4, .g (.b q))], [(1, (enX e).cells)], H⟩) (fun _ => EnI e) ?_ (fun _ hI => ?_)
  · cases q with
    | false =>
      refine ⟨(), fun h => absurd (kq.2 h) nofun, ?_⟩
      (constructor <;> repeat' (first | exact trivial | exact ⟨rfl, rfl⟩ | exact ⟨rfl, LeL.refl _⟩ | exact Le.refl _ | exact List.Sublist.refl _ | (show Le (AV.i _) (AV.i _); rw [List.length_map]; exact Le.refl _) | refine And.intro ?_ ?_))
    | true =>
      have k67 := kq.1 rfl
      by_cases m1 : nameOk e.family = true
      rotate_left
      · refine ⟨_, LeL.refl _, (ref01Right_con e.family).no m1 _ _ ?_⟩
        intro hz1 hz2; clear hz1 hz2
        exact no (fun h => m1 ((fun h => (h.2.2.2.2.2.1.2.1 k67).1) (hiff.1 h)))
      refine ⟨_, LeL.refl _, (ref01Right_con e.family).yes m1 _ _ ?_⟩
      intro hz1 hz2; clear hz1 hz2
      by_cases m2 : spanB e.fixed 0 32 = true
      rotate_left
      · refine ⟨_, LeL.refl _, (ref11span_con e.fixed 0 32).no m2 _ _ ?_⟩
        intro hz1 hz2; clear hz1 hz2
        exact no (fun h => m2 ((fun h => (h.2.2.2.2.2.1.2.1 k67).2.1) (hiff.1 h)))
      refine ⟨_, LeL.refl _, (ref11span_con e.fixed 0 32).yes m2 _ _ ?_⟩
      intro hz1 hz2; clear hz1 hz2
      by_cases m3 : spanB e.index 0 32 = true
      rotate_left
      · refine ⟨_, LeL.refl _, (ref11span_con e.index 0 32).no m3 _ _ ?_⟩
        intro hz1 hz2; clear hz1 hz2
        exact no (fun h => m3 ((fun h => (h.2.2.2.2.2.1.2.1 k67).2.2.1) (hiff.1 h)))
      refine ⟨_, LeL.refl _, (ref11span_con e.index 0 32).yes m3 _ _ ?_⟩
      intro hz1 hz2; clear hz1 hz2
      by_cases m4 : spanB e.fields 0 32 = true
      rotate_left
      · refine ⟨_, LeL.refl _, (ref11span_con e.fields 0 32).no m4 _ _ ?_⟩
        intro hz1 hz2; clear hz1 hz2
        exact no (fun h => m4 ((fun h => (h.2.2.2.2.2.1.2.1 k67).2.2.2) (hiff.1 h)))
      refine ⟨_, LeL.refl _, (ref11span_con e.fields 0 32).yes m4 _ _ ?_⟩
      intro hz1 hz2; clear hz1 hz2
      refine ⟨(), fun _ => ⟨m1, m2, m3, m4⟩, ?_⟩
      (constructor <;> repeat' (first | exact trivial | exact ⟨rfl, rfl⟩ | exact ⟨rfl, LeL.refl _⟩ | exact Le.refl _ | exact List.Sublist.refl _ | (show Le (AV.i _) (AV.i _); rw [List.length_map]; exact Le.refl _) | refine And.intro ?_ ?_))
  have ki := hI
  clear hI
  refine sem_join (esc := fun _ => false) tab_ok mixed (X := Unit) (fun q => ⟨[(1, .lp 1 0), (2, .g (.b false))], [(1, (enX e).cells)], H⟩) (fun q => EnO e) ?_ (fun q hI => ?_)
  · cases q with
    | true =>
      refine ⟨(), fun h => absurd (kq.1 rfl) h, ?_⟩
      (constructor <;> repeat' (first | exact trivial | exact ⟨rfl, rfl⟩ | exact ⟨rfl, LeL.refl _⟩ | exact Le.refl _ | exact List.Sublist.refl _ | (show Le (AV.i _) (AV.i _); rw [List.length_map]; exact Le.refl _) | refine And.intro ?_ ?_))
    | false =>
      have k67 : ¬ (e.kind = 6 ∨ e.kind = 7) := fun h => absurd (kq.2 h) nofun
      have ho : enRight e = true → _ := fun h => (hiff.1 h).2.2.2.2.2.1.2.2 k67
      refine ifB_dec (fun m1 => ?_) (fun m1 => ?_)
      rotate_left
      · exact no (fun h => m1 (ho h).1)
      refine ifB_dec (fun m2 => ?_) (fun m2 => ?_)
      rotate_left
      · exact no (fun h => m2 (ho h).2.1)
      refine ifB_dec (fun m3 => ?_) (fun m3 => ?_)
      rotate_left
      · exact no (fun h => m3 (ho h).2.2.1)
      by_cases k5 : e.kind = 5
      · refine ifB_t k5 ?_
        by_cases m4 : spanB e.fixed 0 16 = true
        rotate_left
        · refine ⟨_, LeL.refl _, (ref11span_con e.fixed 0 16).no m4 _ _ ?_⟩
          intro hz1 hz2; clear hz1 hz2
          exact no (fun h => m4 ((fun h => (h.2.2.2.2.2.1.2.2 k67).2.2.2.1 k5) (hiff.1 h)))
        refine ⟨_, LeL.refl _, (ref11span_con e.fixed 0 16).yes m4 _ _ ?_⟩
        intro hz1 hz2; clear hz1 hz2
        refine ifB_t k5 ?_
        refine ⟨(), fun _ => ⟨m1, m2, m3, fun _ => m4, fun h => absurd k5 h⟩, ?_⟩
        (constructor <;> repeat' (first | exact trivial | exact ⟨rfl, rfl⟩ | exact ⟨rfl, LeL.refl _⟩ | exact Le.refl _ | exact List.Sublist.refl _ | (show Le (AV.i _) (AV.i _); rw [List.length_map]; exact Le.refl _) | refine And.intro ?_ ?_))
      · refine ifB_f k5 ?_
        refine ifB_f k5 ?_
        refine ifB_dec (fun m4 => ?_) (fun m4 => ?_)
        rotate_left
        · exact no (fun h => m4 ((ho h).2.2.2.2 k5))
        refine ⟨(), fun _ => ⟨m1, m2, m3, fun h => absurd h k5, fun _ => m4⟩, ?_⟩
        (constructor <;> repeat' (first | exact trivial | exact ⟨rfl, rfl⟩ | exact ⟨rfl, LeL.refl _⟩ | exact Le.refl _ | exact List.Sublist.refl _ | (show Le (AV.i _) (AV.i _); rw [List.length_map]; exact Le.refl _) | refine And.intro ?_ ?_))
  have ko := hI
  clear hI
  refine sem_join (esc := fun _ => false) tab_ok mixed (X := Unit) (fun q => ⟨[(1, .lp 1 0), (2, .g (.b false))], [(1, (enX e).cells)], H⟩) (fun q => EnC e) ?_ (fun q hI => ?_)
  · skip
    by_cases k5 : e.kind = 5
    · refine ifB_t k5 ?_
      refine ifB_dec (fun m8 => ?_) (fun m8 => ?_)
      · simp only [List.length_map] at m8
        exact no (fun h => by have := (hiff.1 h).2.2.2.2.2.2.1.2; omega)
      simp only [List.length_map] at m8
      refine ⟨(), ⟨fun h => absurd (Or.inl k5) h, by omega⟩, ?_⟩
      (constructor <;> repeat' (first | exact trivial | exact ⟨rfl, rfl⟩ | exact ⟨rfl, LeL.refl _⟩ | exact Le.refl _ | exact List.Sublist.refl _ | (show Le (AV.i _) (AV.i _); rw [List.length_map]; exact Le.refl _) | refine And.intro ?_ ?_))
    · refine ifB_f k5 ?_
      by_cases k7 : e.kind = 7
      · refine ifB_t k7 ?_
        refine ifB_dec (fun m8 => ?_) (fun m8 => ?_)
        · simp only [List.length_map] at m8
          exact no (fun h => by have := (hiff.1 h).2.2.2.2.2.2.1.2; omega)
        simp only [List.length_map] at m8
        refine ⟨(), ⟨fun h => absurd (Or.inr k7) h, by omega⟩, ?_⟩
        (constructor <;> repeat' (first | exact trivial | exact ⟨rfl, rfl⟩ | exact ⟨rfl, LeL.refl _⟩ | exact Le.refl _ | exact List.Sublist.refl _ | (show Le (AV.i _) (AV.i _); rw [List.length_map]; exact Le.refl _) | refine And.intro ?_ ?_))
      · refine ifB_f k7 ?_
        refine ifB_dec (fun m0 => ?_) (fun m0 => ?_)
        rotate_left
        · simp only [List.length_map] at m0
          exact no (fun h => by have := (hiff.1 h).2.2.2.2.2.2.1.1 (by omega); omega)
        simp only [List.length_map] at m0
        refine ifB_dec (fun m8 => ?_) (fun m8 => ?_)
        · simp only [List.length_map] at m8
          exact no (fun h => by have := (hiff.1 h).2.2.2.2.2.2.1.2; omega)
        simp only [List.length_map] at m8
        refine ⟨(), ⟨fun _ => by omega, by omega⟩, ?_⟩
        (constructor <;> repeat' (first | exact trivial | exact ⟨rfl, rfl⟩ | exact ⟨rfl, LeL.refl _⟩ | exact Le.refl _ | exact List.Sublist.refl _ | (show Le (AV.i _) (AV.i _); rw [List.length_map]; exact Le.refl _) | refine And.intro ?_ ?_))
  have kc := hI
  clear hI
  have hc8 := kc.2
  refine sem_join (esc := fun _ => false) tab_ok mixed (X := Unit) (fun q => ⟨[], [], H⟩) (fun q => (e.ctors.any fun s => !nameOk s) = false) ?_ (fun q hI => ?_)
  · refine ⟨Nat, fun j => ⟨[(1, .lp 1 0), (2, .g (.b false)), (5, .g (.i j))], [(1, (enX e).cells)], H⟩, fun j => j ≤ e.ctors.length ∧ ((e.ctors.take j).any fun s => !nameOk s) = false, fun j => e.ctors.length - j, ⟨0, ⟨Nat.zero_le _, rfl⟩, ?_⟩, ?_⟩
    · (constructor <;> repeat' (first | exact trivial | exact ⟨rfl, rfl⟩ | exact ⟨rfl, LeL.refl _⟩ | exact Le.refl _ | exact List.Sublist.refl _ | (show Le (AV.i _) (AV.i _); rw [List.length_map]; exact Le.refl _) | refine And.intro ?_ ?_))
    · rintro j ⟨hj, hall⟩
      refine ifB_dec (fun h1 => ?_) (fun h1 => ?_)
      · simp only [List.length_map] at h1
        have hlt : j < e.ctors.length := by omega
        refine ⟨j, rfl, _, stAt hlt, ?_⟩
        by_cases m1 : nameOk e.ctors[j] = true
        rotate_left
        · refine ⟨_, LeL.refl _, (ref01Right_con e.ctors[j]).no m1 _ _ ?_⟩
          intro hz1 hz2; clear hz1 hz2
          exact no (fun h => by
            have h2 := (hiff.1 h).2.2.2.2.2.2.2
            rw [any_yes (f := fun s => !nameOk s) hlt (by rw [ntrue m1]; rfl)] at h2
            cases h2)
        refine ⟨_, LeL.refl _, (ref01Right_con e.ctors[j]).yes m1 _ _ ?_⟩
        intro hz1 hz2; clear hz1 hz2
        refine ⟨in64_of (by first | omega | (dsimp only; omega)) (by first | omega | (dsimp only; omega)), ?_⟩
        refine ⟨j + 1, ⟨by omega, any_take_step hlt hall (by rw [m1]; rfl)⟩, by (try dsimp only); omega, ?_⟩
        (constructor <;> repeat' (first | exact trivial | exact ⟨rfl, rfl⟩ | exact ⟨rfl, LeL.refl _⟩ | exact Le.refl _ | exact List.Sublist.refl _ | (show Le (AV.i _) (AV.i _); rw [List.length_map]; exact Le.refl _) | refine And.intro ?_ ?_))
      · simp only [List.length_map] at h1
        have hj' : e.ctors.length = j := by omega
        subst hj'
        rw [List.take_length] at hall
        exact ⟨(), hall, ⟨trivial, trivial, List.Sublist.refl _⟩⟩
  refine sem_of (esc := fun _ => false) tab_ok mixed ?_
  exact fin _ (hiff.2 ⟨k1, k2, k3, k4, kv, ⟨kh, ki, ko⟩, kc, hI⟩).symm

set_option maxRecDepth 100000 in
set_option maxHeartbeats 1000000 in
theorem ref11Plain_con (d : Dc) (h : Int) : Ans Tryz.prog 16 [dcX d, .i h] (.tup [enX (enPlain d h).1, .i (enPlain d h).2]) := by
  intro H Q hq
  have bad : ∀ n : Int, enPlain d h = (en0, n) → ∃ r H', Le (.tup [.agg [.i 0, .i 0, .str [], .i 0, .i 0, .str [], .sl .full 0 [], .sl .full 0 [], .i 0, .i 0, .str [], .sl .full 0 [], .sl .full 0 [], .i 0, .str [], .i 0, .i 0, .i 0, .sl .full 0 []], .i n]) r ∧ List.Sublist H' H ∧ Q r H' := fun n e => ⟨.tup [enX en0, .i n], H, Le.tup ⟨le_en0, Le.refl _, trivial⟩, List.Sublist.refl _, by rw [e] at hq; exact hq⟩
  refine con_of_sem tab_ok Tryz.func16 rfl (ent Tryz.func16 (by kernel_rfl) rfl) (by kernel_rfl) ?_
  intro hw hn
  clear hw hn
  refine sem_seq (esc := fun _ => false) tab_ok mixed ?_
  refine sem_seq (esc := fun _ => false) tab_ok mixed ?_
  by_cases h1 : formed d = true
  rotate_left
  · refine ⟨_, LeL.refl _, (ref08Formed_con d).no h1 _ _ ?_⟩
    intro hz1 hz2; clear hz1 hz2
    exact bad 10 (by rw [enPlain, if_neg (fun h => h1 h.1)])
  refine ⟨_, LeL.refl _, (ref08Formed_con d).yes h1 _ _ ?_⟩
  intro hz1 hz2; clear hz1 hz2
  refine ifB_dec (fun h5 => ?_) (fun h5 => ?_)
  · exact bad 10 (by rw [enPlain, if_neg (fun h => h.2 h5)])
  have n1 := (plain_nodes h1 h5).1
  have n2 := (plain_nodes h1 h5).2
  by_cases h2 : d.kind = 2
  · refine sem_seq (esc := fun _ => false) tab_ok mixed ?_
    refine ifB_t h2 ?_
    by_cases h3 : spanB h 1 1048576 = true
    rotate_left
    · refine ⟨_, LeL.refl _, (ref11span_con h 1 1048576).no h3 _ _ ?_⟩
      intro hz1 hz2; clear hz1 hz2
      exact bad 12 (by rw [enPlain, if_pos ⟨h1, h5⟩, if_pos h2, if_neg h3])
    refine ⟨_, LeL.refl _, (ref11span_con h 1 1048576).yes h3 _ _ ?_⟩
    intro hz1 hz2; clear hz1 hz2
    refine sem_seq (esc := fun _ => false) tab_ok mixed ?_
    refine ⟨[0, 1, 2, 3, 4, 5, 6, 7, 9, 10, 13, 8, 11, 12, 14], [], ord_fast (by kernel_rfl), by simp, ?_⟩
    refine ⟨_, LeL.refl _, CopyTerm_con _ d.type (Nat.le_refl _) (by omega) _ _ ?_⟩
    intro hz1 hz2; clear hz1 hz2
    refine ⟨_, LeL.refl _, CopyTerm_con _ d.value (Nat.le_refl _) (by omega) _ _ ?_⟩
    intro hz1 hz2; clear hz1 hz2
    refine sem_le ⟨[(1, .g (.i h)), (2, .lp 2 0), (4, .lp 4 0), (5, .g (.i 0)), (6, .lp 6 0)], [(6, [.i d.kind, .i d.params, .str d.name, .i d.type.kind, .i d.type.n, .str d.type.name, .sl .no 3 (d.type.levels.map lvA), .sl .no 5 (d.type.args.map tmA), .i d.value.kind, .i d.value.n, .str d.value.name, .sl .no 3 (d.value.levels.map lvA), .sl .no 5 (d.value.args.map tmA), .i 0, .str [], .i 0, .i 0, .i 0, .sl .full 0 []]), (4, [.i 0, .i 0, .str [], .i 0, .i 0, .str [], .sl .full 0 [], .sl .full 0 [], .i 0, .i 0, .str [], .sl .full 0 [], .sl .full 0 [], .i 0, .str [], .i 0, .i 0, .i 0, .sl .full 0 []]), (2, (dcX d).cells)], H⟩ ?_ ?_
    · (constructor <;> repeat' (first | exact trivial | exact ⟨rfl, rfl⟩ | exact ⟨rfl, LeL.refl _⟩ | exact Le.refl _ | exact List.Sublist.refl _ | (show Le (AV.i _) (AV.i _); rw [List.length_map]; exact Le.refl _) | refine And.intro ?_ ?_))
    refine sem_seq (esc := fun _ => false) tab_ok mixed ?_
    refine ifB_t h2 ?_
    refine sem_of (esc := fun _ => false) tab_ok mixed ?_
    rw [enPlain, if_pos ⟨h1, h5⟩, if_pos h2, if_pos h3] at hq
    exact ⟨.tup [enX (enOf d h), .i 0], H, Le.tup ⟨le_enOf d h, Le.refl _, trivial⟩, List.Sublist.refl _, hq⟩
  · refine sem_seq (esc := fun _ => false) tab_ok mixed ?_
    refine ifB_f h2 ?_
    refine sem_seq (esc := fun _ => false) tab_ok mixed ?_
    refine ⟨[0, 1, 2, 3, 4, 5, 6, 7, 9, 10, 13, 8, 11, 12, 14], [], ord_fast (by kernel_rfl), by simp, ?_⟩
    refine ⟨_, LeL.refl _, CopyTerm_con _ d.type (Nat.le_refl _) (by omega) _ _ ?_⟩
    intro hz1 hz2; clear hz1 hz2
    refine ⟨_, LeL.refl _, CopyTerm_con _ d.value (Nat.le_refl _) (by omega) _ _ ?_⟩
    intro hz1 hz2; clear hz1 hz2
    refine sem_le ⟨[(1, .g (.i h)), (2, .lp 2 0), (4, .lp 4 0), (5, .g (.i 0)), (6, .lp 6 0)], [(6, [.i d.kind, .i d.params, .str d.name, .i d.type.kind, .i d.type.n, .str d.type.name, .sl .no 3 (d.type.levels.map lvA), .sl .no 5 (d.type.args.map tmA), .i d.value.kind, .i d.value.n, .str d.value.name, .sl .no 3 (d.value.levels.map lvA), .sl .no 5 (d.value.args.map tmA), .i 0, .str [], .i 0, .i 0, .i 0, .sl .full 0 []]), (4, [.i 0, .i 0, .str [], .i 0, .i 0, .str [], .sl .full 0 [], .sl .full 0 [], .i 0, .i 0, .str [], .sl .full 0 [], .sl .full 0 [], .i 0, .str [], .i 0, .i 0, .i 0, .sl .full 0 []]), (2, (dcX d).cells)], H⟩ ?_ ?_
    · (constructor <;> repeat' (first | exact trivial | exact ⟨rfl, rfl⟩ | exact ⟨rfl, LeL.refl _⟩ | exact Le.refl _ | exact List.Sublist.refl _ | (show Le (AV.i _) (AV.i _); rw [List.length_map]; exact Le.refl _) | refine And.intro ?_ ?_))
    refine sem_seq (esc := fun _ => false) tab_ok mixed ?_
    refine ifB_f h2 ?_
    refine sem_of (esc := fun _ => false) tab_ok mixed ?_
    rw [enPlain, if_pos ⟨h1, h5⟩, if_neg h2] at hq
    exact ⟨.tup [enX (enOf d 0), .i 0], H, Le.tup ⟨le_enOf d 0, Le.refl _, trivial⟩, List.Sublist.refl _, hq⟩

set_option maxRecDepth 100000 in
theorem ref11at_con (o : Own) (e : En) (t : Tm) (ls : List Lv) : Ans Tryz.prog 69 [enX e, tmX t, .sl o 3 (ls.map lvA)] (.tup [tmX (enAt e t ls).1, .i (enAt e t ls).2]) := by
  intro H Q hq
  have hm : (ls.map lvA).length = ls.length := List.length_map _
  have no : ∀ n : Int, enAt e t ls = (tm0, n) → ∃ r H', Le (.tup [.agg [.i 0, .i 0, .str [], .sl .full 0 [], .sl .full 0 []], .i n]) r ∧ List.Sublist H' H ∧ Q r H' := fun n h => ⟨.tup [tmX tm0, .i n], H, Le.tup ⟨le_tm0, Le.refl _, trivial⟩, List.Sublist.refl _, by rw [h] at hq; exact hq⟩
  refine con_of_sem tab_ok Tryz.func69 rfl (ent Tryz.func69 (by kernel_rfl) rfl) (by kernel_rfl) ?_
  intro hw hn
  have hls := Wf.len (hw (.sl o 3 (ls.map lvA)) (by simp))
  rw [hm] at hls
  clear hw hn
  refine sem_seq (esc := fun _ => false) tab_ok mixed ?_
  refine sem_seq (esc := fun _ => false) tab_ok mixed ?_
  refine ifB_dec (fun h1 => ?_) (fun h1 => ?_)
  rotate_left
  · rw [hm] at h1
    exact no 16 (by rw [enAt, if_pos (Or.inl h1)])
  rw [hm] at h1
  refine sem_join (esc := fun _ => false) tab_ok mixed (X := Unit) (fun q => ⟨[(2, .g (.sl o 3 (ls.map lvA))), (4, .lp 4 0), (6, .lp 6 0), (7, .g (.i 0))], [(6, [.i 0, .i 0, .str [], .sl .full 0 [], .sl .full 0 []]), (4, (tmX t).cells), (3, (enX e).cells)], H⟩) (fun q => (ls.any fun l => !lvRight 4 l) = false) ?_ (fun q hI => ?_)
  · refine ⟨Nat, fun j => ⟨[(2, .g (.sl o 3 (ls.map lvA))), (4, .lp 4 0), (6, .lp 6 0), (7, .g (.i 0)), (8, .g (.i j))], [(6, [.i 0, .i 0, .str [], .sl .full 0 [], .sl .full 0 []]), (4, (tmX t).cells), (3, (enX e).cells)], H⟩, fun j => j ≤ ls.length ∧ ((ls.take j).any fun l => !lvRight 4 l) = false, fun j => ls.length - j, ⟨0, ⟨Nat.zero_le _, rfl⟩, ?_⟩, ?_⟩
    · (constructor <;> repeat' (first | exact trivial | exact ⟨rfl, rfl⟩ | exact ⟨rfl, LeL.refl _⟩ | exact Le.refl _ | exact List.Sublist.refl _ | (show Le (AV.i _) (AV.i _); rw [List.length_map]; exact Le.refl _) | refine And.intro ?_ ?_))
    · rintro j ⟨hj, hall⟩
      refine ifB_dec (fun h2 => ?_) (fun h2 => ?_)
      · simp only [List.length_map] at h2
        have hlt : j < ls.length := by omega
        refine ⟨j, rfl, _, lvAt hlt, ?_⟩
        by_cases m1 : lvRight 4 ls[j] = true
        rotate_left
        · refine ⟨_, LeL.refl _, (ref03Right_con 4 ls[j]).no m1 _ _ ?_⟩
          intro hz1 hz2; clear hz1 hz2
          exact no 16 (by rw [enAt, if_pos (Or.inr (any_yes (f := fun l => !lvRight 4 l) hlt (by rw [ntrue m1]; rfl)))])
        refine ⟨_, LeL.refl _, (ref03Right_con 4 ls[j]).yes m1 _ _ ?_⟩
        intro hz1 hz2; clear hz1 hz2
        refine ⟨in64_of (by first | omega | (dsimp only; omega)) (by first | omega | (dsimp only; omega)), ?_⟩
        refine ⟨j + 1, ⟨by omega, any_take_step hlt hall (by rw [m1]; rfl)⟩, by (try dsimp only); omega, ?_⟩
        (constructor <;> repeat' (first | exact trivial | exact ⟨rfl, rfl⟩ | exact ⟨rfl, LeL.refl _⟩ | exact Le.refl _ | exact List.Sublist.refl _ | (show Le (AV.i _) (AV.i _); rw [List.length_map]; exact Le.refl _) | refine And.intro ?_ ?_))
      · simp only [List.length_map] at h2
        have hj' : ls.length = j := by omega
        subst hj'
        rw [List.take_length] at hall
        refine ⟨(), hall, ?_⟩
        (constructor <;> repeat' (first | exact trivial | exact ⟨rfl, rfl⟩ | exact ⟨rfl, LeL.refl _⟩ | exact Le.refl _ | exact List.Sublist.refl _ | (show Le (AV.i _) (AV.i _); rw [List.length_map]; exact Le.refl _) | refine And.intro ?_ ?_))
  have hc : ¬ ((ls.length : Int) ≠ e.params ∨ (ls.any fun l => !lvRight 4 l) = true) := fun h => h.elim (fun h => h h1) (fun h => by rw [hI] at h; cases h)
  refine sem_of (esc := fun _ => false) tab_ok mixed ?_
  cases hu : tmAt ls t with
  | none =>
    refine ⟨_, LeL.refl _, (ref04Levels_con o ls t).to (by rw [tmLv_none hu]) _ _ ?_⟩
    intro hz1 hz2; clear hz1 hz2
    exact no 15 (by rw [enAt, if_neg hc, hu])
  | some u =>
    refine ⟨_, LeL.refl _, (ref04Levels_con o ls t).to (by rw [tmLv_some hu]) _ _ ?_⟩
    intro hz1 hz2; clear hz1 hz2
    have he : enAt e t ls = (u, 0) := by rw [enAt, if_neg hc, hu]
    rw [he] at hq
    exact ⟨_, H, Le.refl _, List.Sublist.refl _, hq⟩
set_option maxRecDepth 100000 in
theorem ref11Type_con (o : Own) (e : En) (ls : List Lv) : Ans Tryz.prog 18 [enX e, .sl o 3 (ls.map lvA)] (.tup [tmX (enType e ls).1, .i (enType e ls).2]) := by
  intro H Q hq
  refine con_of_awp (esc := fun _ => false) tab_ok mixed Tryz.func18 rfl (ent Tryz.func18 (by kernel_rfl) rfl) (by kernel_rfl) ?_
  intro hw hn
  by_cases h1 : enRight e = true
  · rw [enType, if_pos h1] at hq
    refine ⟨_, LeL.refl _, (ref11Right_con e).yes h1 _ _ ?_⟩
    intro hz1 hz2; clear hz1 hz2
    refine ⟨_, LeL.refl _, ref11at_con o e e.type ls _ _ ?_⟩
    intro hz1 hz2; clear hz1 hz2
    exact ⟨_, H, Le.refl _, List.Sublist.refl _, hq⟩
  · rw [enType, if_neg h1] at hq
    refine ⟨_, LeL.refl _, (ref11Right_con e).no h1 _ _ ?_⟩
    intro hz1 hz2; clear hz1 hz2
    exact ⟨.tup [tmX tm0, .i 10], H, Le.tup ⟨le_tm0, Le.refl _, trivial⟩, List.Sublist.refl _, hq⟩
set_option maxRecDepth 100000 in
theorem ref11Value_con (o : Own) (e : En) (ls : List Lv) : Ans Tryz.prog 20 [enX e, .sl o 3 (ls.map lvA)] (.tup [tmX (enValue e ls).1, .i (enValue e ls).2]) := by
  intro H Q hq
  refine con_of_awp (esc := fun _ => false) tab_ok mixed Tryz.func20 rfl (ent Tryz.func20 (by kernel_rfl) rfl) (by kernel_rfl) ?_
  intro hw hn
  by_cases h1 : enRight e = true
  · rw [enValue, if_pos h1] at hq
    refine ⟨_, LeL.refl _, (ref11Right_con e).yes h1 _ _ ?_⟩
    intro hz1 hz2; clear hz1 hz2
    refine ifB_dec (fun h2 => ?_) (fun h2 => ?_)
    · rw [if_pos h2] at hq
      refine ⟨_, LeL.refl _, ref11at_con o e e.value ls _ _ ?_⟩
      intro hz1 hz2; clear hz1 hz2
      exact ⟨_, H, Le.refl _, List.Sublist.refl _, hq⟩
    · rw [if_neg h2] at hq
      exact ⟨.tup [tmX tm0, .i 13], H, Le.tup ⟨le_tm0, Le.refl _, trivial⟩, List.Sublist.refl _, hq⟩
  · rw [enValue, if_neg h1] at hq
    refine ⟨_, LeL.refl _, (ref11Right_con e).no h1 _ _ ?_⟩
    intro hz1 hz2; clear hz1 hz2
    exact ⟨.tup [tmX tm0, .i 10], H, Le.tup ⟨le_tm0, Le.refl _, trivial⟩, List.Sublist.refl _, hq⟩
end Go.Proofs.YtnjnfegafmhgnaaGreatDoor

/-
  DeclAnswers: the law's walk. No condition.
-/
namespace Go.Proofs.YtnjnfegafmhgnaaGreatDoor
open Go.RowKit

set_option maxRecDepth 100000 in
theorem Great11_or (e : En) (H : Heap) (Q : AV → Heap → Prop) (h1 : Q (.b true) H) (h0 : e.ctors.length ≤ 20 → e.type.big ≤ 2500 → e.value.big ≤ 2500 → Q (.b false) H) : Con Tryz.prog 11 [enX e] H Q :=
  Great11_con e H Q fun q => match q with
    | true => fun _ => h1
    | false => fun h => h0 (h rfl).1 (h rfl).2.2.1 (h rfl).2.2.2.1
section
variable {o : Own} {d : Dc} {e : En} {h n : Int} {t : Tm} {ls : List Lv}
set_option maxRecDepth 100000 in
theorem ref11Plain_at (k : enPlain d h = (e, n)) : Ans Tryz.prog 16 [dcX d, .i h] (.tup [enX e, .i n]) := (ref11Plain_con d h).to (by rw [k])
set_option maxRecDepth 100000 in
theorem ref11Type_at (k : enType e ls = (t, n)) : Ans Tryz.prog 18 [enX e, .sl o 3 (ls.map lvA)] (.tup [tmX t, .i n]) := (ref11Type_con o e ls).to (by rw [k])
set_option maxRecDepth 100000 in
theorem ref11Value_at (k : enValue e ls = (t, n)) : Ans Tryz.prog 20 [enX e, .sl o 3 (ls.map lvA)] (.tup [tmX t, .i n]) := (ref11Value_con o e ls).to (by rw [k])
end

set_option maxRecDepth 100000 in
set_option maxHeartbeats 2000000 in
theorem declAnswers_con (e e2 : En) (d : Dc) (h : Int) (ls : List Lv) : Ans Tryz.prog 3 [enX e, enX e2, dcX d, .i h, .sl .no 3 (ls.map lvA)] (.b true) := by
  intro H Q hq
  have fin : ∃ r H', Le (.b true) r ∧ List.Sublist H' H ∧ Q r H' := ⟨_, H, Le.refl _, List.Sublist.refl _, hq⟩
  obtain ⟨pe, pn, hp⟩ : ∃ v n, enPlain d h = (v, n) := ⟨_, _, rfl⟩
  obtain ⟨te, tn, ht⟩ : ∃ v n, enType e ls = (v, n) := ⟨_, _, rfl⟩
  obtain ⟨ve, vn, hv⟩ : ∃ v n, enValue e ls = (v, n) := ⟨_, _, rfl⟩
  obtain ⟨rq, hr⟩ : ∃ q, enRight e = q := ⟨_, rfl⟩
  obtain ⟨sq, hs⟩ : ∃ q, enEq e e2 = q := ⟨_, rfl⟩
  have hnt := big_nodes e.type
  have hnv := big_nodes e.value
  refine con_of_sem tab_ok Tryz.func3 rfl (ent Tryz.func3 (by kernel_rfl) rfl) (by kernel_rfl) ?_
  intro hw hn
  clear hw hn
  refine sem_seq (esc := fun _ => false) tab_ok mixed ?_
  refine sem_seq (esc := fun _ => false) tab_ok mixed ?_
  refine ⟨_, LeL.refl _, alive11_con _ _ ?_⟩
  intro hz1 hz2; clear hz1 hz2
  refine sem_seq (esc := fun _ => false) tab_ok mixed ?_
  refine ⟨_, LeL.refl _, Great11_or e _ _ ?_ (fun b1 b2 b3 => ?_)⟩
  · intro hz1 hz2; clear hz1 hz2
    exact fin
  intro hz1 hz2; clear hz1 hz2
  refine ⟨[enX e2], LeL.refl _, Great11_some e2 _ _ (fa' ?_ ?_)⟩
  rotate_left
  · intro hz1 hz2; clear hz1 hz2
    exact fin
  intro hz1 hz2; clear hz1 hz2
  refine ⟨[dcX d], LeL.refl _, Great8_some d _ _ (fa' ?_ ?_)⟩
  rotate_left
  · intro hz1 hz2; clear hz1 hz2
    exact fin
  intro hz1 hz2; clear hz1 hz2
  refine ⟨[.sl .no 3 (ls.map lvA)], LeL.refl _, greatLevels11_some .no ls _ _ (fa' ?_ ?_)⟩
  rotate_left
  · intro hz1 hz2; clear hz1 hz2
    exact fin
  intro hz1 hz2; clear hz1 hz2
  refine sem_le ⟨[(3, .g (.i h)), (4, .g (.sl .no 3 (ls.map lvA))), (5, .lp 5 0), (6, .lp 6 0), (7, .lp 7 0), (10, .g (.b false))], [(7, (dcX d).cells), (6, (enX e2).cells), (5, (enX e).cells)], H⟩ ?_ ?_
  · (constructor <;> repeat' (first | exact trivial | exact ⟨rfl, rfl⟩ | exact ⟨rfl, LeL.refl _⟩ | exact Le.refl _ | exact List.Sublist.refl _ | (show Le (AV.i _) (AV.i _); rw [List.length_map]; exact Le.refl _) | refine And.intro ?_ ?_))
  refine sem_seq (esc := fun _ => false) tab_ok mixed ?_
  refine ⟨[enX e], LeL.refl _, declClone_con e (by omega) (by omega) (by omega) _ _ ?_⟩
  intro hz1 hz2; clear hz1 hz2
  refine sem_seq (esc := fun _ => false) tab_ok mixed ?_
  refine ⟨[dcX d, .i h], LeL.refl _, declPlain_at hp _ _ ?_⟩
  intro hz1 hz2; clear hz1 hz2
  refine sem_seq (esc := fun _ => false) tab_ok mixed ?_
  refine ⟨[dcX d, .i h], LeL.refl _, ref11Plain_at hp _ _ ?_⟩
  intro hz1 hz2; clear hz1 hz2
  refine sem_seq (esc := fun _ => false) tab_ok mixed ?_
  refine ⟨[enX e, .sl .no 3 (ls.map lvA)], LeL.refl _, declType_at ht _ _ ?_⟩
  intro hz1 hz2; clear hz1 hz2
  refine sem_seq (esc := fun _ => false) tab_ok mixed ?_
  refine ⟨[enX e, .sl .no 3 (ls.map lvA)], LeL.refl _, ref11Type_at ht _ _ ?_⟩
  intro hz1 hz2; clear hz1 hz2
  refine sem_seq (esc := fun _ => false) tab_ok mixed ?_
  refine ⟨[enX e, .sl .no 3 (ls.map lvA)], LeL.refl _, declValue_at hv _ _ ?_⟩
  intro hz1 hz2; clear hz1 hz2
  refine sem_seq (esc := fun _ => false) tab_ok mixed ?_
  refine ⟨[enX e, .sl .no 3 (ls.map lvA)], LeL.refl _, ref11Value_at hv _ _ ?_⟩
  intro hz1 hz2; clear hz1 hz2
  refine sem_le ⟨[(5, .lp 5 0), (6, .lp 6 0), (10, .g (.b false)), (11, .lp 11 0), (12, .lp 12 0), (13, .g (.i pn)), (14, .lp 14 0), (15, .g (.i pn)), (16, .lp 16 0), (17, .g (.i tn)), (18, .lp 18 0), (19, .g (.i tn)), (20, .lp 20 0), (21, .g (.i vn)), (22, .lp 22 0), (23, .g (.i vn))], [(22, (tmX ve).cells), (20, (tmX ve).cells), (18, (tmX te).cells), (16, (tmX te).cells), (14, (enX pe).cells), (12, (enX pe).cells), (11, (enX e).cells), (7, (dcX d).cells), (6, (enX e2).cells), (5, (enX e).cells)], H⟩ ?_ ?_
  · (constructor <;> repeat' (first | exact trivial | exact ⟨rfl, rfl⟩ | exact ⟨rfl, LeL.refl _⟩ | exact Le.refl _ | exact List.Sublist.refl _ | (show Le (AV.i _) (AV.i _); rw [List.length_map]; exact Le.refl _) | refine And.intro ?_ ?_))
  refine sem_seq (esc := fun _ => false) tab_ok mixed ?_
  refine ⟨[0, 1, 2, 3, 4, 5, 6, 7, 8, 9, 10, 11, 12, 13, 14, 15, 16, 17, 18, 19, 20, 21, 22, 23, 24, 25, 26, 27, 28, 29, 31, 30, 32, 33, 34, 35, 36, 38, 37, 39, 40, 41, 42, 43, 44, 45, 46, 47, 48, 49, 51, 52, 50, 53, 54, 55, 56, 57, 58, 59, 60, 61], [], ord_fast (by kernel_rfl), by simp, ?_⟩
  refine ⟨[enX pe, enX pe], LeL.refl _, (SameEntry_con pe pe).as ((enEq_iff _ _).2 rfl) _ _ ?_⟩
  intro hz1 hz2; clear hz1 hz2
  refine ifB_t (show pn = pn from rfl) ?_
  refine ⟨[tmX te, tmX te], LeL.refl _, (SameTerm_con _ te te (Nat.le_refl _)).as ((tmEq_iff _ _).2 rfl) _ _ ?_⟩
  intro hz1 hz2; clear hz1 hz2
  refine ifB_t (show tn = tn from rfl) ?_
  refine ⟨[tmX ve, tmX ve], LeL.refl _, (SameTerm_con _ ve ve (Nat.le_refl _)).as ((tmEq_iff _ _).2 rfl) _ _ ?_⟩
  intro hz1 hz2; clear hz1 hz2
  refine ifB_t (show vn = vn from rfl) ?_
  refine ⟨[enX e], LeL.refl _, (declRight_con e).as hr _ _ ?_⟩
  intro hz1 hz2; clear hz1 hz2
  refine ⟨[enX e], LeL.refl _, (ref11Right_con e).as hr _ _ ?_⟩
  intro hz1 hz2; clear hz1 hz2
  cases rq with
  | false =>
    refine ⟨[enX e], LeL.refl _, declUnfolds_at (q := false) (by rw [hr, Bool.and_false]) _ _ ?_⟩
    intro hz1 hz2; clear hz1 hz2
    refine ⟨[enX e], LeL.refl _, (ref11Right_con e).as hr _ _ ?_⟩
    intro hz1 hz2; clear hz1 hz2
    refine ⟨[enX e, enX e2], LeL.refl _, (declSame_con e e2).as hs _ _ ?_⟩
    intro hz1 hz2; clear hz1 hz2
    refine ⟨[enX e, enX e2], LeL.refl _, (SameEntry_con e e2).as hs _ _ ?_⟩
    intro hz1 hz2; clear hz1 hz2
    cases sq with
    | false =>
      refine ⟨[enX e, enX e], LeL.refl _, (SameEntry_con e e).as ((enEq_iff _ _).2 rfl) _ _ ?_⟩
      intro hz1 hz2; clear hz1 hz2
      refine sem_of (esc := fun _ => false) tab_ok mixed ?_
      exact fin
    | true =>
      refine ⟨[enX e, enX e], LeL.refl _, (SameEntry_con e e).as ((enEq_iff _ _).2 rfl) _ _ ?_⟩
      intro hz1 hz2; clear hz1 hz2
      refine sem_of (esc := fun _ => false) tab_ok mixed ?_
      exact fin
  | true =>
    obtain ⟨uq, hu⟩ : ∃ q, decide (e.kind = 2) = q := ⟨_, rfl⟩
    refine ⟨[enX e], LeL.refl _, declUnfolds_at (q := uq) (by rw [hr, hu, Bool.and_true]) _ _ ?_⟩
    intro hz1 hz2; clear hz1 hz2
    refine ⟨[enX e], LeL.refl _, (ref11Right_con e).as hr _ _ ?_⟩
    intro hz1 hz2; clear hz1 hz2
    cases uq with
    | false =>
      refine ifB_f (of_decide_eq_false hu) ?_
      refine ⟨[enX e, enX e2], LeL.refl _, (declSame_con e e2).as hs _ _ ?_⟩
      intro hz1 hz2; clear hz1 hz2
      refine ⟨[enX e, enX e2], LeL.refl _, (SameEntry_con e e2).as hs _ _ ?_⟩
      intro hz1 hz2; clear hz1 hz2
      cases sq with
      | false =>
        refine ⟨[enX e, enX e], LeL.refl _, (SameEntry_con e e).as ((enEq_iff _ _).2 rfl) _ _ ?_⟩
        intro hz1 hz2; clear hz1 hz2
        refine sem_of (esc := fun _ => false) tab_ok mixed ?_
        exact fin
      | true =>
        refine ⟨[enX e, enX e], LeL.refl _, (SameEntry_con e e).as ((enEq_iff _ _).2 rfl) _ _ ?_⟩
        intro hz1 hz2; clear hz1 hz2
        refine sem_of (esc := fun _ => false) tab_ok mixed ?_
        exact fin
    | true =>
      refine ifB_t (of_decide_eq_true hu) ?_
      refine ⟨[enX e, enX e2], LeL.refl _, (declSame_con e e2).as hs _ _ ?_⟩
      intro hz1 hz2; clear hz1 hz2
      refine ⟨[enX e, enX e2], LeL.refl _, (SameEntry_con e e2).as hs _ _ ?_⟩
      intro hz1 hz2; clear hz1 hz2
      cases sq with
      | false =>
        refine ⟨[enX e, enX e], LeL.refl _, (SameEntry_con e e).as ((enEq_iff _ _).2 rfl) _ _ ?_⟩
        intro hz1 hz2; clear hz1 hz2
        refine sem_of (esc := fun _ => false) tab_ok mixed ?_
        exact fin
      | true =>
        refine ⟨[enX e, enX e], LeL.refl _, (SameEntry_con e e).as ((enEq_iff _ _).2 rfl) _ _ ?_⟩
        intro hz1 hz2; clear hz1 hz2
        refine sem_of (esc := fun _ => false) tab_ok mixed ?_
        exact fin
end Go.Proofs.YtnjnfegafmhgnaaGreatDoor
