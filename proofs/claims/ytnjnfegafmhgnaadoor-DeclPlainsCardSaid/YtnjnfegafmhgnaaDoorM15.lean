/-
  Texts put together: R1, R2, R3, H13. No condition.
-/
import Derived.Test.YtnjnfegafmhgnaaDoorM13
/-
  The references' name.Right, term.Right, Formed. No condition.
-/
namespace Go.Proofs.YtnjnfegafmhgnaaDoor
open Go.RowKit

theorem u8_le (a b : UInt8) : (a ≤ b) ↔ ((a.toNat : Int) ≤ b.toNat) := by rw [UInt8.le_iff_toNat_le]; omega
set_option maxRecDepth 100000 in
theorem letter_con (c : UInt8) : Ans Tryd.prog 72 [byteV c] (.b (letB c)) := by
  intro H Q hq
  refine con_of_awp (esc := fun _ => false) tab_ok mixed Tryd.func72 rfl (ent Tryd.func72 (by kernel_rfl) rfl) (by kernel_rfl) ?_
  intro hw hn
  have fin : ∀ q : Bool, q = letB c → ∃ r H', Le (.b q) r ∧ List.Sublist H' H ∧ Q r H' := fun q h => ⟨_, H, ret_b h, List.Sublist.refl _, hq⟩
  have e1 : (97 ≤ c) ↔ ((97 : Int) ≤ c.toNat) := u8_le 97 c
  have e2 : (c ≤ 122) ↔ ((c.toNat : Int) ≤ 122) := u8_le c 122
  have e3 : (c = 95) ↔ ((c.toNat : Int) = 95) := ⟨fun h => by rw [h]; rfl, fun h => u8_eq (b := 95) h⟩
  have e : letB c = (decide ((97 : Int) ≤ c.toNat) && decide ((c.toNat : Int) ≤ 122) || decide ((c.toNat : Int) = 95)) := by
    unfold letB
    simp only [← e1, ← e2, ← e3]
    rfl
  refine ifB_dec (fun h1 => ?_) (fun h1 => ?_)
  · refine ifB_dec (fun h2 => ?_) (fun h2 => ?_)
    · exact fin _ (by rw [e]; simp [show (97 : Int) ≤ c.toNat from h1, show (c.toNat : Int) ≤ 122 from h2])
    · refine ifB_dec (fun h3 => ?_) (fun h3 => ?_)
      · exact fin _ (by rw [e]; simp [show (c.toNat : Int) = 95 from h3])
      · exact fin _ (by rw [e, decide_eq_false (show ¬ (c.toNat : Int) ≤ 122 from h2), decide_eq_false (show ¬ (c.toNat : Int) = 95 from h3)]; simp)
  · refine ifB_dec (fun h3 => ?_) (fun h3 => ?_)
    · exact fin _ (by rw [e]; simp [show (c.toNat : Int) = 95 from h3])
    · exact fin _ (by rw [e, decide_eq_false (show ¬ (97 : Int) ≤ c.toNat from h1), decide_eq_false (show ¬ (c.toNat : Int) = 95 from h3)]; simp)
set_option maxRecDepth 100000 in
theorem digit_con (c : UInt8) : Ans Tryd.prog 73 [byteV c] (.b (digB c)) := by
  intro H Q hq
  refine con_of_awp (esc := fun _ => false) tab_ok mixed Tryd.func73 rfl (ent Tryd.func73 (by kernel_rfl) rfl) (by kernel_rfl) ?_
  intro hw hn
  have fin : ∀ q : Bool, q = digB c → ∃ r H', Le (.b q) r ∧ List.Sublist H' H ∧ Q r H' := fun q h => ⟨_, H, ret_b h, List.Sublist.refl _, hq⟩
  have e1 : (48 ≤ c) ↔ ((48 : Int) ≤ c.toNat) := u8_le 48 c
  have e2 : (c ≤ 57) ↔ ((c.toNat : Int) ≤ 57) := u8_le c 57
  have e : digB c = (decide ((48 : Int) ≤ c.toNat) && decide ((c.toNat : Int) ≤ 57)) := by
    unfold digB
    simp only [← e1, ← e2]
  refine ifB_dec (fun h1 => ?_) (fun h1 => ?_)
  rotate_left
  · exact fin _ (by rw [e, decide_eq_false (show ¬ (48 : Int) ≤ c.toNat from h1)]; simp)
  refine ifB_dec (fun h2 => ?_) (fun h2 => ?_)
  rotate_left
  · exact fin _ (by rw [e, decide_eq_false (show ¬ (c.toNat : Int) ≤ 57 from h2)]; simp)
  exact fin _ (by rw [e, decide_eq_true (show (48 : Int) ≤ c.toNat from h1), decide_eq_true (show (c.toNat : Int) ≤ 57 from h2)]; rfl)
theorem nmGo_cons (first : Bool) (c : UInt8) (r : List UInt8) : nmGo first (c :: r) = if c == 46 then (if first then false else nmGo true r) else if letB c || (digB c && !first) then nmGo false r else false := rfl
set_option maxRecDepth 100000 in
theorem ref01Right_con (l : List UInt8) : Ans Tryd.prog 43 [.str l] (.b (nameOk l)) := by
  intro H Q hq
  refine con_of_awp (esc := fun _ => false) tab_ok mixed Tryd.func43 rfl (ent Tryd.func43 (by kernel_rfl) rfl) (by kernel_rfl) ?_
  intro hw hn
  have fin : ∀ q : Bool, q = nameOk l → ∃ r H', Le (.b q) r ∧ List.Sublist H' H ∧ Q r H' := fun q h => ⟨_, H, ret_b h, List.Sublist.refl _, hq⟩
  refine ifB_dec (fun h1 => ?_) (fun h1 => ?_)
  · exact fin _ (by rw [nameOk, decide_eq_false (show ¬ 1 ≤ l.length by omega)]; rfl)
  refine ifB_dec (fun h2 => ?_) (fun h2 => ?_)
  · exact fin _ (by rw [nameOk, decide_eq_false (show ¬ l.length ≤ 40 by omega)]; simp)
  have hok : nameOk l = nmGo true l := by rw [nameOk, decide_eq_true (show 1 ≤ l.length by omega), decide_eq_true (show l.length ≤ 40 by omega)]; rfl
  refine ⟨Nat × Bool, fun p => ⟨[(0, .g (.str l)), (2, .g (.b false)), (3, .g (.b p.2)), (4, .g (.i p.1))], [], H⟩, fun p => p.1 ≤ l.length ∧ nmGo true l = nmGo p.2 (l.drop p.1), fun p => l.length - p.1, ⟨(0, true), ⟨Nat.zero_le _, rfl⟩, ?_⟩, ?_⟩
  · (constructor <;> repeat' (first | exact trivial | exact ⟨rfl, rfl⟩ | exact ⟨rfl, LeL.refl _⟩ | exact Le.refl _ | exact List.Sublist.refl _ | (show Le (AV.i _) (AV.i _); rw [List.length_map]; exact Le.refl _) | refine And.intro ?_ ?_))
  · rintro ⟨k, first⟩ ⟨hk, hinv⟩
    simp only at hk hinv
    refine ifB_dec (fun h3 => ?_) (fun h3 => ?_)
    · simp only at h3
      have hlt : k < l.length := by omega
      rw [List.drop_eq_getElem_cons hlt, nmGo_cons] at hinv
      have hget : l[k]? = some l[k] := by simp [hlt]
      refine ⟨k, rfl, l[k], hget, ?_⟩
      refine ifB_dec (fun h4 => ?_) (fun h4 => ?_)
      · have hd : l[k] = 46 := u8_eq (b := 46) h4
        rw [if_pos (by rw [hd]; rfl)] at hinv
        cases first with
        | true => exact fin _ (by rw [hok, hinv]; rfl)
        | false =>
          refine ⟨in64_of (by first | omega | (dsimp only; omega)) (by first | omega | (dsimp only; omega)), ?_⟩
          refine ⟨(k + 1, true), ⟨by simp only; omega, by simpa using hinv⟩, by (try dsimp only); omega, ?_⟩
          (constructor <;> repeat' (first | exact trivial | exact ⟨rfl, rfl⟩ | exact ⟨rfl, LeL.refl _⟩ | exact Le.refl _ | exact List.Sublist.refl _ | (show Le (AV.i _) (AV.i _); rw [List.length_map]; exact Le.refl _) | refine And.intro ?_ ?_))
      · have hd : ¬ (l[k] == 46) = true := by
          rw [beq_iff_eq]
          exact fun h => h4 (by rw [h]; rfl)
        rw [if_neg hd] at hinv
        refine ⟨k, rfl, l[k], hget, ?_⟩
        by_cases h5 : letB l[k] = true
        · refine ⟨_, LeL.refl _, (letter_con l[k]).yes h5 _ _ ?_⟩
          intro hz1 hz2; clear hz1 hz2
          refine ⟨in64_of (by first | omega | (dsimp only; omega)) (by first | omega | (dsimp only; omega)), ?_⟩
          refine ⟨(k + 1, false), ⟨by simp only; omega, by rw [hinv, h5]; rfl⟩, by (try dsimp only); omega, ?_⟩
          (constructor <;> repeat' (first | exact trivial | exact ⟨rfl, rfl⟩ | exact ⟨rfl, LeL.refl _⟩ | exact Le.refl _ | exact List.Sublist.refl _ | (show Le (AV.i _) (AV.i _); rw [List.length_map]; exact Le.refl _) | refine And.intro ?_ ?_))
        · refine ⟨_, LeL.refl _, (letter_con l[k]).no h5 _ _ ?_⟩
          intro hz1 hz2; clear hz1 hz2
          refine ⟨k, rfl, l[k], hget, ?_⟩
          by_cases h6 : digB l[k] = true
          · refine ⟨_, LeL.refl _, (digit_con l[k]).yes h6 _ _ ?_⟩
            intro hz1 hz2; clear hz1 hz2
            cases first with
            | true => exact fin _ (by rw [hok, hinv, ntrue h5]; simp)
            | false =>
              refine ⟨in64_of (by first | omega | (dsimp only; omega)) (by first | omega | (dsimp only; omega)), ?_⟩
              refine ⟨(k + 1, false), ⟨by simp only; omega, by rw [hinv, h6]; simp⟩, by (try dsimp only); omega, ?_⟩
              (constructor <;> repeat' (first | exact trivial | exact ⟨rfl, rfl⟩ | exact ⟨rfl, LeL.refl _⟩ | exact Le.refl _ | exact List.Sublist.refl _ | (show Le (AV.i _) (AV.i _); rw [List.length_map]; exact Le.refl _) | refine And.intro ?_ ?_))
          · refine ⟨_, LeL.refl _, (digit_con l[k]).no h6 _ _ ?_⟩
            intro hz1 hz2; clear hz1 hz2
            exact fin _ (by rw [hok, hinv, ntrue h5, ntrue h6]; simp)
    · simp only at h3
      have hk' : k = l.length := by omega
      rw [hk', List.drop_length] at hinv
      exact fin _ (by rw [hok, hinv]; rfl)

set_option maxRecDepth 100000 in
theorem ref04Nodes_con (most : Nat) (hm : most ≤ 1099511627776) : ∀ (N : Nat) (l : Tm), l.nodes ≤ N → Ans Tryd.prog 74 [tmX l, .i most] (.i (min l.nodes (most + 1) : Nat)) := by
  intro N
  induction N with
  | zero => intro l h; have := l.nodes_pos; omega
  | succ N ih =>
    intro l hN H Q hq
    refine con_of_awp (esc := fun _ => false) tab_ok mixed Tryd.func74 rfl (ent Tryd.func74 (by kernel_rfl) rfl) (by kernel_rfl) ?_
    intro hw hn
    have hlena := (hw (tmX l) (by simp)).targs
    have hlenl := (hw (tmX l) (by simp)).tlevels
    have hnd := l.nodes_eq
    refine ⟨Nat × Int, fun p => ⟨[(1, .g (.i most)), (2, .lp 2 0), (4, .g (.i 0)), (5, .g (.i p.2)), (6, .g (.i p.1))], [(2, (tmX l).cells)], H⟩,
      fun p => p.1 ≤ l.levels.length ∧ CntRel most (1 + Lv.nodesL (l.levels.take p.1)) p.2, fun p => l.levels.length - p.1, ⟨(0, 1), ⟨Nat.zero_le _, by unfold CntRel; simp [Lv.nodesL]; omega⟩, ?_⟩, ?_⟩
    · (constructor <;> repeat' (first | exact trivial | exact ⟨rfl, rfl⟩ | exact ⟨rfl, LeL.refl _⟩ | exact Le.refl _ | exact List.Sublist.refl _ | (show Le (AV.i _) (AV.i _); rw [List.length_map]; exact Le.refl _) | refine And.intro ?_ ?_))
    · rintro ⟨k, m⟩ ⟨hk, hrel⟩
      simp only at hk hrel
      have hr := hrel
      unfold CntRel at hr
      have hle : Lv.nodesL (l.levels.take k) ≤ Lv.nodesL l.levels := nodesL_le _ _
      refine ifB_dec (fun h1 => ?_) (fun h1 => ?_)
      · have hlt : k < l.levels.length := by simpa using h1
        refine ifB_dec (fun h2 => ?_) (fun h2 => ?_)
        · refine ⟨k, rfl, _, lvAt hlt, ?_⟩
          refine ⟨_, LeL.refl _, LevelNodes_con most hm _ _ (Nat.le_refl _) _ _ ?_⟩
          intro hz1 hz2; clear hz1 hz2
          refine ⟨in64_of (by first | omega | (dsimp only; omega)) (by first | omega | (dsimp only; omega)), ?_⟩
          refine ⟨in64_of (by first | omega | (dsimp only; omega)) (by first | omega | (dsimp only; omega)), ?_⟩
          have hs := nodesL_snoc hlt
          refine ⟨(k + 1, m + (min l.levels[k].nodes (most + 1) : Nat)), ⟨by simp only; omega, by unfold CntRel at *; simp only; omega⟩, by dsimp only; omega, ?_⟩
          (constructor <;> repeat' (first | exact trivial | exact ⟨rfl, rfl⟩ | exact ⟨rfl, LeL.refl _⟩ | exact Le.refl _ | exact List.Sublist.refl _ | (show Le (AV.i _) (AV.i _); rw [List.length_map]; exact Le.refl _) | refine And.intro ?_ ?_))
        · refine ⟨Nat × Int, fun p => ⟨[(1, .g (.i most)), (2, .lp 2 0), (4, .g (.i 0)), (5, .g (.i p.2)), (7, .g (.i p.1))], [(2, (tmX l).cells)], H⟩,
            fun p => p.1 ≤ l.args.length ∧ CntRel most (1 + Lv.nodesL l.levels + Tm.nodesL (l.args.take p.1)) p.2, fun p => l.args.length - p.1, ⟨(0, m), ⟨Nat.zero_le _, by unfold CntRel; simp [Tm.nodesL]; omega⟩, ?_⟩, ?_⟩
          · (constructor <;> repeat' (first | exact trivial | exact ⟨rfl, rfl⟩ | exact ⟨rfl, LeL.refl _⟩ | exact Le.refl _ | exact List.Sublist.refl _ | (show Le (AV.i _) (AV.i _); rw [List.length_map]; exact Le.refl _) | refine And.intro ?_ ?_))
          · rintro ⟨j, m'⟩ ⟨hj, hrel'⟩
            simp only at hj hrel'
            have hr' := hrel'
            unfold CntRel at hr'
            have hle' : Tm.nodesL (l.args.take j) ≤ Tm.nodesL l.args := nodesTL_le _ _
            refine ifB_dec (fun h3 => ?_) (fun h3 => ?_)
            · have hlt' : j < l.args.length := by simpa using h3
              refine ifB_dec (fun h4 => ?_) (fun h4 => ?_)
              · refine ⟨j, rfl, _, tmAt' hlt', ?_⟩
                have hmem := Tm.nodesL_mem (List.getElem_mem hlt')
                refine ⟨_, LeL.refl _, ih _ (by omega) _ _ ?_⟩
                intro hz1 hz2; clear hz1 hz2
                refine ⟨in64_of (by first | omega | (dsimp only; omega)) (by first | omega | (dsimp only; omega)), ?_⟩
                refine ⟨in64_of (by first | omega | (dsimp only; omega)) (by first | omega | (dsimp only; omega)), ?_⟩
                have hs' := nodesTL_snoc hlt'
                refine ⟨(j + 1, m' + (min l.args[j].nodes (most + 1) : Nat)), ⟨by simp only; omega, by unfold CntRel at *; simp only; omega⟩, by dsimp only; omega, ?_⟩
                (constructor <;> repeat' (first | exact trivial | exact ⟨rfl, rfl⟩ | exact ⟨rfl, LeL.refl _⟩ | exact Le.refl _ | exact List.Sublist.refl _ | (show Le (AV.i _) (AV.i _); rw [List.length_map]; exact Le.refl _) | refine And.intro ?_ ?_))
              · refine ⟨in64_of (by first | omega | (dsimp only; omega)) (by first | omega | (dsimp only; omega)), ?_⟩
                exact ⟨_, H, ret_i (by omega), List.Sublist.refl _, hq⟩
            · have hj' : j = l.args.length := by
                have : ¬ j < l.args.length := by simpa using h3
                omega
              refine ⟨in64_of (by first | omega | (dsimp only; omega)) (by first | omega | (dsimp only; omega)), ?_⟩
              refine ⟨_, H, ret_i ?_, List.Sublist.refl _, hq⟩
              rw [hj', List.take_length] at hr'
              omega
      · have hk' : k = l.levels.length := by
          have : ¬ k < l.levels.length := by simpa using h1
          omega
        rw [hk', List.take_length] at hr
        refine ⟨Nat × Int, fun p => ⟨[(1, .g (.i most)), (2, .lp 2 0), (4, .g (.i 0)), (5, .g (.i p.2)), (7, .g (.i p.1))], [(2, (tmX l).cells)], H⟩,
          fun p => p.1 ≤ l.args.length ∧ CntRel most (1 + Lv.nodesL l.levels + Tm.nodesL (l.args.take p.1)) p.2, fun p => l.args.length - p.1, ⟨(0, m), ⟨Nat.zero_le _, by unfold CntRel; simp [Tm.nodesL]; omega⟩, ?_⟩, ?_⟩
        · (constructor <;> repeat' (first | exact trivial | exact ⟨rfl, rfl⟩ | exact ⟨rfl, LeL.refl _⟩ | exact Le.refl _ | exact List.Sublist.refl _ | (show Le (AV.i _) (AV.i _); rw [List.length_map]; exact Le.refl _) | refine And.intro ?_ ?_))
        · rintro ⟨j, m'⟩ ⟨hj, hrel'⟩
          simp only at hj hrel'
          have hr' := hrel'
          unfold CntRel at hr'
          have hle' : Tm.nodesL (l.args.take j) ≤ Tm.nodesL l.args := nodesTL_le _ _
          refine ifB_dec (fun h3 => ?_) (fun h3 => ?_)
          · have hlt' : j < l.args.length := by simpa using h3
            refine ifB_dec (fun h4 => ?_) (fun h4 => ?_)
            · refine ⟨j, rfl, _, tmAt' hlt', ?_⟩
              have hmem := Tm.nodesL_mem (List.getElem_mem hlt')
              refine ⟨_, LeL.refl _, ih _ (by omega) _ _ ?_⟩
              intro hz1 hz2; clear hz1 hz2
              refine ⟨in64_of (by first | omega | (dsimp only; omega)) (by first | omega | (dsimp only; omega)), ?_⟩
              refine ⟨in64_of (by first | omega | (dsimp only; omega)) (by first | omega | (dsimp only; omega)), ?_⟩
              have hs' := nodesTL_snoc hlt'
              refine ⟨(j + 1, m' + (min l.args[j].nodes (most + 1) : Nat)), ⟨by simp only; omega, by unfold CntRel at *; simp only; omega⟩, by dsimp only; omega, ?_⟩
              (constructor <;> repeat' (first | exact trivial | exact ⟨rfl, rfl⟩ | exact ⟨rfl, LeL.refl _⟩ | exact Le.refl _ | exact List.Sublist.refl _ | (show Le (AV.i _) (AV.i _); rw [List.length_map]; exact Le.refl _) | refine And.intro ?_ ?_))
            · refine ⟨in64_of (by first | omega | (dsimp only; omega)) (by first | omega | (dsimp only; omega)), ?_⟩
              exact ⟨_, H, ret_i (by omega), List.Sublist.refl _, hq⟩
          · have hj' : j = l.args.length := by
              have : ¬ j < l.args.length := by simpa using h3
              omega
            refine ⟨in64_of (by first | omega | (dsimp only; omega)) (by first | omega | (dsimp only; omega)), ?_⟩
            refine ⟨_, H, ret_i ?_, List.Sublist.refl _, hq⟩
            rw [hj', List.take_length] at hr'
            omega

set_option maxRecDepth 100000 in
theorem binds_con (k : Int) (i : Nat) : Ans Tryd.prog 102 [.i k, .i i] (.b (tmBind k i)) := by
  intro H Q hq
  refine con_of_awp (esc := fun _ => false) tab_ok mixed Tryd.func102 rfl (ent Tryd.func102 (by kernel_rfl) rfl) (by kernel_rfl) ?_
  intro hw hn
  have fin : ∀ q : Bool, q = tmBind k i → ∃ r H', Le (.b q) r ∧ List.Sublist H' H ∧ Q r H' := fun q h => ⟨_, H, ret_b h, List.Sublist.refl _, hq⟩
  refine ifB_dec (fun h5 => ?_) (fun h5 => ?_)
  · refine ifB_dec (fun h1 => ?_) (fun h1 => ?_)
    · exact fin _ (by have : i = 1 := (by omega); simp [tmBind, h5, this])
    · have hi : ¬ i = 1 := by omega
      refine ifB_dec (fun h7 => ?_) (fun h7 => ?_)
      · refine ifB_dec (fun h2 => ?_) (fun h2 => ?_)
        · exact fin _ (by have : i = 2 := (by omega); simp [tmBind, h7, this])
        · exact fin _ (by have : ¬ i = 2 := (by omega); simp [tmBind, h7, this])
      · exact fin _ (by simp [tmBind, *])
  · refine ifB_dec (fun h6 => ?_) (fun h6 => ?_)
    · refine ifB_dec (fun h1 => ?_) (fun h1 => ?_)
      · exact fin _ (by have : i = 1 := (by omega); simp [tmBind, h6, this])
      · have hi : ¬ i = 1 := by omega
        refine ifB_dec (fun h7 => ?_) (fun h7 => ?_)
        · refine ifB_dec (fun h2 => ?_) (fun h2 => ?_)
          · exact fin _ (by have : i = 2 := (by omega); simp [tmBind, h7, this])
          · exact fin _ (by have : ¬ i = 2 := (by omega); simp [tmBind, h7, this])
        · exact fin _ (by simp [tmBind, *])
    · refine ifB_dec (fun h7 => ?_) (fun h7 => ?_)
      · refine ifB_dec (fun h2 => ?_) (fun h2 => ?_)
        · exact fin _ (by have : i = 2 := (by omega); simp [tmBind, h7, this])
        · exact fin _ (by have : ¬ i = 2 := (by omega); simp [tmBind, h7, this])
      · exact fin _ (by simp [tmBind, *])
end Go.Proofs.YtnjnfegafmhgnaaDoor

/-
  The references' term.Right, Formed. No condition.
-/
namespace Go.Proofs.YtnjnfegafmhgnaaDoor
open Go.RowKit

theorem sem_use {P : Program} {N : Nat} {c : Code} {Q Q' : Exit → St → Prop} {s : St} (h : sem P N c Q s) (k : ∀ x s, Q x s → Q' x s) : sem P N c Q' s := fun hs B a w hc => wp_mono (h hs B a w hc) fun _ _ _ ⟨s', h1, h2⟩ => ⟨s', h1, k _ _ h2⟩
/-- what a term's kind asks of the node: how many parts, how many levels -/
def kindOk (vars k m : Int) (nm : List UInt8) (ls : Nat) : Int × Int × Bool :=
  if k = 1 then (0, 0, decide (0 ≤ m) && decide (m < vars))
  else if k = 2 then (0, 1, true)
  else if k = 3 then (0, ls, nameOk nm && decide (ls ≤ 4))
  else if k = 4 ∨ k = 5 ∨ k = 6 then (2, 0, true)
  else if k = 7 then (3, 0, true)
  else (0, 0, false)
theorem tmNode_kind (vars k m : Int) (nm : List UInt8) (ls xs : Nat) : tmNode vars k m nm ls xs = ((kindOk vars k m nm ls).2.2 && ((k = 1 || decide (m = 0)) && ((k = 3 || decide (nm = [])) && (decide ((ls : Int) = (kindOk vars k m nm ls).2.1) && decide ((xs : Int) = (kindOk vars k m nm ls).1))))) := by
  unfold tmNode kindOk
  by_cases h1 : k = 1
  · subst h1
    simp only [if_true]
    rw [Bool.eq_iff_iff]; simp; grind
  · by_cases h2 : k = 2
    · subst h2
      rw [Bool.eq_iff_iff]; simp; grind
    · by_cases h3 : k = 3
      · subst h3
        rw [Bool.eq_iff_iff]; simp; grind
      · by_cases h4 : k = 4 ∨ k = 5 ∨ k = 6
        · simp only [h1, h2, h3, h4, if_true, if_false]
          rw [Bool.eq_iff_iff]; simp; grind
        · by_cases h7 : k = 7
          · subst h7
            rw [Bool.eq_iff_iff]; simp; grind
          · simp [h1, h2, h3, h4, h7]

set_option maxRecDepth 100000 in
set_option maxHeartbeats 1000000 in
theorem ref04right_con (n : Int) : ∀ (N : Nat) (l : Tm) (vars : Int), l.nodes ≤ N → -1 ≤ vars → vars + N ≤ 4611686018427387904 → Ans Tryd.prog 75 [tmX l, .i n, .i vars] (.b (tmFit n l vars)) := by
  intro N
  induction N with
  | zero => intro l v h; have := l.nodes_pos; omega
  | succ N ih =>
    intro l vars hN hv0 hv1 H Q hq
    have hnd := l.nodes_eq
    have hfit := tmFit_eq n l vars
    have fin : ∀ q : Bool, q = tmFit n l vars → ∃ r H', Le (.b q) r ∧ List.Sublist H' H ∧ Q r H' := fun q h => ⟨_, H, ret_b h, List.Sublist.refl _, hq⟩
    have bad : tmNode vars l.kind l.n l.name l.levels.length l.args.length = false → ∃ r H', Le (.b false) r ∧ List.Sublist H' H ∧ Q r H' := fun h => fin _ (by rw [hfit, h]; rfl)
    refine con_of_sem tab_ok Tryd.func75 rfl (ent Tryd.func75 (by kernel_rfl) rfl) (by kernel_rfl) ?_
    intro hw hn
    have hlena := (hw (tmX l) (by simp)).targs
    have hlenl := (hw (tmX l) (by simp)).tlevels
    clear hw hn
    refine sem_seq (esc := fun _ => false) tab_ok mixed ?_
    refine sem_join (esc := fun _ => false) tab_ok mixed (X := Unit) (fun q => ⟨[(1, .g (.i n)), (2, .g (.i vars)), (3, .lp 3 0), (6, .g (.b false))], [(3, (tmX l).cells)], H⟩) (fun q => lvRightL n l.levels = true) ?_ (fun q hI => ?_)
    · refine ⟨Nat, fun j => ⟨[(1, .g (.i n)), (2, .g (.i vars)), (3, .lp 3 0), (6, .g (.b false)), (7, .g (.i j))], [(3, (tmX l).cells)], H⟩, fun j => j ≤ l.levels.length ∧ (l.levels.take j).all (lvRight n) = true, fun j => l.levels.length - j, ⟨0, ⟨Nat.zero_le _, rfl⟩, ?_⟩, ?_⟩
      · (constructor <;> repeat' (first | exact trivial | exact ⟨rfl, rfl⟩ | exact ⟨rfl, LeL.refl _⟩ | exact Le.refl _ | exact List.Sublist.refl _ | (show Le (AV.i _) (AV.i _); rw [List.length_map]; exact Le.refl _) | refine And.intro ?_ ?_))
      · rintro j ⟨hj, hall⟩
        refine ifB_dec (fun h1 => ?_) (fun h1 => ?_)
        · have hlt : j < l.levels.length := by simpa using h1
          refine ⟨j, rfl, _, lvAt hlt, ?_⟩
          by_cases h2 : lvRight n l.levels[j] = true
          · refine ⟨_, LeL.refl _, (ref03Right_con n _).yes h2 _ _ ?_⟩
            intro hz1 hz2; clear hz1 hz2
            refine ⟨in64_of (by first | omega | (dsimp only; omega)) (by first | omega | (dsimp only; omega)), ?_⟩
            refine ⟨j + 1, ⟨by omega, all_take hlt hall h2⟩, by (try dsimp only); omega, ?_⟩
            (constructor <;> repeat' (first | exact trivial | exact ⟨rfl, rfl⟩ | exact ⟨rfl, LeL.refl _⟩ | exact Le.refl _ | exact List.Sublist.refl _ | (show Le (AV.i _) (AV.i _); rw [List.length_map]; exact Le.refl _) | refine And.intro ?_ ?_))
          · refine ⟨_, LeL.refl _, (ref03Right_con n _).no h2 _ _ ?_⟩
            intro hz1 hz2; clear hz1 hz2
            exact fin _ (by rw [hfit, lvRightL, all_no hlt (ntrue h2)]; simp)
        · have hj' : j = l.levels.length := by
            have : ¬ j < l.levels.length := by simpa using h1
            omega
          rw [hj', List.take_length] at hall
          refine ⟨(), hall, ?_⟩
          (constructor <;> repeat' (first | exact trivial | exact ⟨rfl, rfl⟩ | exact ⟨rfl, LeL.refl _⟩ | exact Le.refl _ | exact List.Sublist.refl _ | (show Le (AV.i _) (AV.i _); rw [List.length_map]; exact Le.refl _) | refine And.intro ?_ ?_))
    have hls := hI
    clear hI
    refine sem_seq (esc := fun _ => false) tab_ok mixed ?_
    refine sem_seq (esc := fun _ => false) tab_ok mixed ?_
    refine sem_join (esc := fun _ => false) tab_ok mixed (X := Int × Int) (fun q => ⟨[(1, .g (.i n)), (2, .g (.i vars)), (3, .lp 3 0), (6, .g (.b false)), (8, .g (.i q.1)), (9, .g (.i q.2))], [(3, (tmX l).cells)], H⟩) (fun q => (1 ≤ l.kind ∧ l.kind ≤ 7) ∧ kindOk vars l.kind l.n l.name l.levels.length = (q.1, q.2, true)) ?_ (fun q hI => ?_)
    · have badk : (kindOk vars l.kind l.n l.name l.levels.length).2.2 = false → ∃ r H', Le (.b false) r ∧ List.Sublist H' H ∧ Q r H' := fun h => bad (by rw [tmNode_kind, h]; rfl)
      refine ifB_dec (fun k1 => ?_) (fun k1 => ?_)
      · refine ifB_dec (fun h2 => ?_) (fun h2 => ?_)
        · exact badk (by rw [kindOk, if_pos k1, decide_eq_false (show ¬ 0 ≤ l.n by omega)]; rfl)
        refine ifB_dec (fun h3 => ?_) (fun h3 => ?_)
        · exact badk (by rw [kindOk, if_pos k1, decide_eq_false (show ¬ l.n < vars by omega)]; simp)
        refine ⟨(0, 0), ⟨by omega, by rw [kindOk, if_pos k1, decide_eq_true (show 0 ≤ l.n by omega), decide_eq_true (show l.n < vars by omega)]; rfl⟩, ?_⟩
        (constructor <;> repeat' (first | exact trivial | exact ⟨rfl, rfl⟩ | exact ⟨rfl, LeL.refl _⟩ | exact Le.refl _ | exact List.Sublist.refl _ | (show Le (AV.i _) (AV.i _); rw [List.length_map]; exact Le.refl _) | refine And.intro ?_ ?_))
      refine ifB_dec (fun k2 => ?_) (fun k2 => ?_)
      · refine ⟨(0, 1), ⟨by omega, by rw [kindOk, if_neg k1, if_pos k2]⟩, ?_⟩
        (constructor <;> repeat' (first | exact trivial | exact ⟨rfl, rfl⟩ | exact ⟨rfl, LeL.refl _⟩ | exact Le.refl _ | exact List.Sublist.refl _ | (show Le (AV.i _) (AV.i _); rw [List.length_map]; exact Le.refl _) | refine And.intro ?_ ?_))
      refine ifB_dec (fun k3 => ?_) (fun k3 => ?_)
      · by_cases h4 : nameOk l.name = true
        rotate_left
        · refine ⟨_, LeL.refl _, (ref01Right_con l.name).no h4 _ _ ?_⟩
          intro hz1 hz2; clear hz1 hz2
          exact badk (by rw [kindOk, if_neg k1, if_neg k2, if_pos k3, ntrue h4]; rfl)
        refine ⟨_, LeL.refl _, (ref01Right_con l.name).yes h4 _ _ ?_⟩
        intro hz1 hz2; clear hz1 hz2
        refine ifB_dec (fun h5 => ?_) (fun h5 => ?_)
        · simp only [List.length_map] at h5
          exact badk (by rw [kindOk, if_neg k1, if_neg k2, if_pos k3, h4, decide_eq_false (show ¬ l.levels.length ≤ 4 by omega)]; rfl)
        simp only [List.length_map] at h5
        refine ⟨(0, l.levels.length), ⟨by omega, by rw [kindOk, if_neg k1, if_neg k2, if_pos k3, h4, decide_eq_true (show l.levels.length ≤ 4 by omega)]; rfl⟩, ?_⟩
        (constructor <;> repeat' (first | exact trivial | exact ⟨rfl, rfl⟩ | exact ⟨rfl, LeL.refl _⟩ | exact Le.refl _ | exact List.Sublist.refl _ | (show Le (AV.i _) (AV.i _); rw [List.length_map]; exact Le.refl _) | refine And.intro ?_ ?_))
      refine ifB_dec (fun k4 => ?_) (fun k4 => ?_)
      · refine ⟨(2, 0), ⟨by omega, by rw [kindOk, if_neg k1, if_neg k2, if_neg k3, if_pos (by omega)]⟩, ?_⟩
        (constructor <;> repeat' (first | exact trivial | exact ⟨rfl, rfl⟩ | exact ⟨rfl, LeL.refl _⟩ | exact Le.refl _ | exact List.Sublist.refl _ | (show Le (AV.i _) (AV.i _); rw [List.length_map]; exact Le.refl _) | refine And.intro ?_ ?_))
      refine ifB_dec (fun k5 => ?_) (fun k5 => ?_)
      · refine ⟨(2, 0), ⟨by omega, by rw [kindOk, if_neg k1, if_neg k2, if_neg k3, if_pos (by omega)]⟩, ?_⟩
        (constructor <;> repeat' (first | exact trivial | exact ⟨rfl, rfl⟩ | exact ⟨rfl, LeL.refl _⟩ | exact Le.refl _ | exact List.Sublist.refl _ | (show Le (AV.i _) (AV.i _); rw [List.length_map]; exact Le.refl _) | refine And.intro ?_ ?_))
      refine ifB_dec (fun k6 => ?_) (fun k6 => ?_)
      · refine ⟨(2, 0), ⟨by omega, by rw [kindOk, if_neg k1, if_neg k2, if_neg k3, if_pos (by omega)]⟩, ?_⟩
        (constructor <;> repeat' (first | exact trivial | exact ⟨rfl, rfl⟩ | exact ⟨rfl, LeL.refl _⟩ | exact Le.refl _ | exact List.Sublist.refl _ | (show Le (AV.i _) (AV.i _); rw [List.length_map]; exact Le.refl _) | refine And.intro ?_ ?_))
      refine ifB_dec (fun k7 => ?_) (fun k7 => ?_)
      · refine ⟨(3, 0), ⟨by omega, by rw [kindOk, if_neg k1, if_neg k2, if_neg k3, if_neg (by omega), if_pos k7]⟩, ?_⟩
        (constructor <;> repeat' (first | exact trivial | exact ⟨rfl, rfl⟩ | exact ⟨rfl, LeL.refl _⟩ | exact Le.refl _ | exact List.Sublist.refl _ | (show Le (AV.i _) (AV.i _); rw [List.length_map]; exact Le.refl _) | refine And.intro ?_ ?_))
      exact badk (by rw [kindOk, if_neg k1, if_neg k2, if_neg k3, if_neg (by omega), if_neg k7])
    obtain ⟨qa, ql⟩ := q
    obtain ⟨hk, hko⟩ := hI
    simp only at hko
    have hnode : tmNode vars l.kind l.n l.name l.levels.length l.args.length = ((l.kind = 1 || decide (l.n = 0)) && ((l.kind = 3 || decide (l.name = [])) && (decide ((l.levels.length : Int) = ql) && decide ((l.args.length : Int) = qa)))) := by rw [tmNode_kind, hko]; rfl
    refine sem_join (esc := fun _ => false) tab_ok mixed (X := Unit) (fun q => ⟨[(1, .g (.i n)), (2, .g (.i vars)), (3, .lp 3 0), (6, .g (.b false)), (8, .g (.i l.args.length))], [(3, (tmX l).cells)], H⟩) (fun q => tmNode vars l.kind l.n l.name l.levels.length l.args.length = true) ?_ (fun q hI => ?_)
    · refine ifB_dec (fun k1 => ?_) (fun k1 => ?_)
      · refine ifB_dec (fun k3 => ?_) (fun k3 => ?_)
        · refine ifB_dec (fun h4 => ?_) (fun h4 => ?_)
          · simp only [List.length_map] at h4
            refine ifB_dec (fun h5 => ?_) (fun h5 => ?_)
            · simp only [List.length_map] at h5
              refine ⟨(), by rw [hnode, decide_eq_true h4, decide_eq_true h5]; first | (exfalso; omega) | simp [*], ?_⟩
              refine ⟨⟨Le.refl _, Le.refl _, ⟨rfl, rfl⟩, Le.refl _, le_of_eq ?_, trivial⟩, ⟨⟨rfl, LeL.refl _⟩, trivial⟩, List.Sublist.refl _⟩
              show AV.i _ = AV.i _
              rw [h5]
            · simp only [List.length_map] at h5
              exact bad (by rw [hnode, decide_eq_false h5]; simp)
          · simp only [List.length_map] at h4
            exact bad (by rw [hnode, decide_eq_false h4]; simp)
        · refine ifB_dec (fun h3 => ?_) (fun h3 => ?_)
          · have h3' : l.name = [] := h3
            refine ifB_dec (fun h4 => ?_) (fun h4 => ?_)
            · simp only [List.length_map] at h4
              refine ifB_dec (fun h5 => ?_) (fun h5 => ?_)
              · simp only [List.length_map] at h5
                refine ⟨(), by rw [hnode, decide_eq_true h4, decide_eq_true h5]; first | (exfalso; omega) | simp [*], ?_⟩
                refine ⟨⟨Le.refl _, Le.refl _, ⟨rfl, rfl⟩, Le.refl _, le_of_eq ?_, trivial⟩, ⟨⟨rfl, LeL.refl _⟩, trivial⟩, List.Sublist.refl _⟩
                show AV.i _ = AV.i _
                rw [h5]
              · simp only [List.length_map] at h5
                exact bad (by rw [hnode, decide_eq_false h5]; simp)
            · simp only [List.length_map] at h4
              exact bad (by rw [hnode, decide_eq_false h4]; simp)
          · exact bad (by rw [hnode, decide_eq_false (show ¬ l.name = [] from h3)]; simp [k3])
      · refine ifB_dec (fun h2 => ?_) (fun h2 => ?_)
        · refine ifB_dec (fun k3 => ?_) (fun k3 => ?_)
          · refine ifB_dec (fun h4 => ?_) (fun h4 => ?_)
            · simp only [List.length_map] at h4
              refine ifB_dec (fun h5 => ?_) (fun h5 => ?_)
              · simp only [List.length_map] at h5
                refine ⟨(), by rw [hnode, decide_eq_true h4, decide_eq_true h5]; first | (exfalso; omega) | simp [*], ?_⟩
                refine ⟨⟨Le.refl _, Le.refl _, ⟨rfl, rfl⟩, Le.refl _, le_of_eq ?_, trivial⟩, ⟨⟨rfl, LeL.refl _⟩, trivial⟩, List.Sublist.refl _⟩
                show AV.i _ = AV.i _
                rw [h5]
              · simp only [List.length_map] at h5
                exact bad (by rw [hnode, decide_eq_false h5]; simp)
            · simp only [List.length_map] at h4
              exact bad (by rw [hnode, decide_eq_false h4]; simp)
          · refine ifB_dec (fun h3 => ?_) (fun h3 => ?_)
            · have h3' : l.name = [] := h3
              refine ifB_dec (fun h4 => ?_) (fun h4 => ?_)
              · simp only [List.length_map] at h4
                refine ifB_dec (fun h5 => ?_) (fun h5 => ?_)
                · simp only [List.length_map] at h5
                  refine ⟨(), by rw [hnode, decide_eq_true h4, decide_eq_true h5]; first | (exfalso; omega) | simp [*], ?_⟩
                  refine ⟨⟨Le.refl _, Le.refl _, ⟨rfl, rfl⟩, Le.refl _, le_of_eq ?_, trivial⟩, ⟨⟨rfl, LeL.refl _⟩, trivial⟩, List.Sublist.refl _⟩
                  show AV.i _ = AV.i _
                  rw [h5]
                · simp only [List.length_map] at h5
                  exact bad (by rw [hnode, decide_eq_false h5]; simp)
              · simp only [List.length_map] at h4
                exact bad (by rw [hnode, decide_eq_false h4]; simp)
            · exact bad (by rw [hnode, decide_eq_false (show ¬ l.name = [] from h3)]; simp [k3])
        · exact bad (by rw [hnode, decide_eq_false h2]; simp [k1])
    have hnok := hI
    clear hI
    have hfit2 : tmFit n l vars = tmFitL n l.kind l.args 0 vars := by rw [hfit, hnok, hls]; rfl
    refine sem_join (esc := fun _ => false) tab_ok mixed (X := Unit) (fun q => ⟨[(6, .g (.b false))], [], H⟩) (fun q => tmFitL n l.kind l.args 0 vars = true) ?_ (fun q hI => ?_)
    · refine ⟨Nat, fun j => ⟨[(1, .g (.i n)), (2, .g (.i vars)), (3, .lp 3 0), (6, .g (.b false)), (8, .g (.i l.args.length)), (10, .g (.i j))], [(3, (tmX l).cells)], H⟩, fun j => j ≤ l.args.length ∧ tmFitL n l.kind l.args 0 vars = tmFitL n l.kind (l.args.drop j) j vars, fun j => l.args.length - j, ⟨0, ⟨Nat.zero_le _, rfl⟩, ?_⟩, ?_⟩
      · (constructor <;> repeat' (first | exact trivial | exact ⟨rfl, rfl⟩ | exact ⟨rfl, LeL.refl _⟩ | exact Le.refl _ | exact List.Sublist.refl _ | (show Le (AV.i _) (AV.i _); rw [List.length_map]; exact Le.refl _) | refine And.intro ?_ ?_))
      · rintro j ⟨hj, hinv⟩
        refine ifB_dec (fun h1 => ?_) (fun h1 => ?_)
        · have hlt : j < l.args.length := by omega
          have hmem := Tm.nodesL_mem (List.getElem_mem hlt)
          rw [tmFitL_at hlt] at hinv
          by_cases h2 : tmBind l.kind j = true
          · rw [if_pos h2] at hinv
            refine ⟨_, LeL.refl _, (binds_con l.kind j).yes h2 _ _ ?_⟩
            intro hz1 hz2; clear hz1 hz2
            refine ⟨in64_of (by first | omega | (dsimp only; omega)) (by first | omega | (dsimp only; omega)), ?_⟩
            refine ⟨j, rfl, _, tmAt' hlt, ?_⟩
            by_cases h3 : tmFit n l.args[j] (vars + 1) = true
            · refine ⟨_, LeL.refl _, (ih l.args[j] (vars + 1) (by omega) (by omega) (by omega)).yes h3 _ _ ?_⟩
              intro hz1 hz2; clear hz1 hz2
              refine ⟨in64_of (by first | omega | (dsimp only; omega)) (by first | omega | (dsimp only; omega)), ?_⟩
              refine ⟨j + 1, ⟨by omega, by rw [hinv, h3]; rfl⟩, by (try dsimp only); omega, ?_⟩
              (constructor <;> repeat' (first | exact trivial | exact ⟨rfl, rfl⟩ | exact ⟨rfl, LeL.refl _⟩ | exact Le.refl _ | exact List.Sublist.refl _ | (show Le (AV.i _) (AV.i _); rw [List.length_map]; exact Le.refl _) | refine And.intro ?_ ?_))
            · refine ⟨_, LeL.refl _, (ih l.args[j] (vars + 1) (by omega) (by omega) (by omega)).no h3 _ _ ?_⟩
              intro hz1 hz2; clear hz1 hz2
              exact fin _ (by rw [hfit2, hinv, ntrue h3]; rfl)
          · rw [if_neg h2] at hinv
            refine ⟨_, LeL.refl _, (binds_con l.kind j).no h2 _ _ ?_⟩
            intro hz1 hz2; clear hz1 hz2
            refine ⟨j, rfl, _, tmAt' hlt, ?_⟩
            by_cases h3 : tmFit n l.args[j] (vars) = true
            · refine ⟨_, LeL.refl _, (ih l.args[j] (vars) (by omega) (by omega) (by omega)).yes h3 _ _ ?_⟩
              intro hz1 hz2; clear hz1 hz2
              refine ⟨in64_of (by first | omega | (dsimp only; omega)) (by first | omega | (dsimp only; omega)), ?_⟩
              refine ⟨j + 1, ⟨by omega, by rw [hinv, h3]; rfl⟩, by (try dsimp only); omega, ?_⟩
              (constructor <;> repeat' (first | exact trivial | exact ⟨rfl, rfl⟩ | exact ⟨rfl, LeL.refl _⟩ | exact Le.refl _ | exact List.Sublist.refl _ | (show Le (AV.i _) (AV.i _); rw [List.length_map]; exact Le.refl _) | refine And.intro ?_ ?_))
            · refine ⟨_, LeL.refl _, (ih l.args[j] (vars) (by omega) (by omega) (by omega)).no h3 _ _ ?_⟩
              intro hz1 hz2; clear hz1 hz2
              exact fin _ (by rw [hfit2, hinv, ntrue h3]; rfl)
        · have hj' : j = l.args.length := by omega
          rw [hj', List.drop_length] at hinv
          refine ⟨(), by rw [hinv]; rfl, ?_⟩
          (constructor <;> repeat' (first | exact trivial | exact ⟨rfl, rfl⟩ | exact ⟨rfl, LeL.refl _⟩ | exact Le.refl _ | exact List.Sublist.refl _ | (show Le (AV.i _) (AV.i _); rw [List.length_map]; exact Le.refl _) | refine And.intro ?_ ?_))
    refine sem_of (esc := fun _ => false) tab_ok mixed ?_
    exact fin _ (by rw [hfit2, hI])
set_option maxRecDepth 100000 in
theorem ref04Right_con (n vars : Int) (l : Tm) : Ans Tryd.prog 44 [tmX l, .i n, .i vars] (.b (tmRight n vars l)) := by
  intro H Q hq
  refine con_of_awp (esc := fun _ => false) tab_ok mixed Tryd.func44 rfl (ent Tryd.func44 (by kernel_rfl) rfl) (by kernel_rfl) ?_
  intro hw hn
  have fin : ∀ q : Bool, q = tmRight n vars l → ∃ r H', Le (.b q) r ∧ List.Sublist H' H ∧ Q r H' := fun q h => ⟨_, H, ret_b h, List.Sublist.refl _, hq⟩
  refine ifB_dec (fun h1 => ?_) (fun h1 => ?_)
  rotate_left
  · exact fin _ (by unfold tmRight; simp [h1])
  refine ifB_dec (fun h2 => ?_) (fun h2 => ?_)
  rotate_left
  · exact fin _ (by unfold tmRight; simp [h2])
  refine ifB_dec (fun h3 => ?_) (fun h3 => ?_)
  rotate_left
  · exact fin _ (by unfold tmRight; simp [h3])
  refine ⟨_, LeL.refl _, ref04Nodes_con 2000 (by decide) _ l (Nat.le_refl _) _ _ ?_⟩
  intro hz1 hz2; clear hz1 hz2
  refine ifB_dec (fun h4 => ?_) (fun h4 => ?_)
  rotate_left
  · exact fin _ (by unfold tmRight; rw [decide_eq_false (show ¬ l.nodes ≤ 2000 by omega)]; simp)
  have hnod : l.nodes ≤ 2000 := by omega
  refine ⟨_, LeL.refl _, ref04right_con n _ l (min vars 1125899906842624) (Nat.le_refl _) (by omega) (by omega) _ _ ?_⟩
  intro hz1 hz2; clear hz1 hz2
  exact fin _ (by unfold tmRight; simp [h1, h2, h3, hnod])
end Go.Proofs.YtnjnfegafmhgnaaDoor

/-
  The reference's Formed. No condition.
-/
namespace Go.Proofs.YtnjnfegafmhgnaaDoor
open Go.RowKit

theorem le_tm0' : Le (.agg [.i 0, .i 0, .str [], .sl .full 0 [], .sl .full 0 []]) (tmX tm0) := le_tm0
theorem formed_one (d : Dc) (h5 : d.kind ≠ 5) : formed d = (decide (1 ≤ d.kind) && decide (d.kind ≤ 5) && nameOk d.name && tmRight d.params 0 d.type && (if d.fixed = 0 ∧ d.ctors.length = 0 then (if 2 ≤ d.kind ∧ d.kind ≤ 4 then tmRight d.params 0 d.value else tmEq d.value tm0) else false)) := by
  rw [formed, if_neg h5]
theorem formed_fam (d : Dc) (h5 : d.kind = 5) : formed d = (decide (1 ≤ d.kind) && decide (d.kind ≤ 5) && nameOk d.name && tmRight d.params 0 d.type && (tmEq d.value tm0 && decide (0 ≤ d.fixed) && decide (d.fixed ≤ 16) && decide (d.ctors.length ≤ 8) && !(d.ctors.any (ctWrong d.params)))) := by
  rw [formed, if_pos h5]
theorem any_take_step {α : Type} {p : α → Bool} {xs : List α} {k : Nat} (h : k < xs.length) (h1 : (xs.take k).any p = false) (h2 : p xs[k] = false) : (xs.take (k + 1)).any p = false := by
  rw [List.take_succ_eq_append_getElem h, List.any_append, h1]
  simp [h2]

set_option maxRecDepth 100000 in
set_option maxHeartbeats 1000000 in
theorem ref08Formed_con (d : Dc) : Ans Tryd.prog 12 [dcX d] (.b (formed d)) := by
  intro H Q hq
  have fin : ∀ q : Bool, q = formed d → ∃ r H', Le (.b q) r ∧ List.Sublist H' H ∧ Q r H' := fun q h => ⟨_, H, ret_b h, List.Sublist.refl _, hq⟩
  refine con_of_sem tab_ok Tryd.func12 rfl (ent Tryd.func12 (by kernel_rfl) rfl) (by kernel_rfl) ?_
  intro hw hn
  clear hw hn
  refine sem_seq (esc := fun _ => false) tab_ok mixed ?_
  refine sem_seq (esc := fun _ => false) tab_ok mixed ?_
  refine ifB_dec (fun k1 => ?_) (fun k1 => ?_)
  · exact fin _ (by rw [formed, decide_eq_false (show ¬ 1 ≤ d.kind by omega)]; simp)
  refine ifB_dec (fun k2 => ?_) (fun k2 => ?_)
  · exact fin _ (by rw [formed, decide_eq_false (show ¬ d.kind ≤ 5 by omega)]; simp)
  by_cases k3 : nameOk d.name = true
  rotate_left
  · refine ⟨_, LeL.refl _, (ref01Right_con d.name).no k3 _ _ ?_⟩
    intro hz1 hz2; clear hz1 hz2
    exact fin _ (by rw [formed, ntrue k3]; simp)
  refine ⟨_, LeL.refl _, (ref01Right_con d.name).yes k3 _ _ ?_⟩
  intro hz1 hz2; clear hz1 hz2
  by_cases k4 : tmRight d.params 0 d.type = true
  rotate_left
  · refine ⟨_, LeL.refl _, (ref04Right_con d.params 0 d.type).no k4 _ _ ?_⟩
    intro hz1 hz2; clear hz1 hz2
    exact fin _ (by rw [formed, ntrue k4]; simp)
  refine ⟨_, LeL.refl _, (ref04Right_con d.params 0 d.type).yes k4 _ _ ?_⟩
  intro hz1 hz2; clear hz1 hz2
  have e1 : decide (1 ≤ d.kind) = true := decide_eq_true (by omega)
  have e2 : decide (d.kind ≤ 5) = true := decide_eq_true (by omega)
  refine sem_seq (esc := fun _ => false) tab_ok mixed ?_
  refine ⟨[tmX d.value, tmX tm0], ⟨Le.refl _, le_tm0, trivial⟩, SameTerm_con _ d.value tm0 (Nat.le_refl _) _ _ ?_⟩
  intro hz1 hz2; clear hz1 hz2
  obtain ⟨none, hnone⟩ : ∃ q, tmEq d.value tm0 = q := ⟨_, rfl⟩
  refine sem_le ⟨[(1, .lp 1 0), (2, .g (.b false)), (3, .g (.b none))], [(1, (dcX d).cells)], H⟩ ?_ ?_
  · exact ⟨⟨⟨rfl, rfl⟩, Le.refl _, ret_b hnone, trivial⟩, ⟨⟨rfl, LeL.refl _⟩, trivial⟩, List.Sublist.refl _⟩
  by_cases h5 : d.kind = 5
  rotate_left
  · have hf := formed_one d h5
    rw [e1, e2, k3, k4] at hf
    refine sem_seq (esc := fun _ => false) tab_ok mixed ?_
    refine ifB_f h5 ?_
    refine ifB_dec (fun k5 => ?_) (fun k5 => ?_)
    rotate_left
    · exact fin _ (by rw [hf, if_neg (fun h => k5 h.1)]; rfl)
    refine ifB_dec (fun k6 => ?_) (fun k6 => ?_)
    rotate_left
    · exact fin _ (by rw [hf, if_neg (fun h => k6 (by simpa using h.2))]; rfl)
    have hz : d.fixed = 0 ∧ d.ctors.length = 0 := ⟨k5, by simpa using k6⟩
    rw [if_pos hz] at hf
    refine ifB_dec (fun k7 => ?_) (fun k7 => ?_)
    · exact fin _ (by rw [hf, if_neg (by omega), hnone]; rfl)
    · refine ⟨_, LeL.refl _, ref04Right_con d.params 0 d.value _ _ ?_⟩
      intro hz1 hz2; clear hz1 hz2
      exact fin _ (by rw [hf, if_pos (by omega)]; rfl)
  · have hf := formed_fam d h5
    rw [e1, e2, k3, k4, hnone] at hf
    refine sem_seq (esc := fun _ => false) tab_ok mixed ?_
    refine ifB_t h5 ?_
    refine sem_seq (esc := fun _ => false) tab_ok mixed ?_
    cases none with
    | false => exact fin _ (by rw [hf]; rfl)
    | true =>
      refine ifB_dec (fun k5 => ?_) (fun k5 => ?_)
      · exact fin _ (by rw [hf, decide_eq_false (show ¬ 0 ≤ d.fixed by omega)]; rfl)
      refine ifB_dec (fun k6 => ?_) (fun k6 => ?_)
      · exact fin _ (by rw [hf, decide_eq_false (show ¬ d.fixed ≤ 16 by omega)]; simp)
      refine ifB_dec (fun k7 => ?_) (fun k7 => ?_)
      · simp only [List.length_map] at k7
        exact fin _ (by rw [hf, decide_eq_false (show ¬ d.ctors.length ≤ 8 by omega)]; simp)
      simp only [List.length_map] at k7
      have hf2 : formed d = !(d.ctors.any (ctWrong d.params)) := by
        rw [hf, decide_eq_true (show 0 ≤ d.fixed by omega), decide_eq_true (show d.fixed ≤ 16 by omega), decide_eq_true (show d.ctors.length ≤ 8 by omega)]; rfl
      refine sem_join (esc := fun _ => false) tab_ok mixed (X := Unit) (fun _ => ⟨[], [], H⟩) (fun _ => d.ctors.any (ctWrong d.params) = false) ?_ (fun _ hI => ?_)
      · refine ⟨Nat, fun j => ⟨[(1, .lp 1 0), (2, .g (.b false)), (4, .g (.i j))], [(1, (dcX d).cells)], H⟩, fun j => j ≤ d.ctors.length ∧ (d.ctors.take j).any (ctWrong d.params) = false, fun j => d.ctors.length - j, ⟨0, ⟨Nat.zero_le _, rfl⟩, ?_⟩, ?_⟩
        · (constructor <;> repeat' (first | exact trivial | exact ⟨rfl, rfl⟩ | exact ⟨rfl, LeL.refl _⟩ | exact Le.refl _ | exact List.Sublist.refl _ | (show Le (AV.i _) (AV.i _); rw [List.length_map]; exact Le.refl _) | refine And.intro ?_ ?_))
        · rintro j ⟨hj, hall⟩
          refine ifB_dec (fun h1 => ?_) (fun h1 => ?_)
          · simp only [List.length_map] at h1
            have hlt : j < d.ctors.length := by omega
            refine ⟨[0, 1, 2, 3, 4, 5, 6, 7, 8, 9, 10, 11, 12, 13, 14, 15, 16, 17, 18, 19], [], by kernel_rfl, by simp, ?_⟩
            refine ⟨j, rfl, _, ctAt hlt, ?_⟩
            by_cases k8 : nameOk d.ctors[j].name = true
            rotate_left
            · refine ⟨_, LeL.refl _, (ref01Right_con d.ctors[j].name).no k8 _ _ ?_⟩
              intro hz1 hz2; clear hz1 hz2
              exact fin _ (by rw [hf2, any_yes hlt (by rw [ctWrong, ntrue k8]; rfl)]; rfl)
            refine ⟨_, LeL.refl _, (ref01Right_con d.ctors[j].name).yes k8 _ _ ?_⟩
            intro hz1 hz2; clear hz1 hz2
            refine ⟨j, rfl, _, ctAt hlt, ?_⟩
            by_cases k9 : tmRight d.params 0 d.ctors[j].type = true
            rotate_left
            · refine ⟨_, LeL.refl _, (ref04Right_con d.params 0 d.ctors[j].type).no k9 _ _ ?_⟩
              intro hz1 hz2; clear hz1 hz2
              exact fin _ (by rw [hf2, any_yes hlt (by rw [ctWrong, ntrue k9]; simp)]; rfl)
            refine ⟨_, LeL.refl _, (ref04Right_con d.params 0 d.ctors[j].type).yes k9 _ _ ?_⟩
            intro hz1 hz2; clear hz1 hz2
            refine ⟨in64_of (by first | omega | (dsimp only; omega)) (by first | omega | (dsimp only; omega)), ?_⟩
            refine ⟨j + 1, ⟨by omega, any_take_step hlt hall (by rw [ctWrong, k8, k9]; rfl)⟩, by (try dsimp only); omega, ?_⟩
            (constructor <;> repeat' (first | exact trivial | exact ⟨rfl, rfl⟩ | exact ⟨rfl, LeL.refl _⟩ | exact Le.refl _ | exact List.Sublist.refl _ | (show Le (AV.i _) (AV.i _); rw [List.length_map]; exact Le.refl _) | refine And.intro ?_ ?_))
          · simp only [List.length_map] at h1
            have hj' : d.ctors.length = j := by omega
            subst hj'
            rw [List.take_length] at hall
            refine ⟨(), hall, ?_⟩
            exact ⟨trivial, trivial, List.Sublist.refl _⟩
      refine sem_of (esc := fun _ => false) tab_ok mixed ?_
      exact fin _ (by rw [hf2, hI]; rfl)
end Go.Proofs.YtnjnfegafmhgnaaDoor

/-
  DeclPlains: the law's walk. No condition.
-/
namespace Go.Proofs.YtnjnfegafmhgnaaDoor
open Go.RowKit

theorem LeE.refl : ∀ xs : List AV, LeE xs xs
  | [] => trivial
  | x :: xs => ⟨LeL.refl _, LeE.refl xs⟩
theorem LeE.append : ∀ {xs ys zs us : List AV}, LeE xs ys → LeE zs us → LeE (xs ++ zs) (ys ++ us)
  | [], [], _, _, _, k => k
  | _ :: _, _ :: _, _, _, h, k => ⟨h.1, LeE.append h.2 k⟩
  | [], _ :: _, _, _, h, _ => h.elim
  | _ :: _, [], _, _, h, _ => h.elim
theorem Le.slO {o : Own} {s : Nat} {xs ys : List AV} (h : LeE xs ys) : Le (.sl o s xs) (.sl o s ys) := fun M u hu => by
  simp only [rep] at hu ⊢
  obtain ⟨a, cap, h1, h2, h3, h4, h5, h6, h7⟩ := hu
  have hl := h.length
  refine ⟨a, cap, by rw [← hl]; exact h1, by rw [← hl]; exact h2, h3, h4, ⟨fun hs => ?_, LeE.wide h h5.2⟩, by rw [← hl]; exact h6, fun h0 => ?_⟩
  · have := h5.1 hs
    subst this
    cases ys with
    | nil => rfl
    | cons y ys => exact h.elim
  · rw [← hl] at h0
    obtain ⟨b, off, e, ha⟩ := h7 h0
    exact ⟨b, off, e, h.atE ha⟩
set_option maxRecDepth 100000 in
set_option maxHeartbeats 1000000 in
theorem declPlains_con (d : Dc) (h : Int) : Ans Tryd.prog 3 [dcX d, .i h] (.b true) := by
  intro H Q hq
  have fin : ∃ r H', Le (.b true) r ∧ List.Sublist H' H ∧ Q r H' := ⟨_, H, Le.refl _, List.Sublist.refl _, hq⟩
  refine con_of_sem tab_ok Tryd.func3 rfl (ent Tryd.func3 (by kernel_rfl) rfl) (by kernel_rfl) ?_
  intro hw hn
  clear hw hn
  refine sem_seq (esc := fun _ => false) tab_ok mixed ?_
  refine sem_seq (esc := fun _ => false) tab_ok mixed ?_
  refine ⟨_, LeL.refl _, alive11_con _ _ ?_⟩
  intro hz1 hz2; clear hz1 hz2
  refine sem_seq (esc := fun _ => false) tab_ok mixed ?_
  refine ⟨_, LeL.refl _, Great8_some d _ _ (fa' ?_ ?_)⟩
  rotate_left
  · intro hz1 hz2; clear hz1 hz2
    exact fin
  intro hz1 hz2; clear hz1 hz2
  rcases enPlain_cases d h with ⟨he, hbad⟩ | he | ⟨he, h1, h5, h2⟩
  · -- no form
    refine sem_seq (esc := fun _ => false) tab_ok mixed ?_
    refine ⟨_, LeL.refl _, declPlain_at he _ _ ?_⟩
    intro hz1 hz2; clear hz1 hz2
    refine sem_seq (esc := fun _ => false) tab_ok mixed ?_
    refine ⟨[enX en0, enX en0], ⟨Le.refl _, le_en0, trivial⟩, (SameEntry_con en0 en0).as ((enEq_iff _ _).2 rfl) _ _ ?_⟩
    intro hz1 hz2; clear hz1 hz2
    refine ifB_dec (fun k1 => ?_) (fun k1 => ?_)
    · exact fin
    have hf : formed d = false := ntrue fun h => hbad ⟨h, k1⟩
    refine ⟨[dcX d], LeL.refl _, (ref08Formed_con d).as hf _ _ ?_⟩
    intro hz1 hz2; clear hz1 hz2
    exact fin
  · -- no height
    refine sem_seq (esc := fun _ => false) tab_ok mixed ?_
    refine ⟨_, LeL.refl _, declPlain_at he _ _ ?_⟩
    intro hz1 hz2; clear hz1 hz2
    refine sem_seq (esc := fun _ => false) tab_ok mixed ?_
    refine ⟨[enX en0, enX en0], ⟨Le.refl _, le_en0, trivial⟩, (SameEntry_con en0 en0).as ((enEq_iff _ _).2 rfl) _ _ ?_⟩
    intro hz1 hz2; clear hz1 hz2
    exact fin
  · have hright := enOf_right h1 h5 h2
    obtain ⟨ht, hv, hk1, hk5, hnm⟩ := formed_parts h1
    have hval := (hv h5).2.2
    have hp := tmRight_params ht
    obtain ⟨n, hn⟩ : ∃ n : Nat, d.params = n := ⟨d.params.toNat, by omega⟩
    obtain ⟨e, hee⟩ : ∃ e, enOf d (if d.kind = 2 then h else 0) = e := ⟨_, rfl⟩
    have ek : e.kind = d.kind := by rw [← hee]; rfl
    have ep : e.params = n := by rw [← hee, ← hn]; rfl
    have et : e.type = d.type := by rw [← hee]; rfl
    have ev : e.value = d.value := by rw [← hee]; rfl
    have eh : d.kind = 2 → e.height = h := fun k => by rw [← hee]; exact if_pos k
    rw [hee] at he hright
    clear hee
    have htype : enType e (ownLv n) = (d.type, 0) := by rw [enType, if_pos hright, et, enAt_own ep (by rw [← hn]; exact ht)]
    refine sem_seq (esc := fun _ => false) tab_ok mixed ?_
    refine ⟨_, LeL.refl _, declPlain_at he _ _ ?_⟩
    intro hz1 hz2; clear hz1 hz2
    refine sem_seq (esc := fun _ => false) tab_ok mixed ?_
    refine sem_le ⟨[(1, .g (.i h)), (2, .lp 2 0), (4, .g (.b false)), (5, .lp 5 0)], [(5, (enX e).cells), (2, (dcX d).cells)], H⟩ ?_ ?_
    · (constructor <;> repeat' (first | exact trivial | exact ⟨rfl, rfl⟩ | exact ⟨rfl, LeL.refl _⟩ | exact Le.refl _ | exact List.Sublist.refl _ | (show Le (AV.i _) (AV.i _); rw [List.length_map]; exact Le.refl _) | refine And.intro ?_ ?_))
    refine sem_seq (esc := fun _ => false) tab_ok mixed ?_
    refine sem_join (esc := fun _ => false) tab_ok mixed (X := Option Cap) (fun q => ⟨[(1, .g (.i h)), (2, .lp 2 0), (4, .g (.b false)), (5, .lp 5 0), (7, .g (.sl (ownQ q) 3 ((ownLv n).map lvA)))], [(5, (enX e).cells), (2, (dcX d).cells)], bufH q H⟩) (fun _ => True) ?_ (fun q _ => ?_)
    · refine ⟨Option Cap × Nat, fun p => ⟨[(1, .g (.i h)), (2, .lp 2 0), (4, .g (.b false)), (5, .lp 5 0), (7, .g (.sl (ownQ p.1) 3 ((ownLv p.2).map lvA))), (8, .g (.i p.2))], [(5, (enX e).cells), (2, (dcX d).cells)], bufH p.1 H⟩, fun p => p.2 ≤ n, fun p => n - p.2, ⟨(none, 0), Nat.zero_le _, ?_⟩, ?_⟩
      · (constructor <;> repeat' (first | exact trivial | exact ⟨rfl, rfl⟩ | exact ⟨rfl, LeL.refl _⟩ | exact Le.refl _ | exact List.Sublist.refl _ | (show Le (AV.i _) (AV.i _); rw [List.length_map]; exact Le.refl _) | refine And.intro ?_ ?_))
      · rintro ⟨q, j⟩ hj
        simp only at hj
        refine ifB_dec (fun k1 => ?_) (fun k1 => ?_)
        · simp only at k1
          have hlt : j < n := by omega
          have hxl : ((ownLv j).map lvA).length = j := by rw [List.length_map, ownLv_len]
          refine ⟨?_, ?_⟩
          · rw [hxl]
            show _ * (40 + 1) ≤ _
            simp only [List.length_cons, List.length_nil]
            omega
          refine own_of (q := q) (H0 := H) ?_ ?_ ?_ (fun c hc => ?_)
          · exact rfl
          · exact rfl
          · exact fun _ h => h
          have hnext : Le (.sl (.own c) 3 ((ownLv j).map lvA ++ [.agg [.i 2, .i j, .sl .full 0 []]])) (.sl (ownQ (some c)) 3 ((ownLv (j + 1)).map lvA)) := by
            rw [ownLv_succ, List.map_append]
            exact Le.slO (LeE.append (LeE.refl _) ⟨⟨Le.refl _, Le.refl _, Le.nil _ _, trivial⟩, trivial⟩)
          refine ⟨in64_of (by first | omega | (dsimp only; omega)) (by first | omega | (dsimp only; omega)), ?_⟩
          refine ⟨(some c, j + 1), by simp only; omega, by (try dsimp only); omega, ?_⟩
          exact ⟨⟨Le.refl _, ⟨rfl, rfl⟩, Le.refl _, ⟨rfl, rfl⟩, hnext, Le.refl _, trivial⟩, ⟨⟨rfl, LeL.refl _⟩, ⟨rfl, LeL.refl _⟩, trivial⟩, List.Sublist.refl _⟩
        · simp only at k1
          have hj' : n = j := by omega
          subst hj'
          refine ⟨q, trivial, ?_⟩
          (constructor <;> repeat' (first | exact trivial | exact ⟨rfl, rfl⟩ | exact ⟨rfl, LeL.refl _⟩ | exact Le.refl _ | exact List.Sublist.refl _ | (show Le (AV.i _) (AV.i _); rw [List.length_map]; exact Le.refl _) | refine And.intro ?_ ?_))
    refine sem_seq (esc := fun _ => false) tab_ok mixed ?_
    refine ⟨[enX e, .sl (ownQ q) 3 ((ownLv n).map lvA)], LeL.refl _, declType_at htype _ _ ?_⟩
    intro hz1 hz2; clear hz1 hz2
    by_cases k2 : d.kind = 2
    · have hvalue : enValue e (ownLv n) = (d.value, 0) := by
        rw [if_pos (by omega)] at hval
        rw [enValue, if_pos hright, if_pos (by rw [ek]; exact k2), ev, enAt_own ep (by rw [← hn]; exact hval)]
      refine sem_seq (esc := fun _ => false) tab_ok mixed ?_
      refine ⟨[enX e, .sl (ownQ q) 3 ((ownLv n).map lvA)], LeL.refl _, declValue_at hvalue _ _ ?_⟩
      intro hz1 hz2; clear hz1 hz2
      refine sem_le ⟨[(1, .g (.i h)), (2, .lp 2 0), (4, .g (.b false)), (5, .lp 5 0), (9, .lp 9 0), (10, .g (.i 0)), (11, .lp 11 0), (12, .g (.i 0))], [(11, (tmX d.value).cells), (9, (tmX d.type).cells), (5, (enX e).cells), (2, (dcX d).cells)], H⟩ ?_ ?_
      · exact ⟨⟨Le.refl _, ⟨rfl, rfl⟩, Le.refl _, ⟨rfl, rfl⟩, ⟨rfl, rfl⟩, Le.refl _, ⟨rfl, rfl⟩, Le.refl _, trivial⟩, ⟨⟨rfl, LeL.refl _⟩, ⟨rfl, LeL.refl _⟩, ⟨rfl, LeL.refl _⟩, ⟨rfl, LeL.refl _⟩, trivial⟩, bufH_sub q H⟩
      refine sem_seq (esc := fun _ => false) tab_ok mixed ?_
      refine ⟨[enX e], LeL.refl _, (declRight_con e).as hright _ _ ?_⟩
      intro hz1 hz2; clear hz1 hz2
      refine ⟨[tmX d.type, tmX d.type], LeL.refl _, (SameTerm_con _ _ _ (Nat.le_refl _)).as ((tmEq_iff _ _).2 rfl) _ _ ?_⟩
      intro hz1 hz2; clear hz1 hz2
      refine sem_seq (esc := fun _ => false) tab_ok mixed ?_
      refine ifB_t k2 ?_
      refine sem_of (esc := fun _ => false) tab_ok mixed ?_
      refine ⟨[tmX d.value, tmX d.value], LeL.refl _, (SameTerm_con _ _ _ (Nat.le_refl _)).as ((tmEq_iff _ _).2 rfl) _ _ ?_⟩
      intro hz1 hz2; clear hz1 hz2
      refine ⟨[enX e], LeL.refl _, declUnfolds_at (q := true) (by rw [ek, hright, decide_eq_true k2]; rfl) _ _ ?_⟩
      intro hz1 hz2; clear hz1 hz2
      refine ifB_t (eh k2) ?_
      exact fin
    · have hvalue : enValue e (ownLv n) = (tm0, 13) := by
        rw [enValue, if_pos hright, if_neg (by rw [ek]; exact k2)]
      refine sem_seq (esc := fun _ => false) tab_ok mixed ?_
      refine ⟨[enX e, .sl (ownQ q) 3 ((ownLv n).map lvA)], LeL.refl _, declValue_at hvalue _ _ ?_⟩
      intro hz1 hz2; clear hz1 hz2
      refine sem_le ⟨[(1, .g (.i h)), (2, .lp 2 0), (4, .g (.b false)), (5, .lp 5 0), (9, .lp 9 0), (10, .g (.i 0)), (11, .lp 11 0), (12, .g (.i 13))], [(11, (tmX tm0).cells), (9, (tmX d.type).cells), (5, (enX e).cells), (2, (dcX d).cells)], H⟩ ?_ ?_
      · exact ⟨⟨Le.refl _, ⟨rfl, rfl⟩, Le.refl _, ⟨rfl, rfl⟩, ⟨rfl, rfl⟩, Le.refl _, ⟨rfl, rfl⟩, Le.refl _, trivial⟩, ⟨⟨rfl, LeL.refl _⟩, ⟨rfl, LeL.refl _⟩, ⟨rfl, LeL.refl _⟩, ⟨rfl, LeL.refl _⟩, trivial⟩, bufH_sub q H⟩
      refine sem_seq (esc := fun _ => false) tab_ok mixed ?_
      refine ⟨[enX e], LeL.refl _, (declRight_con e).as hright _ _ ?_⟩
      intro hz1 hz2; clear hz1 hz2
      refine ⟨[tmX d.type, tmX d.type], LeL.refl _, (SameTerm_con _ _ _ (Nat.le_refl _)).as ((tmEq_iff _ _).2 rfl) _ _ ?_⟩
      intro hz1 hz2; clear hz1 hz2
      refine sem_seq (esc := fun _ => false) tab_ok mixed ?_
      refine ifB_f k2 ?_
      refine ⟨[enX e], LeL.refl _, declUnfolds_at (q := false) (by rw [ek, decide_eq_false k2]; rfl) _ _ ?_⟩
      intro hz1 hz2; clear hz1 hz2
      exact fin
end Go.Proofs.YtnjnfegafmhgnaaDoor
