/-
  Texts put together: R1, R2, R3, R4, R5, H11, H15, H16. No condition.
-/
import Derived.Test.YtpjolipkmemcoaaGreatDoorM13
import Derived.Test.YtpjolipkmemcoaaGreatDoorM12
/-
  The references' name.Right, term.Right, Formed. No condition.
-/
namespace Go.Proofs.YtpjolipkmemcoaaGreatDoor
open Go.RowKit

theorem u8_le (a b : UInt8) : (a ≤ b) ↔ ((a.toNat : Int) ≤ b.toNat) := by rw [UInt8.le_iff_toNat_le]; omega
set_option maxRecDepth 100000 in
theorem letter_con (c : UInt8) : Ans Tryz.prog 33 [byteV c] (.b (letB c)) := by
  intro H Q hq
  refine con_of_awp (esc := fun _ => false) tab_ok mixed Tryz.func33 rfl (ent Tryz.func33 (by kernel_rfl) rfl) (by kernel_rfl) ?_
  intro hw hn
  have fin : ∀ q : Bool, q = letB c → ∃ r H', Le (.b q) r ∧ List.Sublist H' H ∧ Q r H' := fun q h => ⟨_, H, ret_b h, List.Sublist.refl _, hq⟩
  have e1 : (97 ≤ c) ↔ ((97 : Int) ≤ c.toNat) := u8_le 97 c
  have e2 : (c ≤ 122) ↔ ((c.toNat : Int) ≤ 122) := u8_le c 122
  have e3 : (c = 95) ↔ ((c.toNat : Int) = 95) := ⟨fun h => by rw [h]; rfl, fun h => u8_eq (b := 95) h⟩
  have e : letB c = (decide ((97 : Int) ≤ c.toNat) && decide ((c.toNat : Int) ≤ 122) || decide ((c.toNat : Int) = 95)) := by
    unfold letB
    simp only [← e1, ← e2, ← e3]
    rfl
  refine ifB_dec (fun h1 => ?_) (fun h1 => ?_)
  · refine ifB_dec (fun h2 => ?_) (fun h2 => ?_)
    · exact fin _ (by rw [e]; simp [show (97 : Int) ≤ c.toNat from h1, show (c.toNat : Int) ≤ 122 from h2])
    · refine ifB_dec (fun h3 => ?_) (fun h3 => ?_)
      · exact fin _ (by rw [e]; simp [show (c.toNat : Int) = 95 from h3])
      · exact fin _ (by rw [e, decide_eq_false (show ¬ (c.toNat : Int) ≤ 122 from h2), decide_eq_false (show ¬ (c.toNat : Int) = 95 from h3)]; simp)
  · refine ifB_dec (fun h3 => ?_) (fun h3 => ?_)
    · exact fin _ (by rw [e]; simp [show (c.toNat : Int) = 95 from h3])
    · exact fin _ (by rw [e, decide_eq_false (show ¬ (97 : Int) ≤ c.toNat from h1), decide_eq_false (show ¬ (c.toNat : Int) = 95 from h3)]; simp)
set_option maxRecDepth 100000 in
theorem digit_con (c : UInt8) : Ans Tryz.prog 34 [byteV c] (.b (digB c)) := by
  intro H Q hq
  refine con_of_awp (esc := fun _ => false) tab_ok mixed Tryz.func34 rfl (ent Tryz.func34 (by kernel_rfl) rfl) (by kernel_rfl) ?_
  intro hw hn
  have fin : ∀ q : Bool, q = digB c → ∃ r H', Le (.b q) r ∧ List.Sublist H' H ∧ Q r H' := fun q h => ⟨_, H, ret_b h, List.Sublist.refl _, hq⟩
  have e1 : (48 ≤ c) ↔ ((48 : Int) ≤ c.toNat) := u8_le 48 c
  have e2 : (c ≤ 57) ↔ ((c.toNat : Int) ≤ 57) := u8_le c 57
  have e : digB c = (decide ((48 : Int) ≤ c.toNat) && decide ((c.toNat : Int) ≤ 57)) := by
    unfold digB
    simp only [← e1, ← e2]
  refine ifB_dec (fun h1 => ?_) (fun h1 => ?_)
  rotate_left
  · exact fin _ (by rw [e, decide_eq_false (show ¬ (48 : Int) ≤ c.toNat from h1)]; simp)
  refine ifB_dec (fun h2 => ?_) (fun h2 => ?_)
  rotate_left
  · exact fin _ (by rw [e, decide_eq_false (show ¬ (c.toNat : Int) ≤ 57 from h2)]; simp)
  exact fin _ (by rw [e, decide_eq_true (show (48 : Int) ≤ c.toNat from h1), decide_eq_true (show (c.toNat : Int) ≤ 57 from h2)]; rfl)
theorem nmGo_cons (first : Bool) (c : UInt8) (r : List UInt8) : nmGo first (c :: r) = if c == 46 then (if first then false else nmGo true r) else if letB c || (digB c && !first) then nmGo false r else false := rfl
set_option maxRecDepth 100000 in
theorem ref01Right_con (l : List UInt8) : Ans Tryz.prog 14 [.str l] (.b (nameOk l)) := by
  intro H Q hq
  refine con_of_awp (esc := fun _ => false) tab_ok mixed Tryz.func14 rfl (ent Tryz.func14 (by kernel_rfl) rfl) (by kernel_rfl) ?_
  intro hw hn
  have fin : ∀ q : Bool, q = nameOk l → ∃ r H', Le (.b q) r ∧ List.Sublist H' H ∧ Q r H' := fun q h => ⟨_, H, ret_b h, List.Sublist.refl _, hq⟩
  refine ifB_dec (fun h1 => ?_) (fun h1 => ?_)
  · exact fin _ (by rw [nameOk, decide_eq_false (show ¬ 1 ≤ l.length by omega)]; rfl)
  refine ifB_dec (fun h2 => ?_) (fun h2 => ?_)
  · exact fin _ (by rw [nameOk, decide_eq_false (show ¬ l.length ≤ 40 by omega)]; simp)
  have hok : nameOk l = nmGo true l := by rw [nameOk, decide_eq_true (show 1 ≤ l.length by omega), decide_eq_true (show l.length ≤ 40 by omega)]; rfl
  refine ⟨Nat × Bool, fun p => ⟨[(0, .g (.str l)), (2, .g (.b false)), (3, .g (.b p.2)), (4, .g (.i p.1))], [], H⟩, fun p => p.1 ≤ l.length ∧ nmGo true l = nmGo p.2 (l.drop p.1), fun p => l.length - p.1, ⟨(0, true), ⟨Nat.zero_le _, rfl⟩, ?_⟩, ?_⟩
  · (constructor <;> repeat' (first | exact trivial | exact ⟨rfl, rfl⟩ | exact ⟨rfl, LeL.refl _⟩ | exact Le.refl _ | exact List.Sublist.refl _ | (show Le (AV.i _) (AV.i _); rw [List.length_map]; exact Le.refl _) | refine And.intro ?_ ?_))
  · rintro ⟨k, first⟩ ⟨hk, hinv⟩
    simp only at hk hinv
    refine ifB_dec (fun h3 => ?_) (fun h3 => ?_)
    · simp only at h3
      have hlt : k < l.length := by omega
      rw [List.drop_eq_getElem_cons hlt, nmGo_cons] at hinv
      have hget : l[k]? = some l[k] := by simp [hlt]
      refine ⟨k, rfl, l[k], hget, ?_⟩
      refine ifB_dec (fun h4 => ?_) (fun h4 => ?_)
      · have hd : l[k] = 46 := u8_eq (b := 46) h4
        rw [if_pos (by rw [hd]; rfl)] at hinv
        cases first with
        | true => exact fin _ (by rw [hok, hinv]; rfl)
        | false =>
          refine ⟨in64_of (by first | omega | (dsimp only; omega)) (by first | omega | (dsimp only; omega)), ?_⟩
          refine ⟨(k + 1, true), ⟨by simp only; omega, by simpa using hinv⟩, by (try dsimp only); omega, ?_⟩
          (constructor <;> repeat' (first | exact trivial | exact ⟨rfl, rfl⟩ | exact ⟨rfl, LeL.refl _⟩ | exact Le.refl _ | exact List.Sublist.refl _ | (show Le (AV.i _) (AV.i _); rw [List.length_map]; exact Le.refl _) | refine And.intro ?_ ?_))
      · have hd : ¬ (l[k] == 46) = true := by
          rw [beq_iff_eq]
          exact fun h => h4 (by rw [h]; rfl)
        rw [if_neg hd] at hinv
        refine ⟨k, rfl, l[k], hget, ?_⟩
        by_cases h5 : letB l[k] = true
        · refine ⟨_, LeL.refl _, (letter_con l[k]).yes h5 _ _ ?_⟩
          intro hz1 hz2; clear hz1 hz2
          refine ⟨in64_of (by first | omega | (dsimp only; omega)) (by first | omega | (dsimp only; omega)), ?_⟩
          refine ⟨(k + 1, false), ⟨by simp only; omega, by rw [hinv, h5]; rfl⟩, by (try dsimp only); omega, ?_⟩
          (constructor <;> repeat' (first | exact trivial | exact ⟨rfl, rfl⟩ | exact ⟨rfl, LeL.refl _⟩ | exact Le.refl _ | exact List.Sublist.refl _ | (show Le (AV.i _) (AV.i _); rw [List.length_map]; exact Le.refl _) | refine And.intro ?_ ?_))
        · refine ⟨_, LeL.refl _, (letter_con l[k]).no h5 _ _ ?_⟩
          intro hz1 hz2; clear hz1 hz2
          refine ⟨k, rfl, l[k], hget, ?_⟩
          by_cases h6 : digB l[k] = true
          · refine ⟨_, LeL.refl _, (digit_con l[k]).yes h6 _ _ ?_⟩
            intro hz1 hz2; clear hz1 hz2
            cases first with
            | true => exact fin _ (by rw [hok, hinv, ntrue h5]; simp)
            | false =>
              refine ⟨in64_of (by first | omega | (dsimp only; omega)) (by first | omega | (dsimp only; omega)), ?_⟩
              refine ⟨(k + 1, false), ⟨by simp only; omega, by rw [hinv, h6]; simp⟩, by (try dsimp only); omega, ?_⟩
              (constructor <;> repeat' (first | exact trivial | exact ⟨rfl, rfl⟩ | exact ⟨rfl, LeL.refl _⟩ | exact Le.refl _ | exact List.Sublist.refl _ | (show Le (AV.i _) (AV.i _); rw [List.length_map]; exact Le.refl _) | refine And.intro ?_ ?_))
          · refine ⟨_, LeL.refl _, (digit_con l[k]).no h6 _ _ ?_⟩
            intro hz1 hz2; clear hz1 hz2
            exact fin _ (by rw [hok, hinv, ntrue h5, ntrue h6]; simp)
    · simp only at h3
      have hk' : k = l.length := by omega
      rw [hk', List.drop_length] at hinv
      exact fin _ (by rw [hok, hinv]; rfl)


end Go.Proofs.YtpjolipkmemcoaaGreatDoor

/-
  The references' term.Right, Formed. No condition.
-/
namespace Go.Proofs.YtpjolipkmemcoaaGreatDoor
open Go.RowKit

theorem sem_use {P : Program} {N : Nat} {c : Code} {Q Q' : Exit → St → Prop} {s : St} (h : sem P N c Q s) (k : ∀ x s, Q x s → Q' x s) : sem P N c Q' s := fun hs B a w hc => wp_mono (h hs B a w hc) fun _ _ _ ⟨s', h1, h2⟩ => ⟨s', h1, k _ _ h2⟩
/-- what a term's kind asks of the node: how many parts, how many levels -/
def kindOk (vars k m : Int) (nm : List UInt8) (ls : Nat) : Int × Int × Bool :=
  if k = 1 then (0, 0, decide (0 ≤ m) && decide (m < vars))
  else if k = 2 then (0, 1, true)
  else if k = 3 then (0, ls, nameOk nm && decide (ls ≤ 4))
  else if k = 4 ∨ k = 5 ∨ k = 6 then (2, 0, true)
  else if k = 7 then (3, 0, true)
  else (0, 0, false)
theorem tmNode_kind (vars k m : Int) (nm : List UInt8) (ls xs : Nat) : tmNode vars k m nm ls xs = ((kindOk vars k m nm ls).2.2 && ((k = 1 || decide (m = 0)) && ((k = 3 || decide (nm = [])) && (decide ((ls : Int) = (kindOk vars k m nm ls).2.1) && decide ((xs : Int) = (kindOk vars k m nm ls).1))))) := by
  unfold tmNode kindOk
  by_cases h1 : k = 1
  · subst h1
    simp only [if_true]
    rw [Bool.eq_iff_iff]; simp; grind
  · by_cases h2 : k = 2
    · subst h2
      rw [Bool.eq_iff_iff]; simp; grind
    · by_cases h3 : k = 3
      · subst h3
        rw [Bool.eq_iff_iff]; simp; grind
      · by_cases h4 : k = 4 ∨ k = 5 ∨ k = 6
        · simp only [h1, h2, h3, h4, if_true, if_false]
          rw [Bool.eq_iff_iff]; simp; grind
        · by_cases h7 : k = 7
          · subst h7
            rw [Bool.eq_iff_iff]; simp; grind
          · simp [h1, h2, h3, h4, h7]

end Go.Proofs.YtpjolipkmemcoaaGreatDoor

/-
  The reference's Formed. No condition.
-/
namespace Go.Proofs.YtpjolipkmemcoaaGreatDoor
open Go.RowKit

theorem le_tm0' : Le (.agg [.i 0, .i 0, .str [], .sl .full 0 [], .sl .full 0 []]) (tmX tm0) := le_tm0
theorem formed_one (d : Dc) (h5 : d.kind ≠ 5) : formed d = (decide (1 ≤ d.kind) && decide (d.kind ≤ 5) && nameOk d.name && tmRight d.params 0 d.type && (if d.fixed = 0 ∧ d.ctors.length = 0 then (if 2 ≤ d.kind ∧ d.kind ≤ 4 then tmRight d.params 0 d.value else tmEq d.value tm0) else false)) := by
  rw [formed, if_neg h5]
theorem formed_fam (d : Dc) (h5 : d.kind = 5) : formed d = (decide (1 ≤ d.kind) && decide (d.kind ≤ 5) && nameOk d.name && tmRight d.params 0 d.type && (tmEq d.value tm0 && decide (0 ≤ d.fixed) && decide (d.fixed ≤ 16) && decide (d.ctors.length ≤ 8) && !(d.ctors.any (ctWrong d.params)))) := by
  rw [formed, if_pos h5]
theorem any_take_step {α : Type} {p : α → Bool} {xs : List α} {k : Nat} (h : k < xs.length) (h1 : (xs.take k).any p = false) (h2 : p xs[k] = false) : (xs.take (k + 1)).any p = false := by
  rw [List.take_succ_eq_append_getElem h, List.any_append, h1]
  simp [h2]

end Go.Proofs.YtpjolipkmemcoaaGreatDoor

/-
  The references' copies of levels and terms. No condition.
-/
namespace Go.Proofs.YtpjolipkmemcoaaGreatDoor
open Go.RowKit

end Go.Proofs.YtpjolipkmemcoaaGreatDoor

/-
  The references' levels put in. No condition.
-/
namespace Go.Proofs.YtpjolipkmemcoaaGreatDoor
open Go.RowKit

end Go.Proofs.YtpjolipkmemcoaaGreatDoor

/-
  A level, a term at its own parameters is itself; an entry made of a declaration is right (plain laws of law 11). No condition.
-/
namespace Go.Proofs.YtpjolipkmemcoaaGreatDoor
open Go.RowKit

/-- the parameters themselves -/
def ownLv (n : Nat) : List Lv := (List.range n).map fun (i : Nat) => .mk 2 (i : Int) []
theorem ownLv_len (n : Nat) : (ownLv n).length = n := by simp [ownLv]
theorem ownLv_succ (n : Nat) : ownLv (n + 1) = ownLv n ++ [.mk 2 n []] := by simp [ownLv, List.range_succ]
theorem ownLv_getD {n : Nat} {m : Int} (h0 : 0 ≤ m) (h1 : m < n) (d : Lv) : (ownLv n).getD m.toNat d = .mk 2 m [] := by
  have hlt : m.toNat < n := by omega
  have : ((m.toNat : Nat) : Int) = m := by omega
  rw [List.getD_eq_getElem?_getD]
  unfold ownLv
  simp [hlt, this]
theorem lvNode_param {n m : Int} {len : Nat} (h : lvNode n 2 m len = true) : 0 ≤ m ∧ m < n ∧ len = 0 := by
  simp only [lvNode, show ¬ (2 : Int) = 1 by decide, if_false, if_true, Bool.and_eq_true, decide_eq_true_eq] at h
  exact ⟨h.1.1, h.1.2, h.2⟩
mutual
theorem lvInst_own (n : Nat) : ∀ l : Lv, lvFit n l = true → lvInst (ownLv n) l = l ∧ lvGrown (ownLv n) l = l.nodes
  | .mk k m xs, h => by
    rw [lvFit, Bool.and_eq_true] at h
    rw [lvInst, lvGrown, Lv.nodes]
    by_cases hk : k = 2
    · subst hk
      obtain ⟨h0, h1, h2⟩ := lvNode_param h.1
      have hx : xs = [] := List.eq_nil_of_length_eq_zero h2
      subst hx
      rw [if_pos rfl, if_pos rfl, ownLv_getD h0 h1]
      exact ⟨rfl, rfl⟩
    · rw [if_neg hk, if_neg hk]
      obtain ⟨e1, e2⟩ := lvInstL_own n xs h.2
      rw [e1, e2]
      exact ⟨rfl, by omega⟩
theorem lvInstL_own (n : Nat) : ∀ ls : List Lv, lvFitL n ls = true → lvInstL (ownLv n) ls = ls ∧ lvGrownL (ownLv n) ls = Lv.nodesL ls
  | [], _ => ⟨rfl, rfl⟩
  | l :: ls, h => by
    rw [lvFitL, Bool.and_eq_true] at h
    obtain ⟨a1, a2⟩ := lvInst_own n l h.1
    obtain ⟨b1, b2⟩ := lvInstL_own n ls h.2
    rw [lvInstL, lvGrownL, Lv.nodesL, a1, a2, b1, b2]
    exact ⟨rfl, rfl⟩
end
theorem own_right {n : Nat} (hn : n ≤ 4) : (ownLv n).all (lvRight 4) = true := by
  rw [List.all_eq_true]
  intro l hl
  simp only [ownLv, List.mem_map, List.mem_range] at hl
  obtain ⟨i, hi, rfl⟩ := hl
  have : lvNode 4 2 i 0 = true := by
    simp only [lvNode, show ¬ (2 : Int) = 1 by decide, if_false, if_true, Bool.and_eq_true, decide_eq_true_eq]
    exact ⟨⟨by omega, by omega⟩, trivial⟩
  simp [lvRight, Lv.nodes, Lv.nodesL, lvFit, lvFitL, this]
theorem lvInstOk_own {n : Nat} (hn : n ≤ 4) {l : Lv} (h : lvRight n l = true) : lvInstOk (ownLv n) l = true := by
  obtain ⟨h1, h2⟩ := lvRight_both h
  unfold lvInstOk
  rw [ownLv_len, h, own_right hn, (lvInst_own n l h2).2, decide_eq_true h1]
  rfl
theorem lvInstL_right {n : Nat} : ∀ {ls : List Lv}, lvRightL n ls = true → lvInstL (ownLv n) ls = ls
  | [], _ => rfl
  | l :: ls, h => by
    unfold lvRightL at h
    simp only [List.all_cons, Bool.and_eq_true] at h
    rw [lvInstL, (lvInst_own n l (lvRight_both h.1).2).1, lvInstL_right (ls := ls) h.2]
mutual
theorem tmInst_own {n : Nat} (hn : n ≤ 4) : ∀ (t : Tm) (vars : Int), tmFit n t vars = true → tmInst (ownLv n) t = some t
  | .mk k m nm ls xs, vars, h => by
    rw [tmFit, Bool.and_eq_true, Bool.and_eq_true] at h
    have hall : ls.all (lvInstOk (ownLv n)) = true := by
      rw [List.all_eq_true]
      intro l hl
      exact lvInstOk_own hn (List.all_eq_true.1 h.1.2 l hl)
    rw [tmInst, if_pos hall, tmInstL_own hn k xs 0 vars h.2, lvInstL_right h.1.2]
    rfl
theorem tmInstL_own {n : Nat} (hn : n ≤ 4) (k : Int) : ∀ (ts : List Tm) (i : Nat) (vars : Int), tmFitL n k ts i vars = true → tmInstL (ownLv n) ts = some ts
  | [], _, _, _ => rfl
  | t :: ts, i, vars, h => by
    rw [tmFitL, Bool.and_eq_true] at h
    rw [tmInstL, tmInst_own hn t _ h.1, tmInstL_own hn k ts (i + 1) vars h.2]
    rfl
end
theorem tmNode_mono {v w k m : Int} {nm : List UInt8} {ls xs : Nat} (hv : v ≤ w) (h : tmNode v k m nm ls xs = true) : tmNode w k m nm ls xs = true := by
  unfold tmNode at *
  split
  · rename_i hk
    rw [if_pos hk] at h
    simp only [Bool.and_eq_true, decide_eq_true_eq] at h ⊢
    exact ⟨⟨⟨⟨h.1.1.1.1, by omega⟩, h.1.1.2⟩, h.1.2⟩, h.2⟩
  · rename_i hk
    rwa [if_neg hk] at h
mutual
theorem tmFit_mono (n : Int) : ∀ (t : Tm) (v w : Int), v ≤ w → tmFit n t v = true → tmFit n t w = true
  | .mk k m nm ls xs, v, w, hv, h => by
    rw [tmFit, Bool.and_eq_true, Bool.and_eq_true] at h ⊢
    exact ⟨⟨tmNode_mono hv h.1.1, h.1.2⟩, tmFitL_mono n k xs 0 v w hv h.2⟩
theorem tmFitL_mono (n k : Int) : ∀ (ts : List Tm) (i : Nat) (v w : Int), v ≤ w → tmFitL n k ts i v = true → tmFitL n k ts i w = true
  | [], _, _, _, _, _ => rfl
  | t :: ts, i, v, w, hv, h => by
    rw [tmFitL, Bool.and_eq_true] at h ⊢
    refine ⟨tmFit_mono n t _ _ ?_ h.1, tmFitL_mono n k ts (i + 1) v w hv h.2⟩
    split <;> omega
end
theorem tmRight_mono {n v w : Int} {t : Tm} (hv : v ≤ w) (h : tmRight n v t = true) : tmRight n w t = true := by
  unfold tmRight at *
  simp only [Bool.and_eq_true, decide_eq_true_eq] at h ⊢
  exact ⟨⟨⟨h.1.1.1, by omega⟩, h.1.2⟩, tmFit_mono n t _ _ (by omega) h.2⟩
theorem tmRight_params {n v : Int} {t : Tm} (h : tmRight n v t = true) : 0 ≤ n ∧ n ≤ 4 := by
  unfold tmRight at h
  simp only [Bool.and_eq_true, decide_eq_true_eq] at h
  exact h.1.1.1
/-- a term at its own parameters is itself -/
theorem tmAt_own {n : Nat} {v : Int} {t : Tm} (hv : v ≤ 1125899906842624) (h : tmRight n v t = true) : tmAt (ownLv n) t = some t := by
  have h4 := (tmRight_params h).2
  have h2 : tmRight n 1125899906842624 t = true := tmRight_mono hv h
  unfold tmAt
  rw [ownLv_len, if_pos h2, tmInst_own (by omega) t _ (by unfold tmRight at h; simp only [Bool.and_eq_true] at h; exact h.2)]
  simp only
  rw [if_pos (tmRight_nodes h)]
theorem own_fine {n : Nat} (hn : n ≤ 4) : ((ownLv n).any fun l => !lvRight 4 l) = false := by
  rw [Bool.eq_false_iff]
  intro h
  rw [List.any_eq_true] at h
  obtain ⟨l, hl, h⟩ := h
  rw [List.all_eq_true.1 (own_right hn) l hl] at h
  cases h
theorem enAt_own {e : En} {n : Nat} {t : Tm} (hp : e.params = n) (h : tmRight n 0 t = true) : enAt e t (ownLv n) = (t, 0) := by
  have h4 := (tmRight_params h).2
  rw [enAt, if_neg (by rw [ownLv_len, own_fine (n := n) (by omega)]; simp [hp]), tmAt_own (v := 0) (by decide) h]
/-! entries of declarations -/
theorem enPlain_ok {d : Dc} {h : Int} (h1 : formed d = true) (h5 : d.kind ≠ 5) (h2 : d.kind = 2 → spanB h 1 1048576 = true) : enPlain d h = (enOf d (if d.kind = 2 then h else 0), 0) := by
  rw [enPlain, if_pos ⟨h1, h5⟩]
  by_cases k : d.kind = 2
  · rw [if_pos k, if_pos (h2 k), if_pos k]
  · rw [if_neg k, if_neg k]
theorem enPlain_cases (d : Dc) (h : Int) : (enPlain d h = (en0, 10) ∧ ¬(formed d = true ∧ d.kind ≠ 5)) ∨ enPlain d h = (en0, 12) ∨ (enPlain d h = (enOf d (if d.kind = 2 then h else 0), 0) ∧ formed d = true ∧ d.kind ≠ 5 ∧ (d.kind = 2 → spanB h 1 1048576 = true)) := by
  by_cases h1 : formed d = true ∧ d.kind ≠ 5
  · by_cases k : d.kind = 2
    · by_cases h3 : spanB h 1 1048576 = true
      · exact Or.inr (Or.inr ⟨enPlain_ok h1.1 h1.2 fun _ => h3, h1.1, h1.2, fun _ => h3⟩)
      · exact Or.inr (Or.inl (by rw [enPlain, if_pos h1, if_pos k, if_neg h3]))
    · exact Or.inr (Or.inr ⟨enPlain_ok h1.1 h1.2 fun h => absurd h k, h1.1, h1.2, fun h => absurd h k⟩)
  · exact Or.inl ⟨by rw [enPlain, if_neg h1], h1⟩
theorem enOf_right {d : Dc} {h : Int} (h1 : formed d = true) (h5 : d.kind ≠ 5) (h2 : d.kind = 2 → spanB h 1 1048576 = true) : enRight (enOf d (if d.kind = 2 then h else 0)) = true := by
  obtain ⟨ht, hv, hk1, hk5, hnm⟩ := formed_parts h1
  obtain ⟨hf, hc, hval⟩ := hv h5
  have hp := tmRight_params ht
  have e1 : spanB d.kind 1 7 = true := by simp [spanB]; omega
  have e2 : spanB d.params 0 4 = true := by simp [spanB]; omega
  have e3 : enValued (enOf d (if d.kind = 2 then h else 0)) = true := by
    unfold enValued
    by_cases hk : 2 ≤ d.kind ∧ d.kind ≤ 4
    · rw [if_pos hk] at hval
      rw [if_pos (show 2 ≤ (enOf d (if d.kind = 2 then h else 0)).kind ∧ (enOf d (if d.kind = 2 then h else 0)).kind ≤ 4 from hk)]
      exact hval
    · rw [if_neg hk] at hval
      rw [if_neg (show ¬ (2 ≤ (enOf d (if d.kind = 2 then h else 0)).kind ∧ (enOf d (if d.kind = 2 then h else 0)).kind ≤ 4) from hk), if_neg (show ¬ (enOf d (if d.kind = 2 then h else 0)).kind = 6 by show ¬ d.kind = 6; omega)]
      exact (tmEq_iff _ _).2 hval
  have e4 : enNumbered (enOf d (if d.kind = 2 then h else 0)) = true := by
    unfold enNumbered
    rw [if_neg (show ¬ ((enOf d (if d.kind = 2 then h else 0)).kind = 6 ∨ (enOf d (if d.kind = 2 then h else 0)).kind = 7) by show ¬ (d.kind = 6 ∨ d.kind = 7); omega), if_neg (show ¬ (enOf d (if d.kind = 2 then h else 0)).kind = 5 from h5)]
    by_cases k : d.kind = 2
    · rw [if_pos (show (enOf d (if d.kind = 2 then h else 0)).kind = 2 from k)]
      have := h2 k
      simp [enOf, k, this]
    · rw [if_neg (show ¬ (enOf d (if d.kind = 2 then h else 0)).kind = 2 from k)]
      simp [enOf, k]
  have e5 : enListed (enOf d (if d.kind = 2 then h else 0)) = true := by
    unfold enListed
    rw [if_neg (show ¬ ((enOf d (if d.kind = 2 then h else 0)).kind = 5 ∨ (enOf d (if d.kind = 2 then h else 0)).kind = 7) by show ¬ (d.kind = 5 ∨ d.kind = 7); omega)]
    rfl
  unfold enRight
  rw [e3, e4, e5, show (enOf d (if d.kind = 2 then h else 0)).kind = d.kind from rfl, show (enOf d (if d.kind = 2 then h else 0)).name = d.name from rfl, show (enOf d (if d.kind = 2 then h else 0)).params = d.params from rfl, show (enOf d (if d.kind = 2 then h else 0)).type = d.type from rfl, e1, e2, hnm, ht]
  rfl
/-- what an entry's term at levels may lack -/
theorem enAt_errs (e : En) (t : Tm) (ls : List Lv) : (enAt e t ls).2 ≠ 13 ∧ ((ls.length : Int) = e.params ∨ (enAt e t ls).2 = 16) := by
  unfold enAt
  split
  · exact ⟨by decide, Or.inr rfl⟩
  · rename_i h
    have hl : (ls.length : Int) = e.params := Decidable.byContradiction fun k => h (Or.inl k)
    split
    · exact ⟨by simp, Or.inl hl⟩
    · exact ⟨by decide, Or.inl hl⟩
theorem enHeight {e : En} (h : enRight e = true) : (0 < e.height) ↔ e.kind = 2 := by
  unfold enRight at h
  simp only [Bool.and_eq_true] at h
  have hn := h.2.2.2.2.2.1
  unfold enNumbered at hn
  split at hn
  · simp only [Bool.and_eq_true, decide_eq_true_eq] at hn
    omega
  · split at hn
    · simp only [Bool.and_eq_true, decide_eq_true_eq] at hn
      omega
    · split at hn
      · simp only [Bool.and_eq_true, decide_eq_true_eq, spanB] at hn
        omega
      · simp only [Bool.and_eq_true, decide_eq_true_eq] at hn
        omega
end Go.Proofs.YtpjolipkmemcoaaGreatDoor

/-
  decl.Clone, whose new memory may turn later: term's fresh, App of nothing, slices.Clone. No condition.
-/
namespace Go.Proofs.YtpjolipkmemcoaaGreatDoor
open Go.RowKit

theorem flat_len {size : Nat} : ∀ {xs : List AV}, wide size xs → (xs.flatMap AV.cells).length = xs.length * size
  | [], _ => by simp
  | x :: xs, h => by
    have h1 := h.2 x (by simp)
    have h2 : wide size xs := ⟨fun hs => (by have := h.1 hs; cases this), fun y hy => h.2 y (List.mem_cons_of_mem _ hy)⟩
    rw [List.flatMap_cons, List.length_append, h1, flat_len h2, List.length_cons, Nat.add_mul, Nat.one_mul, Nat.add_comm]
theorem wide_tms (ts : List Tm) : wide 5 (ts.map tmA) := ⟨fun h => (by cases h), fun y hy => by
  obtain ⟨t, _, rfl⟩ := List.mem_map.1 hy
  rw [tmA_eq]
  rfl⟩
theorem wide_lvs (ts : List Lv) : wide 3 (ts.map lvA) := ⟨fun h => (by cases h), fun y hy => by
  obtain ⟨t, _, rfl⟩ := List.mem_map.1 hy
  rw [lvA_eq]
  rfl⟩
theorem wide_sts (ts : List (List UInt8)) : wide 1 (ts.map AV.str) := ⟨fun h => (by cases h), fun y hy => by
  obtain ⟨t, _, rfl⟩ := List.mem_map.1 hy
  rfl⟩
/-- what stands in memory that may turn -/
structure TurnOk (size n : Nat) (xs : List AV) (H : Heap) (b cap : Nat) (cs : List AV) : Prop where
  len : xs.length = n
  out : b ∉ H.keys
  le : n ≤ cap
  max : cap ≤ maxLen
  room : cap * size ≤ cs.length
  here : cs.take (n * size) = xs.flatMap AV.cells
theorem TurnOk.first {size : Nat} {y : AV} {H : Heap} {b cap : Nat} {rest : List AV} (hy : y.cells.length = size) (h0 : b ∉ H.keys) (h1 : 0 + 1 ≤ cap) (h2 : cap ≤ maxLen) (h3 : rest.length = (cap - (0 + 1)) * size) : TurnOk size 1 [y] H b cap (([] ++ [y]).flatMap AV.cells ++ rest) := by
  have e : (([] ++ [y]).flatMap AV.cells ++ rest) = y.cells ++ rest := by simp
  rw [e]
  refine ⟨rfl, h0, h1, h2, ?_, ?_⟩
  · obtain ⟨c, rfl⟩ : ∃ c, cap = c + 1 := ⟨cap - 1, by omega⟩
    rw [List.length_append, hy, h3, Nat.add_mul]
    simp
    omega
  · rw [Nat.one_mul, ← hy, List.take_left']
    · simp
    · rfl
theorem TurnOk.next {size n : Nat} {xs : List AV} {y : AV} {H : Heap} {b0 cap0 : Nat} {cs : List AV} (h : TurnOk size n xs H b0 cap0 cs) (hw : wide size xs) {b cap : Nat} {rest : List AV} (hy : y.cells.length = size) (k1 : b ∉ H.keys) (k2 : n + 1 ≤ cap) (k3 : cap ≤ maxLen) (k4 : cap * size ≤ (n + 1) * size + rest.length) :
    TurnOk size (n + 1) (xs ++ [y]) H b cap (cs.take (n * size) ++ [y].flatMap AV.cells ++ rest) := by
  have hl : (xs.flatMap AV.cells).length = n * size := by rw [flat_len hw, h.len]
  have hl1 : (([y] : List AV).flatMap AV.cells).length = size := by simp [hy]
  refine ⟨by simp [h.len], k1, k2, k3, ?_, ?_⟩
  · rw [List.length_append, List.length_append, h.here, hl, hl1, ← Nat.succ_mul]
    exact k4
  · rw [h.here, ← List.flatMap_append, List.take_left']
    rw [List.flatMap_append, List.length_append, hl, hl1, Nat.add_mul, Nat.one_mul]
theorem TurnOk.see {size n : Nat} {xs : List AV} {H : Heap} {b cap : Nat} {cs : List AV} (h : TurnOk size n xs H b cap cs) (hw : wide size xs) {M : Mem} (hat : atL M cs b 0) : LeM M (hs b n cap) (.sl .no size xs) := by
  have e : xs.flatMap AV.cells ++ cs.drop (n * size) = cs := by rw [← h.here, List.take_append_drop]
  rw [← e] at hat
  exact hs_ice hat h.len.symm h.le h.max hw
/-- an owned slice that may turn later -/
abbrev Mv := Option (Nat × Nat × List AV)
def mvV (size : Nat) (m : Mv) (n : Nat) : AV :=
  match m with
  | none => .sl .no size []
  | some (b, cap, _) => hs b n cap
def mvS (m : Mv) (n : Nat) : AV :=
  match m with
  | none => .sl .full 0 []
  | some (b, cap, _) => hs b n cap
def mvH (m : Mv) (H : Heap) : Heap :=
  match m with
  | none => H
  | some (b, _, cs) => (b, .cells cs) :: H
def MvOk (size n : Nat) (xs : List AV) (H : Heap) : Mv → Prop
  | none => n = 0 ∧ xs = []
  | some (b, cap, cs) => n ≠ 0 ∧ TurnOk size n xs H b cap cs
theorem mvS_le (size : Nat) (m : Mv) (n : Nat) : Le (mvS m n) (mvV size m n) := by
  cases m with
  | none => exact Le.nil _ _
  | some p => exact Le.refl _
theorem MvOk.see {size n : Nat} {xs : List AV} {H : Heap} {m : Mv} (h : MvOk size n xs H m) (hw : wide size xs) {M : Mem} (hat : ∀ b cs, (b, .cells cs) ∈ mvH m H → atL M cs b 0) : LeM M (mvV size m n) (.sl .no size xs) := by
  cases m with
  | none =>
    obtain ⟨_, rfl⟩ := h
    exact LeM.refl _
  | some p => exact h.2.see hw (hat _ _ (by simp [mvH]))
theorem mvH_mem {m : Mv} {H : Heap} {p : Nat × AObj} (h : p ∈ H) : p ∈ mvH m H := by
  cases m with
  | none => exact h
  | some p => exact List.mem_cons_of_mem _ h

def enM (e : En) (SA SL SC : AV) : AV := .agg [.i e.kind, .i e.params, .str e.name, .i e.type.kind, .i e.type.n, .str e.type.name, .sl .no 3 (e.type.levels.map lvA), SA, .i e.value.kind, .i e.value.n, .str e.value.name, SL, .sl .no 5 (e.value.args.map tmA), .i e.height, .str e.family, .i e.fixed, .i e.index, .i e.fields, SC]
end Go.Proofs.YtpjolipkmemcoaaGreatDoor

/-
  ref04's Loose. No condition.
-/
namespace Go.Proofs.YtpjolipkmemcoaaGreatDoor
open Go.RowKit

mutual
/-- how many variables a term needs, in deep binders -/
def tmLoose : Tm → Int → Int
  | .mk k n _ _ xs, deep => if k = 1 then max (n - deep + 1) 0 else tmLooseL k xs 0 deep
def tmLooseL (k : Int) : List Tm → Nat → Int → Int
  | [], _, _ => 0
  | t :: ts, i, deep => max (tmLoose t (if tmBind k i = true then deep + 1 else deep)) (tmLooseL k ts (i + 1) deep)
end
theorem tmLoose_eq (t : Tm) (deep : Int) : tmLoose t deep = if t.kind = 1 then max (t.n - deep + 1) 0 else tmLooseL t.kind t.args 0 deep := by cases t; rfl
theorem tmLooseL_nonneg (k : Int) : ∀ (ts : List Tm) (i : Nat) (deep : Int), 0 ≤ tmLooseL k ts i deep
  | [], _, _ => by rw [tmLooseL]; exact Int.le_refl _
  | t :: ts, i, deep => by rw [tmLooseL]; have := tmLooseL_nonneg k ts (i + 1) deep; omega
theorem tmLoose_nonneg (t : Tm) (deep : Int) : 0 ≤ tmLoose t deep := by
  rw [tmLoose_eq]
  split
  · omega
  · exact tmLooseL_nonneg _ _ _ _
theorem tmLooseL_at {k : Int} {ts : List Tm} {j : Nat} (h : j < ts.length) (deep : Int) : tmLooseL k (ts.drop j) j deep = max (tmLoose ts[j] (if tmBind k j = true then deep + 1 else deep)) (tmLooseL k (ts.drop (j + 1)) (j + 1) deep) := by
  rw [List.drop_eq_getElem_cons h, tmLooseL]
mutual
theorem tmLoose_fit (p : Int) : ∀ (t : Tm) (deep : Int), tmFit p t deep = true → tmLoose t deep = 0
  | .mk k n nm ls xs, deep, h => by
    rw [tmFit, Bool.and_eq_true, Bool.and_eq_true] at h
    rw [tmLoose]
    by_cases h1 : k = 1
    · rw [if_pos h1]
      have h2 := h.1.1
      unfold tmNode at h2
      rw [if_pos h1] at h2
      simp only [Bool.and_eq_true, decide_eq_true_eq] at h2
      omega
    · rw [if_neg h1]
      exact tmLooseL_fit p k xs 0 deep h.2
theorem tmLooseL_fit (p k : Int) : ∀ (ts : List Tm) (i : Nat) (deep : Int), tmFitL p k ts i deep = true → tmLooseL k ts i deep = 0
  | [], _, _, _ => rfl
  | t :: ts, i, deep, h => by
    rw [tmFitL, Bool.and_eq_true] at h
    rw [tmLooseL, tmLoose_fit p t _ h.1, tmLooseL_fit p k ts (i + 1) deep h.2]
    rfl
end
theorem tmFit_var {p vars : Int} {t : Tm} (h : tmFit p t vars = true) (h1 : t.kind = 1) : 0 ≤ t.n ∧ t.n < vars := by
  rw [tmFit_eq, Bool.and_eq_true, Bool.and_eq_true] at h
  have h2 := h.1.1
  unfold tmNode at h2
  rw [if_pos h1] at h2
  simp only [Bool.and_eq_true, decide_eq_true_eq] at h2
  omega
theorem tmFit_argL {p vars : Int} {t : Tm} (h : tmFit p t vars = true) : tmFitL p t.kind t.args 0 vars = true := by
  rw [tmFit_eq, Bool.and_eq_true] at h
  exact h.2

theorem loose_zero {p : Int} {t : Tm} (h : tmRight p 0 t = true) : (if tmRight 4 1125899906842624 t = true then tmLoose t 0 else 0) = 0 := by
  split
  · unfold tmRight at h
    simp only [Bool.and_eq_true, decide_eq_true_eq] at h
    exact tmLoose_fit p t 0 h.2
  · rfl
end Go.Proofs.YtpjolipkmemcoaaGreatDoor
