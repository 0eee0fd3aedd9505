/-
  Texts put together: W7, W8, W9. No condition.
-/
import Derived.Test.YtpjolipkmemcoaaGreatDoorM19
/-
  The reference's names: has, dot, Parent, Last, Under, Join, Parts. No condition.
-/
namespace Go.Proofs.YtpjolipkmemcoaaGreatDoor
open Go.RowKit

theorem ifB_less {x y : List UInt8} {A B : Prop} (h1 : x < y → A) (h2 : ¬ x < y → B) : ifB (Op.bytesLess x y) A B := by
  rw [Proofs.bytesLess_eq]
  exact ifB_dec h1 h2
theorem ifNil_of {xs ys : List AV} {A B : Prop} (e : xs = ys) (h : ifNil ys A B) : ifNil xs A B := by rw [e]; exact h
set_option maxRecDepth 100000 in
theorem has_con (ss : List (List UInt8)) (s : List UInt8) : Ans Tryz.prog 42 [stsX ss, .str s] (.b (decide (s ∈ ss))) := by
  intro H Q hq
  refine con_of_awp (esc := fun _ => false) tab_ok mixed Tryz.func42 rfl (ent Tryz.func42 (by kernel_rfl) rfl) (by kernel_rfl) ?_
  intro hw hn
  have hlen : ss.length ≤ 9223372036854775807 := (hw (stsX ss) (by simp)).sts
  clear hw hn
  have fin : ∀ q : Bool, q = decide (s ∈ ss) → ∃ r H', Le (.b q) r ∧ List.Sublist H' H ∧ Q r H' := fun q h => ⟨_, H, ret_b h, List.Sublist.refl _, hq⟩
  refine ⟨Nat, fun k => ⟨[(0, .g (stsX ss)), (1, .g (.str s)), (4, .g (.b false)), (5, .g (.i k))], [], H⟩, fun k => k ≤ ss.length ∧ s ∉ ss.take k, fun k => ss.length - k, ⟨0, ⟨Nat.zero_le _, by simp⟩, ?_⟩, ?_⟩
  · (constructor <;> repeat' (first | exact trivial | exact ⟨rfl, rfl⟩ | exact ⟨rfl, LeL.refl _⟩ | exact Le.refl _ | exact List.Sublist.refl _ | (show Le (AV.i _) (AV.i _); rw [List.length_map]; exact Le.refl _) | refine And.intro ?_ ?_))
  · rintro k ⟨hk, hni⟩
    refine ifB_dec (fun h1 => ?_) (fun h1 => ?_)
    · simp only [List.length_map] at h1
      have hlt : k < ss.length := by omega
      refine ⟨k, rfl, _, stAt hlt, ?_⟩
      refine ifB_dec (fun h2 => ?_) (fun h2 => ?_)
      · exact fin _ (decide_eq_true (h2 ▸ List.getElem_mem hlt)).symm
      · refine ⟨in64_of (by first | omega | (dsimp only; omega)) (by first | omega | (dsimp only; omega)), ?_⟩
        refine ⟨k + 1, ⟨by omega, ?_⟩, by (try dsimp only); omega, ?_⟩
        · rw [List.take_succ_eq_append_getElem hlt, List.mem_append, List.mem_singleton]
          rintro (h | h)
          · exact hni h
          · exact h2 h.symm
        · (constructor <;> repeat' (first | exact trivial | exact ⟨rfl, rfl⟩ | exact ⟨rfl, LeL.refl _⟩ | exact Le.refl _ | exact List.Sublist.refl _ | (show Le (AV.i _) (AV.i _); rw [List.length_map]; exact Le.refl _) | refine And.intro ?_ ?_))
    · simp only [List.length_map] at h1
      have hk' : k = ss.length := by omega
      rw [hk', List.take_length] at hni
      exact fin _ (decide_eq_false hni).symm
set_option maxRecDepth 100000 in
theorem dot_con (s : List UInt8) : Ans Tryz.prog 37 [.str s] (.i (dotZ s)) := by
  intro H Q hq
  refine con_of_awp (esc := fun _ => false) tab_ok mixed Tryz.func37 rfl (ent Tryz.func37 (by kernel_rfl) rfl) (by kernel_rfl) ?_
  intro hw hn
  have hlen := (hw (.str s) (by simp)).str
  clear hw hn
  have fin : ∀ q : Int, q = dotZ s → ∃ r H', Le (.i q) r ∧ List.Sublist H' H ∧ Q r H' := fun q h => ⟨_, H, ret_i h, List.Sublist.refl _, hq⟩
  refine ⟨in64_of (by first | omega | (dsimp only; omega)) (by first | omega | (dsimp only; omega)), ?_⟩
  refine ⟨Nat, fun j => ⟨[(0, .g (.str s)), (2, .g (.i 0)), (3, .g (.i ((j : Int) - 1)))], [], H⟩, fun j => j ≤ s.length ∧ 46 ∉ s.drop j, fun j => j, ⟨s.length, ⟨Nat.le_refl _, by simp⟩, ?_⟩, ?_⟩
  · (constructor <;> repeat' (first | exact trivial | exact ⟨rfl, rfl⟩ | exact ⟨rfl, LeL.refl _⟩ | exact Le.refl _ | exact List.Sublist.refl _ | (show Le (AV.i _) (AV.i _); rw [List.length_map]; exact Le.refl _) | refine And.intro ?_ ?_))
  · rintro j ⟨hj, hni⟩
    refine ifB_dec (fun h1 => ?_) (fun h1 => ?_)
    · have hj0 : 0 < j := by omega
      have hlt : j - 1 < s.length := by omega
      refine ⟨j - 1, by omega, s[j - 1], by simp [hlt], ?_⟩
      have hd : s.drop (j - 1) = s[j - 1] :: s.drop j := by
        rw [List.drop_eq_getElem_cons hlt, show j - 1 + 1 = j by omega]
      refine ifB_dec (fun h2 => ?_) (fun h2 => ?_)
      · refine fin _ ?_
        have := dotZ_at hlt (u8_eq (b := 46) h2) (by rw [show j - 1 + 1 = j by omega]; exact hni)
        rw [this]
        omega
      · refine ⟨in64_of (by first | omega | (dsimp only; omega)) (by first | omega | (dsimp only; omega)), ?_⟩
        refine ⟨j - 1, ⟨by omega, ?_⟩, by (try dsimp only); omega, ?_⟩
        · rw [hd]
          intro k
          rcases List.mem_cons.1 k with k | k
          · exact h2 (by rw [← k]; rfl)
          · exact hni k
        · refine ⟨⟨Le.refl _, Le.refl _, le_of_eq (congrArg AV.i (by omega)), trivial⟩, trivial, List.Sublist.refl _⟩
    · have hj0 : j = 0 := by omega
      rw [hj0, List.drop_zero] at hni
      exact fin _ (dotZ_none hni).symm
set_option maxRecDepth 100000 in
theorem rParent_con (s : List UInt8) : Ans Tryz.prog 19 [.str s] (.str (nmParent s)) := by
  intro H Q hq
  have fin : ∀ q : List UInt8, q = nmParent s → ∃ r H', Le (.str q) r ∧ List.Sublist H' H ∧ Q r H' := fun q h => ⟨_, H, Le.refl _, List.Sublist.refl _, by rw [h]; exact hq⟩
  rcases dot_last s with hd | ⟨a, r, hd, hs⟩
  · refine con_of_awp (esc := fun _ => false) tab_ok mixed Tryz.func19 rfl (ent Tryz.func19 (by kernel_rfl) rfl) (by kernel_rfl) ?_
    intro hw hn
    clear hw hn
    refine ⟨_, LeL.refl _, (dot_con s).to (congrArg AV.i (dotZ_none hd)) _ _ ?_⟩
    intro hz1 hz2; clear hz1 hz2
    cases hok : nameOk s with
    | false =>
      refine ⟨_, LeL.refl _, (ref01Right_con s).as hok _ _ ?_⟩
      intro hz1 hz2; clear hz1 hz2
      exact fin [] (parts_no hok).2.1.symm
    | true =>
      refine ⟨_, LeL.refl _, (ref01Right_con s).as hok _ _ ?_⟩
      intro hz1 hz2; clear hz1 hz2
      exact fin [] (by rw [nmParent, nmCut, if_pos hok, cut_none hd])
  · have hal : s.length = a.length + (r.length + 1) := by rw [hs, List.length_append, List.length_cons]
    have hz : dotZ s = a.length := by rw [hs]; exact dotZ_some hd
    have htk : s.take a.length = a := by rw [hs, List.take_left' rfl]
    refine con_of_awp (esc := fun _ => false) tab_ok mixed Tryz.func19 rfl (ent Tryz.func19 (by kernel_rfl) rfl) (by kernel_rfl) ?_
    intro hw hn
    clear hw hn
    refine ⟨_, LeL.refl _, (dot_con s).to (congrArg AV.i hz) _ _ ?_⟩
    intro hz1 hz2; clear hz1 hz2
    cases hok : nameOk s with
    | false =>
      refine ⟨_, LeL.refl _, (ref01Right_con s).as hok _ _ ?_⟩
      intro hz1 hz2; clear hz1 hz2
      exact fin [] (parts_no hok).2.1.symm
    | true =>
      refine ⟨_, LeL.refl _, (ref01Right_con s).as hok _ _ ?_⟩
      intro hz1 hz2; clear hz1 hz2
      refine ⟨a.length, rfl, ⟨Nat.zero_le _, by omega⟩, ?_⟩
      refine fin (s.take a.length) ?_
      rw [htk, nmParent, nmCut, if_pos hok, hs, cut_some hd]
set_option maxRecDepth 100000 in
theorem rLast_con (s : List UInt8) : Ans Tryz.prog 21 [.str s] (.str (nmLast s)) := by
  intro H Q hq
  have fin : ∀ q : List UInt8, q = nmLast s → ∃ r H', Le (.str q) r ∧ List.Sublist H' H ∧ Q r H' := fun q h => ⟨_, H, Le.refl _, List.Sublist.refl _, by rw [h]; exact hq⟩
  cases hok : nameOk s with
  | false =>
    refine con_of_awp (esc := fun _ => false) tab_ok mixed Tryz.func21 rfl (ent Tryz.func21 (by kernel_rfl) rfl) (by kernel_rfl) ?_
    intro hw hn
    refine ⟨_, LeL.refl _, (ref01Right_con s).as hok _ _ ?_⟩
    intro hz1 hz2; clear hz1 hz2
    exact fin [] (parts_no hok).2.2.symm
  | true =>
    have hl := nameOk_len hok
    rcases dot_last s with hd | ⟨a, r, hd, hs⟩
    · refine con_of_awp (esc := fun _ => false) tab_ok mixed Tryz.func21 rfl (ent Tryz.func21 (by kernel_rfl) rfl) (by kernel_rfl) ?_
      intro hw hn
      clear hw hn
      refine ⟨_, LeL.refl _, (ref01Right_con s).as hok _ _ ?_⟩
      intro hz1 hz2; clear hz1 hz2
      refine ⟨_, LeL.refl _, (dot_con s).to (congrArg AV.i (dotZ_none hd)) _ _ ?_⟩
      intro hz1 hz2; clear hz1 hz2
      refine ⟨in64_of (by first | omega | (dsimp only; omega)) (by first | omega | (dsimp only; omega)), ?_⟩
      refine ⟨0, rfl, Nat.zero_le _, ?_⟩
      refine fin (s.take s.length) ?_
      rw [List.take_length, nmLast, nmCut, if_pos hok, cut_none hd]
    · have hal : s.length = a.length + (r.length + 1) := by rw [hs, List.length_append, List.length_cons]
      have hz : dotZ s = a.length := by rw [hs]; exact dotZ_some hd
      have hdr : (s.drop (a.length + 1)).take (s.length - (a.length + 1)) = r := by
        rw [show s.length - (a.length + 1) = r.length by omega, hs, ← List.drop_drop, List.drop_left' rfl]
        exact List.take_length
      refine con_of_awp (esc := fun _ => false) tab_ok mixed Tryz.func21 rfl (ent Tryz.func21 (by kernel_rfl) rfl) (by kernel_rfl) ?_
      intro hw hn
      clear hw hn
      refine ⟨_, LeL.refl _, (ref01Right_con s).as hok _ _ ?_⟩
      intro hz1 hz2; clear hz1 hz2
      refine ⟨_, LeL.refl _, (dot_con s).to (congrArg AV.i hz) _ _ ?_⟩
      intro hz1 hz2; clear hz1 hz2
      refine ⟨in64_of (by first | omega | (dsimp only; omega)) (by first | omega | (dsimp only; omega)), ?_⟩
      refine ⟨a.length + 1, rfl, (by omega), ?_⟩
      refine fin ((s.drop (a.length + 1)).take (s.length - (a.length + 1))) ?_
      rw [hdr, nmLast, nmCut, if_pos hok, hs, cut_some hd]
theorem under_no {s top : List UInt8} (h1 : nameOk s = true) (h2 : nameOk top = true) (h3 : s ≠ top) (h : ¬ ∃ r, s = top ++ 46 :: r) : nmUnder s top = false := by
  cases e : nmUnder s top with
  | false => rfl
  | true =>
    obtain ⟨_, _, k | k⟩ := under_iff.1 e
    · exact absurd k h3
    · exact absurd k h
set_option maxRecDepth 100000 in
theorem rUnder_con (s top : List UInt8) : Ans Tryz.prog 23 [.str s, .str top] (.b (nmUnder s top)) := by
  intro H Q hq
  refine con_of_awp (esc := fun _ => false) tab_ok mixed Tryz.func23 rfl (ent Tryz.func23 (by kernel_rfl) rfl) (by kernel_rfl) ?_
  intro hw hn
  clear hw hn
  have fin : ∀ q : Bool, q = nmUnder s top → ∃ r H', Le (.b q) r ∧ List.Sublist H' H ∧ Q r H' := fun q h => ⟨_, H, ret_b h, List.Sublist.refl _, hq⟩
  cases h1 : nameOk s with
  | false =>
    refine ⟨_, LeL.refl _, (ref01Right_con s).as h1 _ _ ?_⟩
    intro hz1 hz2; clear hz1 hz2
    exact fin _ (by rw [nmUnder, h1]; rfl)
  | true =>
    refine ⟨_, LeL.refl _, (ref01Right_con s).as h1 _ _ ?_⟩
    intro hz1 hz2; clear hz1 hz2
    cases h2 : nameOk top with
    | false =>
      refine ⟨_, LeL.refl _, (ref01Right_con top).as h2 _ _ ?_⟩
      intro hz1 hz2; clear hz1 hz2
      exact fin _ (by rw [nmUnder, h1, h2]; rfl)
    | true =>
      have hl := nameOk_len h2
      refine ⟨_, LeL.refl _, (ref01Right_con top).as h2 _ _ ?_⟩
      intro hz1 hz2; clear hz1 hz2
      refine aText_q (.g (.b false)) (fun _ _ h => h) rfl (fun K h => h) ?_
      refine aText_q (.g (.b false)) (fun _ _ h => h) rfl (fun K h => h) ?_
      refine aText_end ?_
      refine awp_else rfl ?_
      refine awp_reg (id := 0) ?_
      refine aText_q (.g (.str s)) (fun _ _ h => h) rfl (fun K h => h) ?_
      refine aText_q (.g (.str top)) (fun _ _ h => h) rfl (fun K h => h) ?_
      refine aText_cmp (s = top) (fun _ _ h => h) rfl (fun K a b => ifB_dec a b) (fun h3 => ?_) (fun h3 => ?_)
      · exact fin _ (by rw [nmUnder, h1, h2, decide_eq_true h3]; rfl)
      · refine aText_q (.g (.b false)) (fun _ _ h => h) rfl (fun K h => h) ?_
        refine aText_q (.g (.str s)) (fun _ _ h => h) rfl (fun K h => h) ?_
        refine aText_q (.g (.i (s.length : Nat))) (fun _ _ h => h) rfl (fun K h => h) ?_
        refine aText_q (.g (.str top)) (fun _ _ h => h) rfl (fun K h => h) ?_
        refine aText_q (.g (.i (top.length : Nat))) (fun _ _ h => h) rfl (fun K h => h) ?_
        refine aText_cmp (((top.length : Nat) : Int) < (s.length : Nat)) (fun _ _ h => h) rfl (fun K a b => ifB_dec a b) (fun h4 => ?_) (fun h4 => ?_)
        · have hlt : top.length < s.length := by omega
          have hse : s = s.take top.length ++ s[top.length] :: s.drop (top.length + 1) := by rw [← List.drop_eq_getElem_cons hlt, List.take_append_drop]
          refine aText_q (.g (.b true)) (fun _ _ h => h) rfl (fun K h => h) ?_
          refine aText_q (.g (.str s)) (fun _ _ h => h) rfl (fun K h => h) ?_
          refine aText_q (.g (.str top)) (fun _ _ h => h) rfl (fun K h => h) ?_
          refine aText_q (.g (.i (top.length : Nat))) (fun _ _ h => h) rfl (fun K h => h) ?_
          refine aText_q (.g (.str (s.take top.length))) (fun _ _ h => h) rfl (fun K h => ⟨top.length, rfl, ⟨Nat.zero_le _, Nat.le_of_lt hlt⟩, h⟩) ?_
          refine aText_q (.g (.str top)) (fun _ _ h => h) rfl (fun K h => h) ?_
          refine aText_cmp (s.take top.length = top) (fun _ _ h => h) rfl (fun K a b => ifB_dec a b) (fun h5 => ?_) (fun h5 => ?_)
          · refine aText_q (.g (.b true)) (fun _ _ h => h) rfl (fun K h => h) ?_
            refine aText_q (.g (.b true)) (fun _ _ h => h) rfl (fun K h => h) ?_
            refine aText_q (.g (.str s)) (fun _ _ h => h) rfl (fun K h => h) ?_
            refine aText_q (.g (.str top)) (fun _ _ h => h) rfl (fun K h => h) ?_
            refine aText_q (.g (.i (top.length : Nat))) (fun _ _ h => h) rfl (fun K h => h) ?_
            refine aText_q (.g (byteV s[top.length])) (fun _ _ h => h) rfl (fun K h => ⟨top.length, rfl, s[top.length], List.getElem?_eq_getElem hlt, h⟩) ?_
            refine aText_cmp (((s[top.length]).toNat : Int) = 46) (fun _ _ h => h) rfl (fun K a b => ifB_dec a b) (fun h6 => ?_) (fun h6 => ?_)
            · have h6' : s[top.length] = 46 := u8_eq (b := 46) h6
              refine fin _ (under_iff.2 ⟨h1, h2, Or.inr ⟨s.drop (top.length + 1), ?_⟩⟩).symm
              rw [h5, h6'] at hse
              exact hse
            · refine fin _ (under_no h1 h2 h3 ?_).symm
              rintro ⟨r, hr⟩
              refine h6 ?_
              have : s[top.length]? = some 46 := by rw [hr, List.getElem?_append_right (Nat.le_refl _), Nat.sub_self]; rfl
              rw [List.getElem?_eq_getElem hlt] at this
              rw [Option.some.inj this]
              rfl
          · refine fin _ (under_no h1 h2 h3 ?_).symm
            rintro ⟨r, hr⟩
            refine h5 ?_
            rw [hr, List.take_left' rfl]
        · refine fin _ (under_no h1 h2 h3 ?_).symm
          rintro ⟨r, hr⟩
          have := congrArg List.length hr
          rw [List.length_append, List.length_cons] at this
          omega
set_option maxRecDepth 100000 in
theorem rJoin_con (ss : List (List UInt8)) (hl : ss.length ≤ 1000000) : Ans Tryz.prog 12 [stsX ss] (.tup [.str (nmJoin ss).1, .b (nmJoin ss).2]) := by
  intro H Q hq
  have fin : ∀ q : List UInt8 × Bool, nmJoin ss = q → ∃ r H', Le (.tup [.str q.1, .b q.2]) r ∧ List.Sublist H' H ∧ Q r H' := fun q h => ⟨_, H, Le.refl _, List.Sublist.refl _, by rw [← h]; exact hq⟩
  refine con_of_awp (esc := fun _ => false) tab_ok mixed Tryz.func12 rfl (ent Tryz.func12 (by kernel_rfl) rfl) (by kernel_rfl) ?_
  intro hw hn
  clear hw hn
  refine ⟨Nat, fun k => ⟨[(0, .g (stsX ss)), (2, .g (.str [])), (3, .g (.b false)), (4, .g (.str (Lib.join (ss.take k) [46]))), (5, .g (.i k))], [], H⟩, fun k => k ≤ ss.length ∧ ∀ p ∈ ss.take k, nameOk p = true, fun k => ss.length - k, ⟨0, ⟨Nat.zero_le _, by simp⟩, ?_⟩, ?_⟩
  · (constructor <;> repeat' (first | exact trivial | exact ⟨rfl, rfl⟩ | exact ⟨rfl, LeL.refl _⟩ | exact Le.refl _ | exact List.Sublist.refl _ | (show Le (AV.i _) (AV.i _); rw [List.length_map]; exact Le.refl _) | refine And.intro ?_ ?_))
  · rintro k ⟨hk, hall⟩
    have hjl := join_len (ss.take k) fun p hp => nameOk_len (hall p hp)
    rw [List.length_take] at hjl
    refine ifB_dec (fun h1 => ?_) (fun h1 => ?_)
    · simp only [List.length_map] at h1
      have hlt : k < ss.length := by omega
      refine ⟨k, rfl, _, stAt hlt, ?_⟩
      have hsn := join_snoc hlt
      cases hok : nameOk ss[k] with
      | false =>
        refine ⟨_, LeL.refl _, (ref01Right_con ss[k]).as hok _ _ ?_⟩
        intro hz1 hz2; clear hz1 hz2
        exact fin ([], false) (nmJoin_bad hlt hok)
      | true =>
        have hpl := nameOk_len hok
        have hall' : ∀ p ∈ ss.take (k + 1), nameOk p = true := by
          intro p hp
          rw [List.take_succ_eq_append_getElem hlt, List.mem_append, List.mem_singleton] at hp
          rcases hp with hp | rfl
          · exact hall p hp
          · exact hok
        refine ⟨_, LeL.refl _, (ref01Right_con ss[k]).as hok _ _ ?_⟩
        intro hz1 hz2; clear hz1 hz2
        refine ifB_dec (fun h2 => ?_) (fun h2 => ?_)
        · exact fin ([], false) (nmJoin_long (k := k) (by omega))
        · refine ifB_dec (fun h3 => ?_) (fun h3 => ?_)
          · rw [if_pos (by omega)] at hsn
            refine ⟨(show (Lib.join (ss.take k) [46]).length + 1 ≤ 1125899906842624 by omega), ?_⟩
            refine ⟨k, rfl, _, stAt hlt, ?_⟩
            refine ⟨(by rw [List.length_append]; show _ + 1 + _ ≤ 1125899906842624; omega), ?_⟩
            refine ⟨in64_of (by first | omega | (dsimp only; omega)) (by first | omega | (dsimp only; omega)), ?_⟩
            refine ⟨k + 1, ⟨by omega, hall'⟩, by (try dsimp only); omega, ?_⟩
            exact ⟨⟨Le.refl _, Le.refl _, Le.refl _, le_of_eq (congrArg AV.str hsn.symm), Le.refl _, trivial⟩, trivial, List.Sublist.refl _⟩
          · rw [if_neg (by omega), List.append_nil] at hsn
            refine ⟨k, rfl, _, stAt hlt, ?_⟩
            refine ⟨(show (Lib.join (ss.take k) [46]).length + _ ≤ 1125899906842624 by omega), ?_⟩
            refine ⟨in64_of (by first | omega | (dsimp only; omega)) (by first | omega | (dsimp only; omega)), ?_⟩
            refine ⟨k + 1, ⟨by omega, hall'⟩, by (try dsimp only); omega, ?_⟩
            exact ⟨⟨Le.refl _, Le.refl _, Le.refl _, le_of_eq (congrArg AV.str hsn.symm), Le.refl _, trivial⟩, trivial, List.Sublist.refl _⟩
    · simp only [List.length_map] at h1
      have hk' : k = ss.length := by omega
      subst hk'
      rw [List.take_length] at hall
      have hend := nmJoin_end hall
      have htk : Lib.join (ss.take ss.length) [46] = Lib.join ss [46] := by rw [List.take_length]
      cases hok : nameOk (Lib.join ss [46]) with
      | false =>
        refine ⟨[.str (Lib.join ss [46])], ⟨le_of_eq (congrArg AV.str htk), trivial⟩, (ref01Right_con (Lib.join ss [46])).as hok _ _ ?_⟩
        intro hz1 hz2; clear hz1 hz2
        exact fin ([], false) (by rw [hend, if_neg (by rw [hok]; decide)])
      | true =>
        refine ⟨[.str (Lib.join ss [46])], ⟨le_of_eq (congrArg AV.str htk), trivial⟩, (ref01Right_con (Lib.join ss [46])).as hok _ _ ?_⟩
        intro hz1 hz2; clear hz1 hz2
        exact fin (Lib.join (ss.take ss.length) [46], true) (by rw [hend, if_pos hok, htk])
set_option maxRecDepth 100000 in
theorem rParts_con (s : List UInt8) : Ans Tryz.prog 17 [.str s] (stsX (nmParts s)) := by
  intro H Q hq
  cases hok : nameOk s with
  | false =>
    rw [(parts_no hok).1] at hq
    refine con_of_awp (esc := fun _ => false) tab_ok mixed Tryz.func17 rfl (ent Tryz.func17 (by kernel_rfl) rfl) (by kernel_rfl) ?_
    intro hw hn
    refine ⟨_, LeL.refl _, (ref01Right_con s).as hok _ _ ?_⟩
    intro hz1 hz2; clear hz1 hz2
    exact ⟨_, H, Le.nil _ _, List.Sublist.refl _, hq⟩
  | true =>
    have hl := nameOk_len hok
    rw [nmParts, if_pos hok] at hq
    refine con_of_awp (esc := fun _ => false) tab_ok mixed Tryz.func17 rfl (ent Tryz.func17 (by kernel_rfl) rfl) (by kernel_rfl) ?_
    intro hw hn
    clear hw hn
    refine ⟨_, LeL.refl _, (ref01Right_con s).as hok _ _ ?_⟩
    intro hz1 hz2; clear hz1 hz2
    refine ⟨Option Cap × Nat × Nat × List (List UInt8), fun x => ⟨[(0, .g (.str s)), (2, .g (.sl .full 0 [])), (3, .g (.sl (ownQ x.1) 1 (x.2.2.2.map .str))), (4, .g (.i x.2.2.1)), (5, .g (.i x.2.1))], [], bufH x.1 H⟩,
      fun x => x.2.1 ≤ s.length + 1 ∧ (x.2.1 ≤ s.length → SpAt s x.2.1 x.2.2.1 x.2.2.2) ∧ (x.2.1 = s.length + 1 → x.2.2.2 = sp s), fun x => s.length + 1 - x.2.1, ⟨(none, 0, 0, []), ⟨Nat.zero_le _, fun _ => spAt_zero s, fun h => by simp only at h; omega⟩, ?_⟩, ?_⟩
    · (constructor <;> repeat' (first | exact trivial | exact ⟨rfl, rfl⟩ | exact ⟨rfl, LeL.refl _⟩ | exact Le.refl _ | exact List.Sublist.refl _ | (show Le (AV.i _) (AV.i _); rw [List.length_map]; exact Le.refl _) | refine And.intro ?_ ?_))
    · rintro ⟨q, i, d, out⟩ ⟨hi, hsp, hen⟩
      simp only at hi hsp hen
      refine ifB_dec (fun h1 => ?_) (fun h1 => ?_)
      · simp only at h1
        have hil : i ≤ s.length := by omega
        have hs := hsp hil
        have hdi := hs.1
        have hol := spAt_len hs hil
        have hcut : ((s.drop d).take (i - d)) = (s.take i).drop d := by rw [List.drop_take]
        refine ifB_dec (fun h2 => ?_) (fun h2 => ?_)
        · simp only at h2
          have hie : i = s.length := by omega
          refine ⟨d, rfl, i, rfl, ⟨hdi, hil⟩, ?_⟩
          refine ⟨?_, ?_⟩
          · simp only [List.length_map, List.length_cons, List.length_nil]
            try simp only [List.length_take]
            show _ * (16 + 1) ≤ _
            omega
          refine own_of (q := q) (H0 := H) ?_ ?_ ?_ (fun c hc => ?_)
          · exact rfl
          · exact rfl
          · exact fun _ h => h
          refine ⟨in64_of (by first | omega | (dsimp only; omega)) (by first | omega | (dsimp only; omega)), ?_⟩
          refine ⟨in64_of (by first | omega | (dsimp only; omega)) (by first | omega | (dsimp only; omega)), ?_⟩
          refine ⟨(some c, i + 1, i + 1, out ++ [(s.take i).drop d]), ⟨by simp only; omega, fun h => by simp only at h; omega, fun _ => ?_⟩, by (try dsimp only); omega, ?_⟩
          · simp only
            subst hie
            exact spAt_end hs
          · exact ⟨⟨Le.refl _, Le.refl _, le_of_eq (by show AV.sl _ _ (out.map AV.str ++ [AV.str ((s.drop d).take (i - d))]) = AV.sl _ _ _; rw [hcut, List.map_append]; rfl), Le.refl _, Le.refl _, trivial⟩, trivial, List.Sublist.refl _⟩
        · simp only at h2
          have hlt : i < s.length := by omega
          refine ⟨i, rfl, s[i], by simp [hlt], ?_⟩
          refine ifB_dec (fun h3 => ?_) (fun h3 => ?_)
          · refine ⟨d, rfl, i, rfl, ⟨hdi, hil⟩, ?_⟩
            refine ⟨?_, ?_⟩
            · simp only [List.length_map, List.length_cons, List.length_nil]
              try simp only [List.length_take]
              show _ * (16 + 1) ≤ _
              omega
            refine own_of (q := q) (H0 := H) ?_ ?_ ?_ (fun c hc => ?_)
            · exact rfl
            · exact rfl
            · exact fun _ h => h
            refine ⟨in64_of (by first | omega | (dsimp only; omega)) (by first | omega | (dsimp only; omega)), ?_⟩
            refine ⟨in64_of (by first | omega | (dsimp only; omega)) (by first | omega | (dsimp only; omega)), ?_⟩
            refine ⟨(some c, i + 1, i + 1, out ++ [(s.take i).drop d]), ⟨by simp only; omega, fun _ => spAt_dot hs hlt (u8_eq (b := 46) h3), fun h => by simp only at h; omega⟩, by (try dsimp only); omega, ?_⟩
            exact ⟨⟨Le.refl _, Le.refl _, le_of_eq (by show AV.sl _ _ (out.map AV.str ++ [AV.str ((s.drop d).take (i - d))]) = AV.sl _ _ _; rw [hcut, List.map_append]; rfl), Le.refl _, Le.refl _, trivial⟩, trivial, List.Sublist.refl _⟩
          · refine ⟨in64_of (by first | omega | (dsimp only; omega)) (by first | omega | (dsimp only; omega)), ?_⟩
            refine ⟨(q, i + 1, d, out), ⟨by simp only; omega, fun _ => spAt_other hs hlt fun e => h3 (by rw [e]; rfl), fun h => by simp only at h; omega⟩, by (try dsimp only); omega, ?_⟩
            (constructor <;> repeat' (first | exact trivial | exact ⟨rfl, rfl⟩ | exact ⟨rfl, LeL.refl _⟩ | exact Le.refl _ | exact List.Sublist.refl _ | (show Le (AV.i _) (AV.i _); rw [List.length_map]; exact Le.refl _) | refine And.intro ?_ ?_))
      · simp only at h1
        have hie : i = s.length + 1 := by omega
        refine ⟨stsX (sp s), H, ?_, bufH_sub q _, hq⟩
        rw [hen hie]
        exact ownQ_le q 1 _
end Go.Proofs.YtpjolipkmemcoaaGreatDoor

/-
  The reference's Decimal, Fresh, Sort. No condition.
-/
namespace Go.Proofs.YtpjolipkmemcoaaGreatDoor
open Go.RowKit

theorem tdiv10 (n : Nat) : (n : Int).tdiv 10 = ((n / 10 : Nat) : Int) := rfl
theorem tmod10 (n : Nat) : (n : Int).tmod 10 = ((n % 10 : Nat) : Int) := rfl
theorem digV (n : Nat) : AV.v (.int .u8 (IntKind.u8.wrap (48 + (n : Int).tmod 10))) = byteV (UInt8.ofNat (48 + n % 10)) := by
  unfold byteV
  rw [IntKind.wrap_u8, tmod10]
  have : (UInt8.ofNat (48 + n % 10)).toNat = 48 + n % 10 := by simp; omega
  rw [this, show (48 + ((n % 10 : Nat) : Int)) % 256 = ((48 + n % 10 : Nat) : Int) by omega]
set_option maxRecDepth 100000 in
theorem Decimal_con (n : Nat) (hn9 : n ≤ 9999) : Ans Tryz.prog 43 [.i n] (.str (decB n)) := by
  intro H Q hq
  have hd := dec_len (k := 4) (n := n) (by decide) (by omega)
  refine con_of_awp (esc := fun _ => false) tab_ok mixed Tryz.func43 rfl (ent Tryz.func43 (by kernel_rfl) rfl) (by kernel_rfl) ?_
  intro hw hn
  clear hw hn
  refine ⟨Nat × List UInt8, fun x => ⟨[(0, .g (.i x.1)), (2, .g (.str [])), (3, .g (.str x.2))], [], H⟩, fun x => decB n = decB x.1 ++ x.2 ∧ x.1 ≤ n, fun x => x.1, ⟨(n, []), ⟨by simp, Nat.le_refl _⟩, ?_⟩, ?_⟩
  · (constructor <;> repeat' (first | exact trivial | exact ⟨rfl, rfl⟩ | exact ⟨rfl, LeL.refl _⟩ | exact Le.refl _ | exact List.Sublist.refl _ | (show Le (AV.i _) (AV.i _); rw [List.length_map]; exact Le.refl _) | refine And.intro ?_ ?_))
  · rintro ⟨m, s⟩ ⟨he, hm⟩
    simp only at he hm
    have hdl := congrArg List.length he
    rw [List.length_append] at hdl
    have hst := decB_step m
    refine ⟨by decide, ?_⟩
    refine ⟨in64_of (show (-9223372036854775808 : Int) ≤ 48 + (m : Int).tmod 10 by rw [tmod10]; omega) (show 48 + (m : Int).tmod 10 ≤ 9223372036854775807 by rw [tmod10]; omega), ?_⟩
    refine ⟨[UInt8.ofNat (48 + m % 10)], ⟨congrArg (fun x => [x]) (digV m), (by show 1 ≤ 1125899906842624; decide)⟩, ?_⟩
    refine ⟨(show 1 + s.length ≤ 1125899906842624 by omega), ?_⟩
    refine ⟨by decide, ?_⟩
    refine ⟨in64_of (show (-9223372036854775808 : Int) ≤ (m : Int).tdiv 10 by rw [tdiv10]; omega) (show (m : Int).tdiv 10 ≤ 9223372036854775807 by rw [tdiv10]; omega), ?_⟩
    refine ifB_dec (fun h1 => ?_) (fun h1 => ?_)
    · have h1' : m / 10 = 0 := by
        have : (m : Int).tdiv 10 = 0 := h1
        rw [tdiv10] at this
        omega
      rw [if_pos (by omega), List.nil_append] at hst
      rw [hst] at he
      exact ⟨.str ([UInt8.ofNat (48 + m % 10)] ++ s), H, Le.refl _, List.Sublist.refl _, by rw [← he]; exact hq⟩
    · have h1' : ¬ m / 10 = 0 := by
        have : ¬ (m : Int).tdiv 10 = 0 := h1
        rw [tdiv10] at this
        omega
      rw [if_neg (by omega)] at hst
      rw [hst, List.append_assoc] at he
      refine ⟨(m / 10, [UInt8.ofNat (48 + m % 10)] ++ s), ⟨he, by simp only; omega⟩, by (try dsimp only); omega, ?_⟩
      exact ⟨⟨le_of_eq (congrArg AV.i (tdiv10 m)), Le.refl _, Le.refl _, trivial⟩, trivial, List.Sublist.refl _⟩
/-! Fresh -/
theorem dot_end (f : List UInt8) : f = [] ∨ (∃ r, f = r ++ [46]) ∨ ∃ r c, c ≠ 46 ∧ f = r ++ [c] := by
  rcases List.eq_nil_or_concat f with h | ⟨r, c, h⟩
  · exact Or.inl h
  · by_cases hc : c = 46
    · exact Or.inr (Or.inl ⟨r, by rw [h, hc, List.concat_eq_append]⟩)
    · exact Or.inr (Or.inr ⟨r, c, hc, by rw [h, List.concat_eq_append]⟩)
set_option maxRecDepth 100000 in
set_option maxHeartbeats 1000000 in
theorem rFresh_con (s : List UInt8) (taken : List (List UInt8)) (ht : taken.length ≤ 9000) : Ans Tryz.prog 25 [.str s, stsX taken] (.str (nmFresh s taken)) := by
  intro H Q hq
  cases hok : nameOk s with
  | false =>
    rw [nmFresh, if_neg (by rw [hok]; simp)] at hq
    refine con_of_awp (esc := fun _ => false) tab_ok mixed Tryz.func25 rfl (ent Tryz.func25 (by kernel_rfl) rfl) (by kernel_rfl) ?_
    intro hw hn
    refine ⟨_, LeL.refl _, (ref01Right_con s).as hok _ _ ?_⟩
    intro hz1 hz2; clear hz1 hz2
    exact ⟨_, H, Le.refl _, List.Sublist.refl _, hq⟩
  | true =>
    rw [nmFresh, if_pos hok] at hq
    have hl := nameOk_len hok
    obtain ⟨g1, g2, g3⟩ := freshN_spec s taken
    have hll : (taken.map AV.str).length = taken.length := List.length_map _
    by_cases hs : s ∈ taken
    · have hpos : 1 ≤ freshN s taken := by
        rcases Nat.eq_zero_or_pos (freshN s taken) with h | h
        · rw [h] at g2; exact absurd hs g2
        · exact h
      refine con_of_awp (esc := fun _ => false) tab_ok mixed Tryz.func25 rfl (ent Tryz.func25 (by kernel_rfl) rfl) (by kernel_rfl) ?_
      intro hw hn
      clear hw hn
      refine ⟨_, LeL.refl _, (ref01Right_con s).as hok _ _ ?_⟩
      intro hz1 hz2; clear hz1 hz2
      refine ⟨_, LeL.refl _, (has_con taken s).as (decide_eq_true hs) _ _ ?_⟩
      intro hz1 hz2; clear hz1 hz2
      refine ⟨Nat, fun n => ⟨[(0, .g (.str s)), (1, .g (stsX taken)), (4, .g (.str [])), (5, .g (.i n))], [], H⟩, fun n => 1 ≤ n ∧ n ≤ freshN s taken, fun n => freshN s taken - n, ⟨1, ⟨Nat.le_refl _, hpos⟩, ?_⟩, ?_⟩
      · (constructor <;> repeat' (first | exact trivial | exact ⟨rfl, rfl⟩ | exact ⟨rfl, LeL.refl _⟩ | exact Le.refl _ | exact List.Sublist.refl _ | (show Le (AV.i _) (AV.i _); rw [List.length_map]; exact Le.refl _) | refine And.intro ?_ ?_))
      · rintro n ⟨hn1, hn2⟩
        have hd := dec_len (k := 4) (n := n) (by decide) (by omega)
        have htl : (tailB n).length = (decB n).length + 1 := rfl
        obtain ⟨n', rfl⟩ : ∃ n', n = n' + 1 := ⟨n - 1, by omega⟩
        have hk : freshK s (n' + 1) = frontB s (min s.length (40 - (tailB (n' + 1)).length)) ++ tailB (n' + 1) := rfl
        refine ⟨in64_of (by first | omega | (dsimp only; omega)) (by first | omega | (dsimp only; omega)), ?_⟩
        refine ifB_dec (fun h1 => ?_) (fun h1 => ?_)
        · refine ⟨_, LeL.refl _, Decimal_con (n' + 1) (by omega) _ _ ?_⟩
          intro hz1 hz2; clear hz1 hz2
          refine ⟨(by show 1 + (decB (n' + 1)).length ≤ 1125899906842624; omega), ?_⟩
          refine ⟨in64_of (show (-9223372036854775808 : Int) ≤ (s.length : Int) + (((decB (n' + 1)).length + 1 : Nat) : Int) by omega) (show (s.length : Int) + (((decB (n' + 1)).length + 1 : Nat) : Int) ≤ 9223372036854775807 by omega), ?_⟩
          refine ifB_dec (fun h2 => ?_) (fun h2 => ?_)
          · have h2' : 40 < s.length + ((decB (n' + 1)).length + 1) := by
              have : (40 : Int) < (s.length : Int) + (((decB (n' + 1)).length + 1 : Nat) : Int) := h2
              omega
            obtain ⟨m, hmm⟩ : ∃ m, 40 - (tailB (n' + 1)).length = m := ⟨_, rfl⟩
            have hml : m < s.length := by omega
            rw [hmm, Nat.min_eq_right (Nat.le_of_lt hml)] at hk
            have htk : (s.take m).length = m := by rw [List.length_take]; omega
            rw [frontB, if_pos (by rw [htk]; exact hml)] at hk
            refine ⟨in64_of (show (-9223372036854775808 : Int) ≤ 40 - (((decB (n' + 1)).length + 1 : Nat) : Int) by omega) (show (40 - (((decB (n' + 1)).length + 1 : Nat) : Int)) ≤ 9223372036854775807 by omega), ?_⟩
            refine ⟨m, (show (40 - (((decB (n' + 1)).length + 1 : Nat) : Int)) = (m : Int) by omega), ⟨Nat.zero_le _, Nat.le_of_lt hml⟩, ?_⟩
            refine ⟨List UInt8, fun f => ⟨[(0, .g (.str s)), (1, .g (stsX taken)), (4, .g (.str [])), (5, .g (.i ((n' + 1 : Nat) : Int))), (6, .g (.str (tailB (n' + 1)))), (7, .g (.str f))], [], H⟩, fun f => f.length ≤ 40 ∧ Lib.trimRightB f 46 = Lib.trimRightB (s.take m) 46, fun f => f.length, ⟨s.take m, ⟨by omega, rfl⟩, ?_⟩, ?_⟩
            · exact ⟨⟨Le.refl _, Le.refl _, Le.refl _, Le.refl _, Le.refl _, Le.refl _, trivial⟩, trivial, List.Sublist.refl _⟩
            · rintro f ⟨hf, htr⟩
              rw [← htr] at hk
              rcases dot_end f with rfl | ⟨r, rfl⟩ | ⟨r, c, hc, rfl⟩
              · have hke : ([] : List UInt8) ++ tailB (n' + 1) = freshK s (n' + 1) := hk.symm
                have hreq : ([] : List UInt8).length + (tailB (n' + 1)).length ≤ 1125899906842624 := by rw [htl]; simp; omega
                refine ⟨hreq, ?_⟩
                by_cases hm : freshK s (n' + 1) ∈ taken
                · have hne : n' + 1 < freshN s taken := by
                    rcases Nat.lt_or_eq_of_le hn2 with h | h
                    · exact h
                    · rw [h] at hm; exact absurd hm g2
                  refine ⟨[stsX taken, .str (freshK s (n' + 1))], ⟨Le.refl _, le_of_eq (congrArg AV.str hke), trivial⟩, (has_con taken (freshK s (n' + 1))).as (decide_eq_true hm) _ _ ?_⟩
                  intro hz1 hz2; clear hz1 hz2
                  refine ⟨in64_of (by first | omega | (dsimp only; omega)) (by first | omega | (dsimp only; omega)), ?_⟩
                  refine ⟨n' + 1 + 1, ⟨by omega, by omega⟩, by (try dsimp only); omega, ?_⟩
                  (constructor <;> repeat' (first | exact trivial | exact ⟨rfl, rfl⟩ | exact ⟨rfl, LeL.refl _⟩ | exact Le.refl _ | exact List.Sublist.refl _ | (show Le (AV.i _) (AV.i _); rw [List.length_map]; exact Le.refl _) | refine And.intro ?_ ?_))
                · have hee : freshN s taken = n' + 1 := freshN_eq hm fun j hj => g3 j (by omega)
                  refine ⟨[stsX taken, .str (freshK s (n' + 1))], ⟨Le.refl _, le_of_eq (congrArg AV.str hke), trivial⟩, (has_con taken (freshK s (n' + 1))).as (decide_eq_false hm) _ _ ?_⟩
                  intro hz1 hz2; clear hz1 hz2
                  refine ⟨hreq, ?_⟩
                  exact ⟨.str (freshK s (n' + 1)), H, le_of_eq (congrArg AV.str hke), List.Sublist.refl _, by rw [← hee]; exact hq⟩
              · rw [List.length_append, List.length_singleton] at hf
                have hrl : (r ++ [(46 : UInt8)]).length = r.length + 1 := by rw [List.length_append, List.length_singleton]
                refine ifB_t (show (0 : Int) < ((r ++ [(46 : UInt8)]).length : Nat) by rw [hrl]; omega) ?_
                refine ⟨in64_of (by rw [hrl]; omega) (by rw [hrl]; omega), ?_⟩
                refine ⟨r.length, (by rw [hrl]; omega), 46, (by simp), ?_⟩
                refine ⟨in64_of (by rw [hrl]; omega) (by rw [hrl]; omega), ?_⟩
                refine ⟨r.length, (by rw [hrl]; omega), ⟨Nat.zero_le _, by rw [hrl]; omega⟩, ?_⟩
                refine ⟨r, ⟨by omega, by rw [← htr, trim_dot]⟩, by (try dsimp only); rw [hrl]; omega, ?_⟩
                exact ⟨⟨Le.refl _, Le.refl _, Le.refl _, Le.refl _, Le.refl _, le_of_eq (congrArg AV.str (show ((r ++ [(46 : UInt8)]).drop 0).take (r.length - 0) = r by rw [List.drop_zero, Nat.sub_zero, List.take_left' rfl])), trivial⟩, trivial, List.Sublist.refl _⟩
              · rw [trim_other hc] at hk
                have hrl : (r ++ [c]).length = r.length + 1 := by rw [List.length_append, List.length_singleton]
                rw [hrl] at hf
                have hcn : ¬ (c.toNat : Int) = 46 := fun h => hc (u8_eq (b := 46) h)
                refine ifB_t (show (0 : Int) < ((r ++ [c]).length : Nat) by rw [hrl]; omega) ?_
                refine ⟨in64_of (by rw [hrl]; omega) (by rw [hrl]; omega), ?_⟩
                refine ⟨r.length, (by rw [hrl]; omega), c, (by simp), ?_⟩
                refine ifB_f hcn ?_
                have hke : (r ++ [c]) ++ tailB (n' + 1) = freshK s (n' + 1) := hk.symm
                have hreq : (r ++ [c]).length + (tailB (n' + 1)).length ≤ 1125899906842624 := by rw [htl, hrl]; omega
                refine ⟨hreq, ?_⟩
                by_cases hm : freshK s (n' + 1) ∈ taken
                · have hne : n' + 1 < freshN s taken := by
                    rcases Nat.lt_or_eq_of_le hn2 with h | h
                    · exact h
                    · rw [h] at hm; exact absurd hm g2
                  refine ⟨[stsX taken, .str (freshK s (n' + 1))], ⟨Le.refl _, le_of_eq (congrArg AV.str hke), trivial⟩, (has_con taken (freshK s (n' + 1))).as (decide_eq_true hm) _ _ ?_⟩
                  intro hz1 hz2; clear hz1 hz2
                  refine ⟨in64_of (by first | omega | (dsimp only; omega)) (by first | omega | (dsimp only; omega)), ?_⟩
                  refine ⟨n' + 1 + 1, ⟨by omega, by omega⟩, by (try dsimp only); omega, ?_⟩
                  (constructor <;> repeat' (first | exact trivial | exact ⟨rfl, rfl⟩ | exact ⟨rfl, LeL.refl _⟩ | exact Le.refl _ | exact List.Sublist.refl _ | (show Le (AV.i _) (AV.i _); rw [List.length_map]; exact Le.refl _) | refine And.intro ?_ ?_))
                · have hee : freshN s taken = n' + 1 := freshN_eq hm fun j hj => g3 j (by omega)
                  refine ⟨[stsX taken, .str (freshK s (n' + 1))], ⟨Le.refl _, le_of_eq (congrArg AV.str hke), trivial⟩, (has_con taken (freshK s (n' + 1))).as (decide_eq_false hm) _ _ ?_⟩
                  intro hz1 hz2; clear hz1 hz2
                  refine ⟨hreq, ?_⟩
                  exact ⟨.str (freshK s (n' + 1)), H, le_of_eq (congrArg AV.str hke), List.Sublist.refl _, by rw [← hee]; exact hq⟩
          · have h2' : ¬ 40 < s.length + ((decB (n' + 1)).length + 1) := by
              have : ¬ (40 : Int) < (s.length : Int) + (((decB (n' + 1)).length + 1 : Nat) : Int) := h2
              omega
            have hms : min s.length (40 - (tailB (n' + 1)).length) = s.length := by omega
            rw [hms, frontB, if_neg (by rw [List.take_length]; omega), List.take_length] at hk
            have hke : s ++ tailB (n' + 1) = freshK s (n' + 1) := hk.symm
            have hreq : s.length + (tailB (n' + 1)).length ≤ 1125899906842624 := by rw [htl]; omega
            refine ⟨hreq, ?_⟩
            by_cases hm : freshK s (n' + 1) ∈ taken
            · have hne : n' + 1 < freshN s taken := by
                rcases Nat.lt_or_eq_of_le hn2 with h | h
                · exact h
                · rw [h] at hm; exact absurd hm g2
              refine ⟨[stsX taken, .str (freshK s (n' + 1))], ⟨Le.refl _, le_of_eq (congrArg AV.str hke), trivial⟩, (has_con taken (freshK s (n' + 1))).as (decide_eq_true hm) _ _ ?_⟩
              intro hz1 hz2; clear hz1 hz2
              refine ⟨in64_of (by first | omega | (dsimp only; omega)) (by first | omega | (dsimp only; omega)), ?_⟩
              refine ⟨n' + 1 + 1, ⟨by omega, by omega⟩, by (try dsimp only); omega, ?_⟩
              (constructor <;> repeat' (first | exact trivial | exact ⟨rfl, rfl⟩ | exact ⟨rfl, LeL.refl _⟩ | exact Le.refl _ | exact List.Sublist.refl _ | (show Le (AV.i _) (AV.i _); rw [List.length_map]; exact Le.refl _) | refine And.intro ?_ ?_))
            · have hee : freshN s taken = n' + 1 := freshN_eq hm fun j hj => g3 j (by omega)
              refine ⟨[stsX taken, .str (freshK s (n' + 1))], ⟨Le.refl _, le_of_eq (congrArg AV.str hke), trivial⟩, (has_con taken (freshK s (n' + 1))).as (decide_eq_false hm) _ _ ?_⟩
              intro hz1 hz2; clear hz1 hz2
              refine ⟨hreq, ?_⟩
              exact ⟨.str (freshK s (n' + 1)), H, le_of_eq (congrArg AV.str hke), List.Sublist.refl _, by rw [← hee]; exact hq⟩
        · exact absurd h1 (by omega)
    · have h0 : freshN s taken = 0 := freshN_eq (k := 0) hs fun j hj => absurd hj (Nat.not_lt_zero _)
      refine con_of_awp (esc := fun _ => false) tab_ok mixed Tryz.func25 rfl (ent Tryz.func25 (by kernel_rfl) rfl) (by kernel_rfl) ?_
      intro hw hn
      clear hw hn
      refine ⟨_, LeL.refl _, (ref01Right_con s).as hok _ _ ?_⟩
      intro hz1 hz2; clear hz1 hz2
      refine ⟨_, LeL.refl _, (has_con taken s).as (decide_eq_false hs) _ _ ?_⟩
      intro hz1 hz2; clear hz1 hz2
      exact ⟨.str s, H, Le.refl _, List.Sublist.refl _, by rw [h0] at hq; exact hq⟩
/-! Sort -/
set_option maxRecDepth 100000 in
set_option maxHeartbeats 1000000 in
theorem rSort_con (l : List (List UInt8)) (hl : l.length ≤ 1000000) : Ans Tryz.prog 27 [stsX l] (stsX (nmSort l)) := by
  intro H Q hq
  have hll : (l.map AV.str).length = l.length := List.length_map _
  refine con_of_awp (esc := fun _ => false) tab_ok mixed Tryz.func27 rfl (ent Tryz.func27 (by kernel_rfl) rfl) (by kernel_rfl) ?_
  intro hw hn
  clear hw hn
  refine ⟨Nat × List (List UInt8), fun x => ⟨[(0, .g (stsX l)), (2, .g (.sl .full 0 [])), (3, .g (stsX x.2)), (4, .g (.i x.1))], [], H⟩, fun x => x.1 ≤ l.length ∧ PutIn l x.1 x.2, fun x => l.length - x.1, ⟨(0, []), ⟨Nat.zero_le _, putIn_zero l⟩, ?_⟩, ?_⟩
  · exact ⟨⟨Le.refl _, Le.refl _, Le.own _ _ _, Le.refl _, trivial⟩, trivial, List.Sublist.refl _⟩
  · rintro ⟨i, out⟩ ⟨hi, hp⟩
    simp only at hi hp
    have hol : out.length ≤ i := hp.2.1
    have hom : (out.map AV.str).length = out.length := List.length_map _
    refine ifB_dec (fun h1 => ?_) (fun h1 => ?_)
    · have hlt : i < l.length := by omega
      refine ⟨Nat, fun k => ⟨[(0, .g (stsX l)), (2, .g (.sl .full 0 [])), (3, .g (stsX out)), (4, .g (.i i)), (5, .g (.i k))], [], H⟩, fun k => k ≤ out.length ∧ ∀ j (hj : j < out.length), j < k → out[j] < l[i], fun k => out.length - k, ⟨0, ⟨Nat.zero_le _, fun j _ h => absurd h (Nat.not_lt_zero _)⟩, ?_⟩, ?_⟩
      · (constructor <;> repeat' (first | exact trivial | exact ⟨rfl, rfl⟩ | exact ⟨rfl, LeL.refl _⟩ | exact Le.refl _ | exact List.Sublist.refl _ | (show Le (AV.i _) (AV.i _); rw [List.length_map]; exact Le.refl _) | refine And.intro ?_ ?_))
      · rintro k ⟨hk, hlow⟩
        have hcut : ((out.map AV.str).drop k).take ((out.map AV.str).length - k) = (out.drop k).map AV.str := by
          rw [← List.map_drop, hom, List.take_of_length_le]
          rw [List.length_map, List.length_drop]
          omega
        have htake : ((out.map AV.str).drop 0).take (k - 0) = (out.take k).map AV.str := by rw [List.drop_zero, Nat.sub_zero, List.map_take]
        refine ⟨[0, 1, 2, 3, 4, 5, 6, 7, 8, 9, 10, 11, 12, 13, 14], [], by kernel_rfl, by simp, ?_⟩
        refine ifB_dec (fun g1 => ?_) (fun g1 => ?_)
        · have hlt2 : k < out.length := by omega
          refine ⟨k, rfl, _, stAt hlt2, i, rfl, _, stAt hlt, ?_⟩
          refine ifB_less (fun g2 => ?_) (fun g2 => ?_)
          · refine ⟨in64_of (by first | omega | (dsimp only; omega)) (by first | omega | (dsimp only; omega)), ?_⟩
            refine ⟨k + 1, ⟨by omega, fun j hj hjk => ?_⟩, by (try dsimp only); omega, ?_⟩
            · rcases Nat.lt_or_eq_of_le (Nat.le_of_lt_succ hjk) with h | h
              · exact hlow j hj h
              · subst h; exact g2
            · (constructor <;> repeat' (first | exact trivial | exact ⟨rfl, rfl⟩ | exact ⟨rfl, LeL.refl _⟩ | exact Le.refl _ | exact List.Sublist.refl _ | (show Le (AV.i _) (AV.i _); rw [List.length_map]; exact Le.refl _) | refine And.intro ?_ ?_))
          · refine ⟨[0, 1, 2, 3, 4, 5, 6, 7, 8, 9, 10, 11, 12, 13, 14], [], by kernel_rfl, by simp, ?_⟩
            refine ifB_t g1 ?_
            refine ⟨k, rfl, _, stAt hlt2, i, rfl, _, stAt hlt, ?_⟩
            refine ifB_dec (fun g3 => ?_) (fun g3 => ?_)
            · refine ⟨in64_of (by first | omega | (dsimp only; omega)) (by first | omega | (dsimp only; omega)), ?_⟩
              refine ⟨(i + 1, out), ⟨by simp only; omega, putIn_old hp hlt hlt2 g3⟩, by (try dsimp only); omega, ?_⟩
              (constructor <;> repeat' (first | exact trivial | exact ⟨rfl, rfl⟩ | exact ⟨rfl, LeL.refl _⟩ | exact Le.refl _ | exact List.Sublist.refl _ | (show Le (AV.i _) (AV.i _); rw [List.length_map]; exact Le.refl _) | refine And.intro ?_ ?_))
            · have hcond : ∀ hk : k < out.length, ¬ out[k] < l[i] ∧ out[k] ≠ l[i] := fun _ => ⟨g2, g3⟩
              refine ⟨k, rfl, (by omega), ?_⟩
              refine ⟨(by rw [hcut]; simp only [List.length_map, List.length_drop, List.length_nil]; show _ * (16 + 1) ≤ _; omega), ?_⟩
              cases hr : (out.drop k).map AV.str with
              | nil =>
                refine ifNil_of (hcut.trans hr) ?_
                refine ⟨[0, 1, 2, 3, 4, 5, 6, 7, 8, 10, 9, 11, 12], [], by kernel_rfl, by simp, ?_⟩
                refine ⟨k, rfl, ⟨Nat.zero_le _, by omega⟩, k, rfl, rfl, ?_⟩
                refine ⟨i, rfl, _, stAt hlt, ?_⟩
                refine ⟨(by rw [htake]; simp only [List.length_map, List.length_take, List.length_cons, List.length_nil]; show _ * (16 + 1) ≤ _; omega), fun c hc => ?_⟩
                refine ⟨(by rw [htake]; simp only [List.length_append, List.length_map, List.length_take, List.length_cons, List.length_nil]; show _ * (16 + 1) ≤ _; omega), ?_⟩
                refine ⟨in64_of (by first | omega | (dsimp only; omega)) (by first | omega | (dsimp only; omega)), ?_⟩
                refine ⟨(i + 1, out.take k ++ l[i] :: out.drop k), ⟨by simp only; omega, putIn_new hp hlt hk hlow hcond⟩, by (try dsimp only); omega, ?_⟩
                refine ⟨⟨Le.refl _, Le.refl _, Le.trans (Le.own _ _ _) (le_of_eq ?_), Le.refl _, trivial⟩, trivial, List.Sublist.cons _ (List.Sublist.refl _)⟩
                have hr' : out.drop k = [] := by simpa using hr
                show AV.sl .no 1 (((out.map AV.str).drop 0).take (k - 0) ++ [AV.str l[i]]) = AV.sl .no 1 ((out.take k ++ l[i] :: out.drop k).map AV.str)
                rw [htake, hr', List.map_append]
                rfl
              | cons x r =>
                refine ifNil_of (hcut.trans hr) ?_
                intro c' hc'
                refine ⟨[0, 1, 2, 3, 4, 5, 6, 7, 8, 10, 9, 11, 12], [], by kernel_rfl, by simp, ?_⟩
                refine ⟨k, rfl, ⟨Nat.zero_le _, by omega⟩, k, rfl, rfl, ?_⟩
                refine ⟨i, rfl, _, stAt hlt, ?_⟩
                refine ⟨(by rw [htake]; simp only [List.length_map, List.length_take, List.length_cons, List.length_nil]; show _ * (16 + 1) ≤ _; omega), fun c hc => ?_⟩
                refine ⟨(by rw [htake, hcut]; simp only [List.length_append, List.length_map, List.length_take, List.length_drop, List.length_cons, List.length_nil]; show _ * (16 + 1) ≤ _; omega), ?_⟩
                refine ifNil_of (hcut.trans hr) ?_
                refine ⟨_, .here, fun c2 hc2 => ?_⟩
                refine ⟨in64_of (by first | omega | (dsimp only; omega)) (by first | omega | (dsimp only; omega)), ?_⟩
                refine ⟨(i + 1, out.take k ++ l[i] :: out.drop k), ⟨by simp only; omega, putIn_new hp hlt hk hlow hcond⟩, by (try dsimp only); omega, ?_⟩
                refine ⟨⟨Le.refl _, Le.refl _, Le.trans (Le.own _ _ _) (le_of_eq ?_), Le.refl _, trivial⟩, trivial, List.Sublist.cons _ (List.Sublist.cons _ (List.Sublist.refl _))⟩
                show AV.sl .no 1 ((((out.map AV.str).drop 0).take (k - 0) ++ [AV.str l[i]]) ++ ([] ++ ((out.map AV.str).drop k).take ((out.map AV.str).length - k))) = AV.sl .no 1 ((out.take k ++ l[i] :: out.drop k).map AV.str)
                rw [htake, hcut, List.map_append, List.append_assoc]
                rfl
        · have hke : k = out.length := by omega
          have hcond : ∀ hk : k < out.length, ¬ out[k] < l[i] ∧ out[k] ≠ l[i] := fun h => absurd h (by omega)
          refine ⟨[0, 1, 2, 3, 4, 5, 6, 7, 8, 9, 10, 11, 12, 13, 14], [], by kernel_rfl, by simp, ?_⟩
          refine ifB_f g1 ?_
          refine ⟨k, rfl, (by omega), ?_⟩
          refine ⟨(by rw [hcut]; simp only [List.length_map, List.length_drop, List.length_nil]; show _ * (16 + 1) ≤ _; omega), ?_⟩
          cases hr : (out.drop k).map AV.str with
          | nil =>
            refine ifNil_of (hcut.trans hr) ?_
            refine ⟨[0, 1, 2, 3, 4, 5, 6, 7, 8, 10, 9, 11, 12], [], by kernel_rfl, by simp, ?_⟩
            refine ⟨k, rfl, ⟨Nat.zero_le _, by omega⟩, k, rfl, rfl, ?_⟩
            refine ⟨i, rfl, _, stAt hlt, ?_⟩
            refine ⟨(by rw [htake]; simp only [List.length_map, List.length_take, List.length_cons, List.length_nil]; show _ * (16 + 1) ≤ _; omega), fun c hc => ?_⟩
            refine ⟨(by rw [htake]; simp only [List.length_append, List.length_map, List.length_take, List.length_cons, List.length_nil]; show _ * (16 + 1) ≤ _; omega), ?_⟩
            refine ⟨in64_of (by first | omega | (dsimp only; omega)) (by first | omega | (dsimp only; omega)), ?_⟩
            refine ⟨(i + 1, out.take k ++ l[i] :: out.drop k), ⟨by simp only; omega, putIn_new hp hlt hk hlow hcond⟩, by (try dsimp only); omega, ?_⟩
            refine ⟨⟨Le.refl _, Le.refl _, Le.trans (Le.own _ _ _) (le_of_eq ?_), Le.refl _, trivial⟩, trivial, List.Sublist.cons _ (List.Sublist.refl _)⟩
            have hr' : out.drop k = [] := by simpa using hr
            show AV.sl .no 1 (((out.map AV.str).drop 0).take (k - 0) ++ [AV.str l[i]]) = AV.sl .no 1 ((out.take k ++ l[i] :: out.drop k).map AV.str)
            rw [htake, hr', List.map_append]
            rfl
          | cons x r =>
            refine ifNil_of (hcut.trans hr) ?_
            intro c' hc'
            refine ⟨[0, 1, 2, 3, 4, 5, 6, 7, 8, 10, 9, 11, 12], [], by kernel_rfl, by simp, ?_⟩
            refine ⟨k, rfl, ⟨Nat.zero_le _, by omega⟩, k, rfl, rfl, ?_⟩
            refine ⟨i, rfl, _, stAt hlt, ?_⟩
            refine ⟨(by rw [htake]; simp only [List.length_map, List.length_take, List.length_cons, List.length_nil]; show _ * (16 + 1) ≤ _; omega), fun c hc => ?_⟩
            refine ⟨(by rw [htake, hcut]; simp only [List.length_append, List.length_map, List.length_take, List.length_drop, List.length_cons, List.length_nil]; show _ * (16 + 1) ≤ _; omega), ?_⟩
            refine ifNil_of (hcut.trans hr) ?_
            refine ⟨_, .here, fun c2 hc2 => ?_⟩
            refine ⟨in64_of (by first | omega | (dsimp only; omega)) (by first | omega | (dsimp only; omega)), ?_⟩
            refine ⟨(i + 1, out.take k ++ l[i] :: out.drop k), ⟨by simp only; omega, putIn_new hp hlt hk hlow hcond⟩, by (try dsimp only); omega, ?_⟩
            refine ⟨⟨Le.refl _, Le.refl _, Le.trans (Le.own _ _ _) (le_of_eq ?_), Le.refl _, trivial⟩, trivial, List.Sublist.cons _ (List.Sublist.cons _ (List.Sublist.refl _))⟩
            show AV.sl .no 1 ((((out.map AV.str).drop 0).take (k - 0) ++ [AV.str l[i]]) ++ ([] ++ ((out.map AV.str).drop k).take ((out.map AV.str).length - k))) = AV.sl .no 1 ((out.take k ++ l[i] :: out.drop k).map AV.str)
            rw [htake, hcut, List.map_append, List.append_assoc]
            rfl
    · have hie : i = l.length := by omega
      subst hie
      exact ⟨_, H, le_of_eq (by show stsX out = stsX _; rw [putIn_end hp]), List.Sublist.refl _, hq⟩
end Go.Proofs.YtpjolipkmemcoaaGreatDoor

/-
  Law 01: Lengths, CopyTexts, what is alive. No condition.
-/
namespace Go.Proofs.YtpjolipkmemcoaaGreatDoor
open Go.RowKit

set_option maxRecDepth 100000 in
theorem Lengths2000_con (ss : List (List UInt8)) (H : Heap) (Q : AV → Heap → Prop) (hq : ∀ n : Int, (n ≤ 2000 → ss.length ≤ 2000) → Q (.i n) H) : Con Tryz.prog 9 [stsX ss, .i 2000] H Q := by
  refine con_of_awp (esc := fun _ => false) tab_ok mixed Tryz.func9 rfl (ent Tryz.func9 (by kernel_rfl) rfl) (by kernel_rfl) ?_
  intro hw hn
  have hlen : ss.length ≤ 9223372036854775807 := (hw (stsX ss) (by simp)).sts
  have hl : ∀ k (hk : k < ss.length), ss[k].length ≤ 1125899906842624 := fun k hk => by
    have := (hw (stsX ss) (by simp)).elem (x := .str ss[k]) (List.mem_map.2 ⟨_, List.getElem_mem hk, rfl⟩) (.str ss[k]) (by simp [AV.cells])
    exact this.str
  clear hw hn
  refine ifB_dec (fun h1 => ?_) (fun h1 => ?_)
  · refine ⟨in64_of (by first | omega | (dsimp only; omega)) (by first | omega | (dsimp only; omega)), ?_⟩
    exact ⟨_, H, Le.refl _, List.Sublist.refl _, hq _ fun h => by omega⟩
  · simp only [List.length_map] at h1
    refine ⟨Nat × Int, fun p => ⟨[(0, .g (stsX ss)), (1, .g (.i 2000)), (4, .g (.i 0)), (5, .g (.i p.2)), (6, .g (.i p.1))], [], H⟩, fun p => p.1 ≤ ss.length ∧ 0 ≤ p.2 ∧ p.2 ≤ 1125899906845624, fun p => ss.length - p.1, ⟨(0, 0), ⟨Nat.zero_le _, by decide, by decide⟩, ?_⟩, ?_⟩
    · (constructor <;> repeat' (first | exact trivial | exact ⟨rfl, rfl⟩ | exact ⟨rfl, LeL.refl _⟩ | exact Le.refl _ | exact List.Sublist.refl _ | (show Le (AV.i _) (AV.i _); rw [List.length_map]; exact Le.refl _) | refine And.intro ?_ ?_))
    · rintro ⟨j, n⟩ ⟨hj, hn0, hn1⟩
      simp only at hj hn0 hn1
      refine ifB_dec (fun h2 => ?_) (fun h2 => ?_)
      · simp only [List.length_map] at h2
        have hlt : j < ss.length := by omega
        refine ifB_dec (fun h3 => ?_) (fun h3 => ?_)
        · simp only at h3
          have := hl j hlt
          refine ⟨j, rfl, _, stAt hlt, ?_⟩
          refine ⟨in64_of (by first | omega | (dsimp only; omega)) (by first | omega | (dsimp only; omega)), ?_⟩
          refine ⟨in64_of (by first | omega | (dsimp only; omega)) (by first | omega | (dsimp only; omega)), ?_⟩
          refine ⟨in64_of (by first | omega | (dsimp only; omega)) (by first | omega | (dsimp only; omega)), ?_⟩
          refine ⟨(j + 1, n + (1 + ss[j].length)), ⟨by simp only; omega, by simp only; omega, by simp only; omega⟩, by (try dsimp only); omega, ?_⟩
          (constructor <;> repeat' (first | exact trivial | exact ⟨rfl, rfl⟩ | exact ⟨rfl, LeL.refl _⟩ | exact Le.refl _ | exact List.Sublist.refl _ | (show Le (AV.i _) (AV.i _); rw [List.length_map]; exact Le.refl _) | refine And.intro ?_ ?_))
        · exact ⟨_, H, Le.refl _, List.Sublist.refl _, hq _ fun _ => by omega⟩
      · exact ⟨_, H, Le.refl _, List.Sublist.refl _, hq _ fun _ => by omega⟩
set_option maxRecDepth 100000 in
theorem CopyTexts_con (o : Own) (ss : List (List UInt8)) (hl : ss.length ≤ 1000000) (H : Heap) (Q : AV → Heap → Prop) (hq : ∀ q : Option Cap, Q (.sl (ownQ q) 1 (ss.map .str)) (bufH q H)) : Con Tryz.prog 10 [.sl o 1 (ss.map .str)] H Q := by
  have hsl : (ss.map AV.str).length = ss.length := List.length_map _
  cases ss with
  | nil =>
    refine con_of_awp (esc := fun _ => false) tab_ok mixed Tryz.func10 rfl (ent Tryz.func10 (by kernel_rfl) rfl) (by kernel_rfl) ?_
    intro hw hn
    refine ⟨by decide, ?_⟩
    exact ⟨_, H, Le.refl _, List.Sublist.refl _, hq none⟩
  | cons s r =>
    refine con_of_awp (esc := fun _ => false) tab_ok mixed Tryz.func10 rfl (ent Tryz.func10 (by kernel_rfl) rfl) (by kernel_rfl) ?_
    intro hw hn
    refine ⟨(by rw [hsl]; show (0 + _) * (16 + 1) ≤ 140737488355328; omega), fun c hc => ?_⟩
    exact ⟨_, _, Le.refl _, List.Sublist.refl _, hq (some c)⟩
abbrev joinV (p : List UInt8 × Bool) : AV := .tup [.str p.1, .b p.2]
set_option maxRecDepth 100000 in
set_option maxHeartbeats 2000000 in
theorem alive1_con : Ans Tryz.prog 8 [] (.b true) := by
  intro H Q hq
  refine con_of_awp (esc := fun _ => false) tab_ok mixed Tryz.func8 rfl (ent Tryz.func8 (by kernel_rfl) rfl) (by kernel_rfl) ?_
  intro hw hn
  clear hw hn
  refine ⟨_, LeL.refl _, (Join_con .full [bNat, bAdd] (by decide)).to (congrArg joinV na_join) _ _ ?_⟩
  intro hz1 hz2; clear hz1 hz2
  refine ⟨_, LeL.refl _, (Join_con .full [bNat, bThr] (by decide)).to (congrArg joinV n3_join) _ _ ?_⟩
  intro hz1 hz2; clear hz1 hz2
  try (refine ifB_t rfl ?_)
  refine ⟨_, LeL.refl _, (Parts_con bNA).to (congrArg stsX na_parts) _ _ ?_⟩
  intro hz1 hz2; clear hz1 hz2
  refine ⟨[stsX [bNat, bAdd], stsX [bNat, bAdd]], ⟨Le.refl _, Le.own _ _ _, trivial⟩, (SameTexts_con _ _).as (decide_eq_true rfl) _ _ ?_⟩
  intro hz1 hz2; clear hz1 hz2
  refine ⟨_, LeL.refl _, (Parent_con bNA).to (congrArg AV.str na_parent) _ _ ?_⟩
  intro hz1 hz2; clear hz1 hz2
  try (refine ifB_t rfl ?_)
  refine ⟨_, LeL.refl _, (Last_con bNA).to (congrArg AV.str na_last) _ _ ?_⟩
  intro hz1 hz2; clear hz1 hz2
  try (refine ifB_t rfl ?_)
  refine ⟨_, LeL.refl _, (Under_con bNA bNat).as na_under _ _ ?_⟩
  intro hz1 hz2; clear hz1 hz2
  refine ⟨_, LeL.refl _, (Under_con bNation bNat).as na_not _ _ ?_⟩
  intro hz1 hz2; clear hz1 hz2
  refine ⟨_, LeL.refl _, (Fresh_con .full bX [bX, bX1] (by decide)).to (congrArg AV.str x_fresh) _ _ ?_⟩
  intro hz1 hz2; clear hz1 hz2
  try (refine ifB_t rfl ?_)
  refine ⟨_, LeL.refl _, (nameRight_con [97, 95, 49]).as (show nameOk [97, 95, 49] = true by decide) _ _ ?_⟩
  intro hz1 hz2; clear hz1 hz2
  refine ⟨_, LeL.refl _, (nameRight_con [49, 97]).as (show nameOk [49, 97] = false by decide) _ _ ?_⟩
  intro hz1 hz2; clear hz1 hz2
  refine ⟨_, LeL.refl _, (nameSort_con .full [[98], [97], [98]] (by decide)).to (congrArg stsX ba_sort) _ _ ?_⟩
  intro hz1 hz2; clear hz1 hz2
  refine ⟨[stsX [[97], [98]], stsX [[97], [98]]], ⟨Le.refl _, Le.own _ _ _, trivial⟩, (SameTexts_con _ _).as (decide_eq_true rfl) _ _ ?_⟩
  intro hz1 hz2; clear hz1 hz2
  exact ⟨_, H, Le.refl _, List.Sublist.refl _, hq⟩
end Go.Proofs.YtpjolipkmemcoaaGreatDoor
