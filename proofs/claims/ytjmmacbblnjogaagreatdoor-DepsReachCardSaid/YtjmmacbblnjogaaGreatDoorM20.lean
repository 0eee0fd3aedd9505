/-
  Texts put together: V10, V11, V12. No condition.
-/
import Derived.Test.YtjmmacbblnjogaaGreatDoorM19
/-
  Law 09's walks: DepsFirst, DepsNeeds. No condition.
-/
namespace Go.Proofs.YtjmmacbblnjogaaGreatDoor
open Go.RowKit

mutual
/-- a right term's constants have right names -/
theorem has_ok {p : Int} {c : List UInt8} : ∀ (t : Tm) (v : Int), tmFit p t v = true → tmHas c t = true → nameOk c = true
  | .mk k n nm ls xs, v, h, hh => by
    rw [tmHas, Bool.or_eq_true] at hh
    rcases hh with hh | hh
    · obtain ⟨h1, h2⟩ := of_decide_eq_true hh
      subst h2
      exact (fit_const h h1).2.1
    · exact hasL_ok k xs 0 v (fit_args h) hh
theorem hasL_ok {p : Int} {c : List UInt8} (k : Int) : ∀ (ts : List Tm) (i : Nat) (v : Int), tmFitL p k ts i v = true → tmHasL c ts = true → nameOk c = true
  | [], _, _, _, hh => by rw [tmHasL] at hh; cases hh
  | t :: ts, i, v, h, hh => by
    obtain ⟨h1, h2⟩ := fitL_cons h
    rw [tmHasL, Bool.or_eq_true] at hh
    rcases hh with hh | hh
    · exact has_ok t _ h1 hh
    · exact hasL_ok k ts (i + 1) v h2 hh
end
theorem consts_ne {t : Tm} {s : List UInt8} (h : s ∈ tmConsts t) : s ≠ [] := by
  unfold tmConsts at h
  split at h
  · rename_i hr
    rw [nmSort_mem, ← has_subs] at h
    unfold tmRight at hr
    simp only [Bool.and_eq_true, decide_eq_true_eq] at hr
    have := has_ok t _ hr.2 h
    rintro rfl
    exact absurd this (by decide)
  · cases h
theorem needs_ne {d : Dc} {s : List UInt8} (h : s ∈ dNeeds d) : s ≠ [] := by
  have h1 := (dNeeds_mem.1 h).1
  unfold dAll at h1
  rcases List.mem_append.1 h1 with h1 | h1
  · rcases List.mem_append.1 h1 with h1 | h1
    · exact consts_ne h1
    · exact consts_ne h1
  · obtain ⟨l, hl, hs⟩ := List.mem_flatten.1 h1
    obtain ⟨c, _, rfl⟩ := List.mem_map.1 hl
    exact consts_ne hs
set_option maxRecDepth 100000 in
set_option maxHeartbeats 2000000 in
theorem depsFirst_con (list : List Dc) (known : List (List UInt8)) : Ans Tryz.prog 8 [.sl .no 15 (list.map dcX), stsX known] (.b true) := by
  intro H Q hq
  have hll : (list.map dcX).length = list.length := List.length_map _
  have fin : ∃ r H', Le (.b true) r ∧ List.Sublist H' H ∧ Q r H' := ⟨_, H, Le.refl _, List.Sublist.refl _, hq⟩
  obtain ⟨⟨a, s, ok⟩, h1⟩ : ∃ p, dFirst list known 0 = p := ⟨_, rfl⟩
  obtain ⟨⟨k, t, again⟩, h2⟩ : ∃ p, dFirst list (known ++ [s]) 0 = p := ⟨_, rfl⟩
  refine con_of_sem tab_ok Tryz.func8 rfl (ent Tryz.func8 (by kernel_rfl) rfl) (by kernel_rfl) ?_
  intro hw hn
  clear hw hn
  refine sem_seq (esc := fun _ => false) tab_ok mixed ?_
  refine sem_seq (esc := fun _ => false) tab_ok mixed ?_
  refine ⟨_, LeL.refl _, alive9_con _ _ ?_⟩
  intro hz1 hz2; clear hz1 hz2
  refine sem_seq (esc := fun _ => false) tab_ok mixed ?_
  refine ⟨_, LeL.refl _, great9_con .no list _ _ fun g hg => ?_⟩
  intro hz1 hz2; clear hz1 hz2
  cases g with
  | true => exact fin
  | false =>
    obtain ⟨hl20, hc20⟩ := hg rfl
    have hcd : ∀ d ∈ list, d.ctors.length ≤ 100 := fun d hd => Nat.le_trans (hc20 d hd) (by decide)
    refine ⟨_, LeL.refl _, Lengths500_con known _ _ fun n hn5 => ?_⟩
    intro hz1 hz2; clear hz1 hz2
    refine ifB_dec (fun c1 => ?_) (fun c1 => ?_)
    · exact fin
    have hk5 := hn5 (by omega)
    refine sem_seq (esc := fun _ => false) tab_ok mixed ?_
    refine ⟨_, LeL.refl _, (First_con .no .no list known (by omega) (by omega) hcd).to (by rw [h1]) _ _ ?_⟩
    intro hz1 hz2; clear hz1 hz2
    refine sem_le ⟨[(0, .g (.sl .no 15 (list.map dcX))), (1, .g (stsX known)), (4, .g (.b false)), (5, .g (.i a)), (6, .g (.str s)), (7, .g (.b ok))], [], H⟩ ?_ ?_
    · (constructor <;> repeat' (first | exact trivial | exact ⟨rfl, rfl⟩ | exact ⟨rfl, LeL.refl _⟩ | exact Le.refl _ | exact List.Sublist.refl _ | (show Le (AV.i _) (AV.i _); rw [List.length_map]; exact Le.refl _) | refine And.intro ?_ ?_))
    refine sem_seq (esc := fun _ => false) tab_ok mixed ?_
    cases ok with
    | false =>
      obtain ⟨rfl, rfl⟩ := dFirst_no _ _ _ _ _ h1
      exact fin
    | true =>
      obtain ⟨k0, hk0, hak, hs0, hcut⟩ := dFirst_spec _ _ _ _ _ h1
      rw [Nat.zero_add] at hak
      subst hak
      have hsne := needs_ne hs0
      refine sem_seq (esc := fun _ => false) tab_ok mixed ?_
      refine ifB_f (show ¬(((list.map dcX).length : Nat) : Int) ≤ (a : Int) by rw [hll]; omega) ?_
      refine ifB_f hsne ?_
      refine sem_seq (esc := fun _ => false) tab_ok mixed ?_
      refine ⟨a, rfl, ⟨Nat.zero_le _, by omega⟩, ?_⟩
      refine ⟨[.sl .no 15 ((list.take a).map dcX), stsX known], ⟨le_of_eq (by show AV.sl _ _ _ = AV.sl _ _ _; rw [List.drop_zero, Nat.sub_zero, List.map_take]), Le.refl _, trivial⟩, (First_con .no .no (list.take a) known (by rw [List.length_take]; omega) (by omega) fun d hd => hcd d (List.mem_of_mem_take hd)).to (by rw [hcut]) _ _ ?_⟩
      intro hz1 hz2; clear hz1 hz2
      refine sem_le ⟨[(0, .g (.sl .no 15 (list.map dcX))), (1, .g (stsX known)), (4, .g (.b false)), (5, .g (.i a)), (6, .g (.str s)), (10, .g (.b false))], [], H⟩ ?_ ?_
      · (constructor <;> repeat' (first | exact trivial | exact ⟨rfl, rfl⟩ | exact ⟨rfl, LeL.refl _⟩ | exact Le.refl _ | exact List.Sublist.refl _ | (show Le (AV.i _) (AV.i _); rw [List.length_map]; exact Le.refl _) | refine And.intro ?_ ?_))
      refine sem_seq (esc := fun _ => false) tab_ok mixed ?_
      refine ⟨_, LeL.refl _, CopyTexts_con .no known (by omega) _ _ fun q => ?_⟩
      intro hz1 hz2; clear hz1 hz2
      refine ⟨?_, ?_⟩
      · simp only [List.length_map, List.length_cons, List.length_nil]
        try simp only [List.length_take]
        show _ * (16 + 1) ≤ _
        omega
      refine own_of (q := q) (H0 := H) ?_ ?_ ?_ (fun c hc => ?_)
      · exact rfl
      · exact rfl
      · exact fun _ h => h
      refine sem_le ⟨[(0, .g (.sl .no 15 (list.map dcX))), (4, .g (.b false)), (5, .g (.i a)), (6, .g (.str s)), (10, .g (.b false)), (11, .g (stsX (known ++ [s])))], [], H⟩ ?_ ?_
      · refine ⟨⟨Le.refl _, Le.refl _, Le.refl _, Le.refl _, Le.refl _, Le.trans (Le.own _ _ _) (le_of_eq (by show AV.sl _ _ _ = AV.sl _ _ _; rw [List.map_append]; rfl)), trivial⟩, trivial, List.sublist_cons_self _ _⟩
      refine sem_seq (esc := fun _ => false) tab_ok mixed ?_
      refine ⟨_, LeL.refl _, (First_con .no .no list (known ++ [s]) (by omega) (by rw [List.length_append]; simp only [List.length_cons, List.length_nil]; omega) hcd).to (by rw [h2]) _ _ ?_⟩
      intro hz1 hz2; clear hz1 hz2
      refine sem_le ⟨[(4, .g (.b false)), (5, .g (.i a)), (6, .g (.str s)), (10, .g (.b false)), (12, .g (.i k)), (13, .g (.str t)), (14, .g (.b again))], [], H⟩ ?_ ?_
      · (constructor <;> repeat' (first | exact trivial | exact ⟨rfl, rfl⟩ | exact ⟨rfl, LeL.refl _⟩ | exact Le.refl _ | exact List.Sublist.refl _ | (show Le (AV.i _) (AV.i _); rw [List.length_map]; exact Le.refl _) | refine And.intro ?_ ?_))
      refine sem_of (esc := fun _ => false) tab_ok mixed ?_
      cases again with
      | false => exact fin
      | true =>
        have hm := dFirst_more _ _ _ _ _ _ _ _ h1 (fun x hx => List.mem_append.2 (Or.inl hx)) (by simp) h2
        refine ifB_dec (fun e1 => ?_) (fun e1 => ?_)
        · exact fin
        · have hkk : k = a := by omega
          have hts : t ≠ s := by
            rcases hm with hm | hm
            · omega
            · exact hm.2
          refine ifB_t (show (k : Int) = a by omega) ?_
          refine ifB_f hts ?_
          exact fin
end Go.Proofs.YtjmmacbblnjogaaGreatDoor

/-
  Law 09's walks: DepsNeeds. No condition.
-/
namespace Go.Proofs.YtjmmacbblnjogaaGreatDoor
open Go.RowKit

set_option maxRecDepth 100000 in
set_option maxHeartbeats 2000000 in
theorem depsNeeds_con (d : Dc) : Ans Tryz.prog 10 [dcX d] (.b true) := by
  intro H Q hq
  have fin : ∃ r H', Le (.b true) r ∧ List.Sublist H' H ∧ Q r H' := ⟨_, H, Le.refl _, List.Sublist.refl _, hq⟩
  obtain ⟨ns, hns⟩ : ∃ ns, dNeeds d = ns := ⟨_, rfl⟩
  obtain ⟨nr, hnr⟩ := dNames_cons d
  have hclash : dClash ns (d.name :: nr) = ([], false) := by rw [← hns, ← hnr]; exact clash_own d
  have hown : dFirst [d] ns 0 = (0, [], false) := by rw [← hns]; exact first_own d
  have hless : ∀ i (h : i < ns.length), dFirst [d] (ns.take i ++ ns.drop (i + 1)) 0 = (0, ns[i], true) := by
    subst hns
    exact fun i h => first_less d h
  have hnl := dNeeds_len d
  rw [hns] at hnl
  have hsl := len_strs ns
  refine con_of_sem tab_ok Tryz.func10 rfl (ent Tryz.func10 (by kernel_rfl) rfl) (by kernel_rfl) ?_
  intro hw hn
  clear hw hn
  refine sem_seq (esc := fun _ => false) tab_ok mixed ?_
  refine sem_seq (esc := fun _ => false) tab_ok mixed ?_
  refine ⟨_, LeL.refl _, alive9_con _ _ ?_⟩
  intro hz1 hz2; clear hz1 hz2
  refine sem_seq (esc := fun _ => false) tab_ok mixed ?_
  refine ⟨[.sl .full 15 ([d].map dcX)], ⟨Le.refl _, trivial⟩, great9_con .full [d] _ _ fun g hg => ?_⟩
  intro hz1 hz2; clear hz1 hz2
  cases g with
  | true => exact fin
  | false =>
    have hct : d.ctors.length ≤ 20 := (hg rfl).2 d (by simp)
    have hc1 : ∀ e ∈ [d], e.ctors.length ≤ 100 := fun e he => by
      rw [List.mem_singleton] at he
      subst he
      omega
    have hfirst : ∀ i (h : i < ns.length), Ans Tryz.prog 31 [.sl .full 15 ([d].map dcX), .sl .no 1 ((ns.take i ++ ns.drop (i + 1)).map .str)] (.tup [.i 0, .str ns[i], .b true]) := fun i h =>
      (First_con .full .no [d] (ns.take i ++ ns.drop (i + 1)) (by simp) (by rw [List.length_append, List.length_take, List.length_drop]; omega) hc1).to (by rw [hless i h]; rfl)
    refine sem_seq (esc := fun _ => false) tab_ok mixed ?_
    refine ⟨_, LeL.refl _, (Needs_con d (by omega)).to (congrArg stsX hns) _ _ ?_⟩
    intro hz1 hz2; clear hz1 hz2
    refine sem_seq (esc := fun _ => false) tab_ok mixed ?_
    refine ⟨_, LeL.refl _, (Names_con d (by omega)).to (congrArg stsX hnr) _ _ ?_⟩
    intro hz1 hz2; clear hz1 hz2
    refine sem_seq (esc := fun _ => false) tab_ok mixed ?_
    refine ⟨_, LeL.refl _, (Clash_con .no .no ns (d.name :: nr)).to (by rw [hclash]) _ _ ?_⟩
    intro hz1 hz2; clear hz1 hz2
    refine sem_le ⟨[(1, .lp 1 0), (2, .g (.b false)), (3, .g (stsX ns)), (4, .g (stsX (d.name :: nr))), (6, .g (.b false))], [(1, (dcX d).cells)], H⟩ ?_ ?_
    · (constructor <;> repeat' (first | exact trivial | exact ⟨rfl, rfl⟩ | exact ⟨rfl, LeL.refl _⟩ | exact Le.refl _ | exact List.Sublist.refl _ | (show Le (AV.i _) (AV.i _); rw [List.length_map]; exact Le.refl _) | refine And.intro ?_ ?_))
    refine sem_seq (esc := fun _ => false) tab_ok mixed ?_
    refine ⟨[0, 1, 2, 3, 4, 5, 6, 7, 8, 9, 10, 11, 12, 13], [], by kernel_rfl, by simp, ?_⟩
    refine ⟨0, rfl, _, rfl, ?_⟩
    refine ifB_t rfl ?_
    refine sem_seq (esc := fun _ => false) tab_ok mixed ?_
    refine ⟨[.sl .full 15 ([d].map dcX), stsX ns], LeL.refl _, (First_con .full .no [d] ns (by simp) (by omega) hc1).to (by rw [hown]) _ _ ?_⟩
    intro hz1 hz2; clear hz1 hz2
    refine sem_le ⟨[(1, .lp 1 0), (2, .g (.b false)), (3, .g (stsX ns)), (7, .g (.i 0)), (9, .g (.b false))], [(1, (dcX d).cells)], H⟩ ?_ ?_
    · (constructor <;> repeat' (first | exact trivial | exact ⟨rfl, rfl⟩ | exact ⟨rfl, LeL.refl _⟩ | exact Le.refl _ | exact List.Sublist.refl _ | (show Le (AV.i _) (AV.i _); rw [List.length_map]; exact Le.refl _) | refine And.intro ?_ ?_))
    refine sem_seq (esc := fun _ => false) tab_ok mixed ?_
    refine sem_seq (esc := fun _ => false) tab_ok mixed ?_
    refine ⟨Nat, fun i => ⟨[(1, .lp 1 0), (2, .g (.b false)), (3, .g (stsX ns)), (10, .g (.i i))], [(1, (dcX d).cells)], H⟩, fun i => i ≤ ns.length, fun i => ns.length - i, ⟨0, Nat.zero_le _, ?_⟩, ?_⟩
    · (constructor <;> repeat' (first | exact trivial | exact ⟨rfl, rfl⟩ | exact ⟨rfl, LeL.refl _⟩ | exact Le.refl _ | exact List.Sublist.refl _ | (show Le (AV.i _) (AV.i _); rw [List.length_map]; exact Le.refl _) | refine And.intro ?_ ?_))
    · intro i hi
      refine ifB_dec (fun h1 => ?_) (fun h1 => ?_)
      · have hlt : i < ns.length := by omega
        refine ⟨[0, 1, 2, 4, 5, 6, 7, 3, 8, 9], [], by kernel_rfl, by simp, ?_⟩
        refine ⟨i, rfl, ⟨Nat.zero_le _, by omega⟩, ?_⟩
        refine ⟨in64_of (by first | omega | (dsimp only; omega)) (by first | omega | (dsimp only; omega)), ?_⟩
        refine ⟨i + 1, rfl, (by omega), ?_⟩
        refine ⟨[.sl .no 1 ((ns.take i).map .str)], ⟨le_of_eq (by show AV.sl _ _ _ = AV.sl _ _ _; rw [List.drop_zero, Nat.sub_zero, List.map_take]), trivial⟩, CopyTexts_con .no (ns.take i) (by rw [List.length_take]; omega) _ _ fun q => ?_⟩
        intro hz1 hz2; clear hz1 hz2
        have hX : ((ns.map AV.str).drop (i + 1)).take ((ns.map AV.str).length - (i + 1)) = (ns.drop (i + 1)).map .str := by rw [List.take_of_length_le (by simp), List.map_drop]
        have htl : ((ns.take i).map AV.str).length ≤ ns.length := by rw [List.length_map, List.length_take]; omega
        have hYl : (((ns.map AV.str).drop (i + 1)).take ((ns.map AV.str).length - (i + 1))).length ≤ ns.length := by rw [hX, List.length_map, List.length_drop]; omega
        refine ⟨(by show (_ + _) * (16 + 1) ≤ 140737488355328; omega), ifNil_or (fun hy => ?_) (fun hy => ?_)⟩
        · refine ⟨[.sl .full 15 ([d].map dcX), .sl .no 1 ((ns.take i ++ ns.drop (i + 1)).map .str)], ⟨Le.refl _, Le.trans (Le.own _ _ _) (le_of_eq (by show AV.sl .no 1 ((ns.take i).map .str) = AV.sl .no 1 _; rw [hX] at hy; rw [show ns.drop (i + 1) = [] by simpa using hy, List.append_nil])), trivial⟩, hfirst i hlt _ _ ?_⟩
          intro hz1 hz2; clear hz1 hz2
          refine ⟨i, rfl, _, stAt hlt, ?_⟩
          refine ifB_t rfl ?_
          refine ⟨in64_of (by first | omega | (dsimp only; omega)) (by first | omega | (dsimp only; omega)), ?_⟩
          refine ⟨i + 1, by omega, by (try dsimp only); omega, ?_⟩
          exact ⟨⟨⟨rfl, rfl⟩, Le.refl _, Le.refl _, Le.refl _, trivial⟩, ⟨⟨rfl, LeL.refl _⟩, trivial⟩, bufH_sub q H⟩
        · cases q with
          | none =>
            intro c hcb
            refine ⟨[.sl .full 15 ([d].map dcX), .sl .no 1 ((ns.take i ++ ns.drop (i + 1)).map .str)], ⟨Le.refl _, Le.trans (Le.own _ _ _) (le_of_eq (by show AV.sl .no 1 ((ns.take i).map .str ++ ((ns.map AV.str).drop (i + 1)).take ((ns.map AV.str).length - (i + 1))) = AV.sl .no 1 _; rw [hX, List.map_append])), trivial⟩, hfirst i hlt _ _ ?_⟩
            intro hz1 hz2; clear hz1 hz2
            refine ⟨i, rfl, _, stAt hlt, ?_⟩
            refine ifB_t rfl ?_
            refine ⟨in64_of (by first | omega | (dsimp only; omega)) (by first | omega | (dsimp only; omega)), ?_⟩
            refine ⟨i + 1, by omega, by (try dsimp only); omega, ?_⟩
            exact ⟨⟨⟨rfl, rfl⟩, Le.refl _, Le.refl _, Le.refl _, trivial⟩, ⟨⟨rfl, LeL.refl _⟩, trivial⟩, List.sublist_cons_self _ _⟩
          | some c0 =>
            refine ⟨H, .here, fun c hcb => ?_⟩
            refine ⟨[.sl .full 15 ([d].map dcX), .sl .no 1 ((ns.take i ++ ns.drop (i + 1)).map .str)], ⟨Le.refl _, Le.trans (Le.own _ _ _) (le_of_eq (by show AV.sl .no 1 ((ns.take i).map .str ++ ((ns.map AV.str).drop (i + 1)).take ((ns.map AV.str).length - (i + 1))) = AV.sl .no 1 _; rw [hX, List.map_append])), trivial⟩, hfirst i hlt _ _ ?_⟩
            intro hz1 hz2; clear hz1 hz2
            refine ⟨i, rfl, _, stAt hlt, ?_⟩
            refine ifB_t rfl ?_
            refine ⟨in64_of (by first | omega | (dsimp only; omega)) (by first | omega | (dsimp only; omega)), ?_⟩
            refine ⟨i + 1, by omega, by (try dsimp only); omega, ?_⟩
            exact ⟨⟨⟨rfl, rfl⟩, Le.refl _, Le.refl _, Le.refl _, trivial⟩, ⟨⟨rfl, LeL.refl _⟩, trivial⟩, List.sublist_cons_self _ _⟩
      · refine sem_of (esc := fun _ => false) tab_ok mixed ?_
        exact fin
end Go.Proofs.YtjmmacbblnjogaaGreatDoor

/-
  Law 09's walks: DepsReach. No condition.
-/
namespace Go.Proofs.YtjmmacbblnjogaaGreatDoor
open Go.RowKit

theorem any_snoc {l : List (List UInt8)} {p : List UInt8 → Bool} {k : Nat} (h : k < l.length) : (l.take (k + 1)).any p = ((l.take k).any p || p l[k]) := by
  rw [List.take_succ_eq_append_getElem h, List.any_append]
  simp
theorem allNames_mem {list : List Dc} {n : List UInt8} (h : n ∈ list.flatMap dNames) : ∃ j, ∃ hj : j < list.length, n ∈ dNames list[j] := by
  obtain ⟨d, hd, hn⟩ := List.mem_flatMap.1 h
  obtain ⟨j, hj, rfl⟩ := List.getElem_of_mem hd
  exact ⟨j, hj, hn⟩
set_option maxRecDepth 100000 in
set_option maxHeartbeats 4000000 in
theorem depsReach_con (list : List Dc) (names : List (List UInt8)) : Ans Tryz.prog 9 [.sl .no 15 (list.map dcX), stsX names] (.b true) := by
  intro H Q hq
  have hll : (list.map dcX).length = list.length := List.length_map _
  have fin : ∃ r H', Le (.b true) r ∧ List.Sublist H' H ∧ Q r H' := ⟨_, H, Le.refl _, List.Sublist.refl _, hq⟩
  obtain ⟨r, hr⟩ : ∃ r, dReach list names = r := ⟨_, rfl⟩
  have hagain : dReach list r = r := by rw [← hr]; exact dReach_again list names
  refine con_of_sem tab_ok Tryz.func9 rfl (ent Tryz.func9 (by kernel_rfl) rfl) (by kernel_rfl) ?_
  intro hw hn
  clear hw hn
  refine sem_seq (esc := fun _ => false) tab_ok mixed ?_
  refine sem_seq (esc := fun _ => false) tab_ok mixed ?_
  refine ⟨_, LeL.refl _, alive9_con _ _ ?_⟩
  intro hz1 hz2; clear hz1 hz2
  refine sem_seq (esc := fun _ => false) tab_ok mixed ?_
  refine ⟨_, LeL.refl _, great9_con .no list _ _ fun g hg => ?_⟩
  intro hz1 hz2; clear hz1 hz2
  cases g with
  | true => exact fin
  | false =>
    obtain ⟨hl20, hc20⟩ := hg rfl
    have hcd : ∀ d ∈ list, d.ctors.length ≤ 100 := fun d hd => Nat.le_trans (hc20 d hd) (by decide)
    refine ⟨_, LeL.refl _, Lengths500_con names _ _ fun n hn5 => ?_⟩
    intro hz1 hz2; clear hz1 hz2
    refine ifB_dec (fun c1 => ?_) (fun c1 => ?_)
    · exact fin
    have hk5 := hn5 (by omega)
    have hrl : r.length ≤ 1000000 := by
      have h1 := (dSeen_spec list names).1
      have h2 := h1.1.length_le_of_subset (l₂ := pkeys (prs list)) fun s hs => pkeys_mem.2 (h1.2 s hs)
      have h3 := pkeys_len (prs list)
      have h4 := prs_len hcd
      have h5 : r.length ≤ (dSeen list names).1.length := by
        rw [← hr, dReach, nmSort]
        refine Nat.le_trans (stsOnce_le _) ?_
        rw [stsSort_len]
        exact Nat.le_refl _
      omega
    have hrsl := len_strs r
    refine sem_seq (esc := fun _ => false) tab_ok mixed ?_
    refine ⟨_, LeL.refl _, (Reach_con .no .no list names (by omega) (by omega) hcd).to (congrArg stsX hr) _ _ ?_⟩
    intro hz1 hz2; clear hz1 hz2
    refine sem_le ⟨[(0, .g (.sl .no 15 (list.map dcX))), (4, .g (.b false)), (5, .g (stsX r))], [], H⟩ ?_ ?_
    · (constructor <;> repeat' (first | exact trivial | exact ⟨rfl, rfl⟩ | exact ⟨rfl, LeL.refl _⟩ | exact Le.refl _ | exact List.Sublist.refl _ | (show Le (AV.i _) (AV.i _); rw [List.length_map]; exact Le.refl _) | refine And.intro ?_ ?_))
    refine sem_seq (esc := fun _ => false) tab_ok mixed ?_
    refine ⟨_, LeL.refl _, (Reach_con .no .no list r (by omega) (by omega) hcd).to (congrArg stsX hagain) _ _ ?_⟩
    intro hz1 hz2; clear hz1 hz2
    refine ⟨_, LeL.refl _, (SameTexts_con r r).as (decide_eq_true rfl) _ _ ?_⟩
    intro hz1 hz2; clear hz1 hz2
    refine sem_le ⟨[(0, .g (.sl .no 15 (list.map dcX))), (4, .g (.b false)), (5, .g (stsX r))], [], H⟩ ?_ ?_
    · (constructor <;> repeat' (first | exact trivial | exact ⟨rfl, rfl⟩ | exact ⟨rfl, LeL.refl _⟩ | exact Le.refl _ | exact List.Sublist.refl _ | (show Le (AV.i _) (AV.i _); rw [List.length_map]; exact Le.refl _) | refine And.intro ?_ ?_))
    refine sem_seq (esc := fun _ => false) tab_ok mixed ?_
    refine sem_join (esc := fun _ => false) tab_ok mixed (X := Unit) (fun _ => ⟨[(0, .g (.sl .no 15 (list.map dcX))), (4, .g (.b false)), (5, .g (stsX r)), (6, .g (stsX (list.flatMap dNames)))], [], H⟩) (fun _ => True) ?_ (fun _ _ => ?_)
    · refine ⟨Option Cap × Nat, fun x => ⟨[(0, .g (.sl .no 15 (list.map dcX))), (4, .g (.b false)), (5, .g (stsX r)), (6, .g (.sl (ownQ x.1) 1 (((list.take x.2).flatMap dNames).map .str))), (7, .g (.i x.2))], [], bufH x.1 H⟩, fun x => x.2 ≤ list.length, fun x => list.length - x.2, ⟨(none, 0), Nat.zero_le _, ?_⟩, ?_⟩
      · (constructor <;> repeat' (first | exact trivial | exact ⟨rfl, rfl⟩ | exact ⟨rfl, LeL.refl _⟩ | exact Le.refl _ | exact List.Sublist.refl _ | (show Le (AV.i _) (AV.i _); rw [List.length_map]; exact Le.refl _) | refine And.intro ?_ ?_))
      · rintro ⟨q, k⟩ hk
        simp only at hk
        refine ifB_dec (fun h1 => ?_) (fun h1 => ?_)
        · have hlt : k < list.length := by omega
          obtain ⟨nr, hnr⟩ := dNames_cons list[k]
          have hnl := dNames_len list[k]
          have hct := hcd _ (List.getElem_mem hlt)
          have htl := names_len (list := list.take k) fun d hd => hcd d (List.mem_of_mem_take hd)
          have htk : (list.take k).length ≤ list.length := by rw [List.length_take]; omega
          rw [hnr] at hnl
          simp only [List.length_cons] at hnl
          refine ⟨k, rfl, _, dcAt hlt, ?_⟩
          refine ⟨_, LeL.refl _, (Names_con list[k] (by omega)).to (congrArg stsX hnr) _ _ ?_⟩
          intro hz1 hz2; clear hz1 hz2
          refine ⟨?_, ?_⟩
          · simp only [List.length_map, List.length_cons, List.length_nil]
            try simp only [List.length_take]
            show _ * (16 + 1) ≤ _
            omega
          refine own_of (q := q) (H0 := H) ?_ ?_ ?_ (fun c hc => ?_)
          · exact rfl
          · exact rfl
          · exact fun _ h => h
          refine ⟨in64_of (by first | omega | (dsimp only; omega)) (by first | omega | (dsimp only; omega)), ?_⟩
          refine ⟨(some c, k + 1), by simp only; omega, by (try dsimp only); omega, ?_⟩
          refine ⟨⟨Le.refl _, Le.refl _, Le.refl _, le_of_eq ?_, Le.refl _, trivial⟩, trivial, List.Sublist.refl _⟩
          show AV.sl (.own c) 1 (((list.take k).flatMap dNames).map .str ++ (list[k].name :: nr).map .str) = AV.sl (.own c) 1 (((list.take (k + 1)).flatMap dNames).map .str)
          rw [List.take_succ_eq_append_getElem hlt, List.flatMap_append, List.map_append, List.flatMap_cons, List.flatMap_nil, List.append_nil, hnr]
        · have hk' : k = list.length := by omega
          subst hk'
          refine ⟨(), trivial, ⟨Le.refl _, Le.refl _, Le.refl _, Le.trans (Le.own _ _ _) (le_of_eq ?_), trivial⟩, trivial, bufH_sub q H⟩
          show AV.sl .no 1 _ = AV.sl .no 1 _
          rw [List.take_length]
    refine sem_seq (esc := fun _ => false) tab_ok mixed ?_
    refine ⟨Nat, fun k => ⟨[(0, .g (.sl .no 15 (list.map dcX))), (4, .g (.b false)), (5, .g (stsX r)), (6, .g (stsX (list.flatMap dNames))), (8, .g (.i k))], [], H⟩, fun k => k ≤ list.length, fun k => list.length - k, ⟨0, Nat.zero_le _, ?_⟩, ?_⟩
    · (constructor <;> repeat' (first | exact trivial | exact ⟨rfl, rfl⟩ | exact ⟨rfl, LeL.refl _⟩ | exact Le.refl _ | exact List.Sublist.refl _ | (show Le (AV.i _) (AV.i _); rw [List.length_map]; exact Le.refl _) | refine And.intro ?_ ?_))
    · intro k hk
      refine ifB_dec (fun h1 => ?_) (fun h1 => ?_)
      · have hlt : k < list.length := by omega
        have hct := hcd _ (List.getElem_mem hlt)
        obtain ⟨own, hown⟩ : ∃ own, dNames list[k] = own := ⟨_, rfl⟩
        have hol := len_strs own
        have hoL := dNames_len list[k]
        rw [hown] at hoL
        obtain ⟨ns, hns⟩ : ∃ ns, dNeeds list[k] = ns := ⟨_, rfl⟩
        have hnl := dNeeds_len list[k]
        rw [hns] at hnl
        have hnsl := len_strs ns
        refine ⟨k, rfl, _, dcAt hlt, ?_⟩
        refine ⟨_, LeL.refl _, (Names_con list[k] (by omega)).to (congrArg stsX hown) _ _ ?_⟩
        intro hz1 hz2; clear hz1 hz2
        refine ⟨Nat × Bool, fun x => ⟨[(0, .g (.sl .no 15 (list.map dcX))), (4, .g (.b false)), (5, .g (stsX r)), (6, .g (stsX (list.flatMap dNames))), (8, .g (.i k)), (9, .g (stsX own)), (10, .g (.b x.2)), (11, .g (.i x.1))], [], H⟩, fun x => x.1 ≤ own.length ∧ (x.2 = true → ∃ s ∈ own, s ∈ r), fun x => own.length - x.1, ⟨(0, false), ⟨Nat.zero_le _, nofun⟩, ?_⟩, ?_⟩
        · (constructor <;> repeat' (first | exact trivial | exact ⟨rfl, rfl⟩ | exact ⟨rfl, LeL.refl _⟩ | exact Le.refl _ | exact List.Sublist.refl _ | (show Le (AV.i _) (AV.i _); rw [List.length_map]; exact Le.refl _) | refine And.intro ?_ ?_))
        · rintro ⟨j, q⟩ ⟨hj, hqr⟩
          simp only at hj hqr
          refine ifB_dec (fun h2 => ?_) (fun h2 => ?_)
          · have hltj : j < own.length := by omega
            refine ⟨Nat × Bool, fun x => ⟨[(0, .g (.sl .no 15 (list.map dcX))), (4, .g (.b false)), (5, .g (stsX r)), (6, .g (stsX (list.flatMap dNames))), (8, .g (.i k)), (9, .g (stsX own)), (10, .g (.b x.2)), (11, .g (.i j)), (12, .g (.i x.1))], [], H⟩, fun x => x.1 ≤ r.length ∧ (x.2 = true → ∃ s ∈ own, s ∈ r), fun x => r.length - x.1, ⟨(0, q), ⟨Nat.zero_le _, hqr⟩, ?_⟩, ?_⟩
            · (constructor <;> repeat' (first | exact trivial | exact ⟨rfl, rfl⟩ | exact ⟨rfl, LeL.refl _⟩ | exact Le.refl _ | exact List.Sublist.refl _ | (show Le (AV.i _) (AV.i _); rw [List.length_map]; exact Le.refl _) | refine And.intro ?_ ?_))
            · rintro ⟨i, p⟩ ⟨hi, hpr⟩
              simp only at hi hpr
              refine ifB_dec (fun h3 => ?_) (fun h3 => ?_)
              · have hlti : i < r.length := by omega
                cases p with
                | true =>
                  refine ⟨[0, 1, 2, 3, 4, 5, 6, 7, 8, 9, 10, 11, 12], [], by kernel_rfl, by simp, ?_⟩
                  refine ⟨in64_of (by first | omega | (dsimp only; omega)) (by first | omega | (dsimp only; omega)), ?_⟩
                  refine ⟨(i + 1, true), ⟨by simp only; omega, hpr⟩, by (try dsimp only); omega, ?_⟩
                  (constructor <;> repeat' (first | exact trivial | exact ⟨rfl, rfl⟩ | exact ⟨rfl, LeL.refl _⟩ | exact Le.refl _ | exact List.Sublist.refl _ | (show Le (AV.i _) (AV.i _); rw [List.length_map]; exact Le.refl _) | refine And.intro ?_ ?_))
                | false =>
                  refine ⟨[0, 1, 2, 3, 4, 5, 6, 7, 8, 9, 10, 11, 12], [], by kernel_rfl, by simp, ?_⟩
                  refine ⟨i, rfl, _, stAt hlti, ?_⟩
                  refine ⟨j, rfl, _, stAt hltj, ?_⟩
                  refine ifB_dec (fun h4 => ?_) (fun h4 => ?_)
                  · refine ⟨in64_of (by first | omega | (dsimp only; omega)) (by first | omega | (dsimp only; omega)), ?_⟩
                    refine ⟨(i + 1, true), ⟨by simp only; omega, fun _ => ⟨own[j], List.getElem_mem hltj, h4 ▸ List.getElem_mem hlti⟩⟩, by (try dsimp only); omega, ?_⟩
                    (constructor <;> repeat' (first | exact trivial | exact ⟨rfl, rfl⟩ | exact ⟨rfl, LeL.refl _⟩ | exact Le.refl _ | exact List.Sublist.refl _ | (show Le (AV.i _) (AV.i _); rw [List.length_map]; exact Le.refl _) | refine And.intro ?_ ?_))
                  · refine ⟨in64_of (by first | omega | (dsimp only; omega)) (by first | omega | (dsimp only; omega)), ?_⟩
                    refine ⟨(i + 1, false), ⟨by simp only; omega, hpr⟩, by (try dsimp only); omega, ?_⟩
                    (constructor <;> repeat' (first | exact trivial | exact ⟨rfl, rfl⟩ | exact ⟨rfl, LeL.refl _⟩ | exact Le.refl _ | exact List.Sublist.refl _ | (show Le (AV.i _) (AV.i _); rw [List.length_map]; exact Le.refl _) | refine And.intro ?_ ?_))
              · refine ⟨in64_of (by first | omega | (dsimp only; omega)) (by first | omega | (dsimp only; omega)), ?_⟩
                refine ⟨(j + 1, p), ⟨by simp only; omega, hpr⟩, by (try dsimp only); omega, ?_⟩
                (constructor <;> repeat' (first | exact trivial | exact ⟨rfl, rfl⟩ | exact ⟨rfl, LeL.refl _⟩ | exact Le.refl _ | exact List.Sublist.refl _ | (show Le (AV.i _) (AV.i _); rw [List.length_map]; exact Le.refl _) | refine And.intro ?_ ?_))
          · refine ⟨k, rfl, _, dcAt hlt, ?_⟩
            refine ⟨_, LeL.refl _, (Needs_con list[k] hct).to (congrArg stsX hns) _ _ ?_⟩
            intro hz1 hz2; clear hz1 hz2
            refine ⟨Nat, fun x => ⟨[(0, .g (.sl .no 15 (list.map dcX))), (4, .g (.b false)), (5, .g (stsX r)), (6, .g (stsX (list.flatMap dNames))), (8, .g (.i k)), (10, .g (.b q)), (13, .g (stsX ns)), (14, .g (.i x))], [], H⟩, fun x => x ≤ ns.length, fun x => ns.length - x, ⟨0, Nat.zero_le _, ?_⟩, ?_⟩
            · (constructor <;> repeat' (first | exact trivial | exact ⟨rfl, rfl⟩ | exact ⟨rfl, LeL.refl _⟩ | exact Le.refl _ | exact List.Sublist.refl _ | (show Le (AV.i _) (AV.i _); rw [List.length_map]; exact Le.refl _) | refine And.intro ?_ ?_))
            · intro m hm
              cases q with
              | false =>
                refine ⟨in64_of (by first | omega | (dsimp only; omega)) (by first | omega | (dsimp only; omega)), ?_⟩
                refine ⟨k + 1, by omega, by (try dsimp only); omega, ?_⟩
                (constructor <;> repeat' (first | exact trivial | exact ⟨rfl, rfl⟩ | exact ⟨rfl, LeL.refl _⟩ | exact Le.refl _ | exact List.Sublist.refl _ | (show Le (AV.i _) (AV.i _); rw [List.length_map]; exact Le.refl _) | refine And.intro ?_ ?_))
              | true =>
                obtain ⟨s0, hs0, hs0r⟩ := hqr rfl
                refine ifB_dec (fun h5 => ?_) (fun h5 => ?_)
                · have hltm : m < ns.length := by omega
                  obtain ⟨⟨u, there⟩, e1⟩ : ∃ p, dClash [ns[m]] (list.flatMap dNames) = p := ⟨_, rfl⟩
                  obtain ⟨⟨v, has⟩, e2⟩ : ∃ p, dClash [ns[m]] r = p := ⟨_, rfl⟩
                  have himp : there = true → has = true := fun h => by
                    have h1 : (dClash [ns[m]] (list.flatMap dNames)).2 = true := by rw [e1]; exact h
                    obtain ⟨g1, g2⟩ := dClash_one.1 h1
                    obtain ⟨j2, hj2, hd2⟩ := allNames_mem g2
                    have : ns[m] ∈ r := by
                      rw [← hr]
                      exact dReach_needs list names hlt (hown ▸ hs0) (hr ▸ hs0r) (hns ▸ List.getElem_mem hltm) hj2 hd2
                    have h2 : (dClash [ns[m]] r).2 = true := dClash_one.2 ⟨g1, this⟩
                    rw [e2] at h2
                    exact h2
                  refine ⟨m, rfl, _, stAt hltm, ?_⟩
                  refine ⟨[.sl .full 1 ([ns[m]].map .str), stsX (list.flatMap dNames)], LeL.refl _, (Clash_con .full .no [ns[m]] (list.flatMap dNames)).to (by rw [e1]) _ _ ?_⟩
                  intro hz1 hz2; clear hz1 hz2
                  refine ⟨m, rfl, _, stAt hltm, ?_⟩
                  refine ⟨[.sl .full 1 ([ns[m]].map .str), stsX r], LeL.refl _, (Clash_con .full .no [ns[m]] r).to (by rw [e2]) _ _ ?_⟩
                  intro hz1 hz2; clear hz1 hz2
                  cases there with
                  | false =>
                    refine ⟨in64_of (by first | omega | (dsimp only; omega)) (by first | omega | (dsimp only; omega)), ?_⟩
                    refine ⟨m + 1, by omega, by (try dsimp only); omega, ?_⟩
                    (constructor <;> repeat' (first | exact trivial | exact ⟨rfl, rfl⟩ | exact ⟨rfl, LeL.refl _⟩ | exact Le.refl _ | exact List.Sublist.refl _ | (show Le (AV.i _) (AV.i _); rw [List.length_map]; exact Le.refl _) | refine And.intro ?_ ?_))
                  | true =>
                    obtain rfl := himp rfl
                    refine ⟨in64_of (by first | omega | (dsimp only; omega)) (by first | omega | (dsimp only; omega)), ?_⟩
                    refine ⟨m + 1, by omega, by (try dsimp only); omega, ?_⟩
                    (constructor <;> repeat' (first | exact trivial | exact ⟨rfl, rfl⟩ | exact ⟨rfl, LeL.refl _⟩ | exact Le.refl _ | exact List.Sublist.refl _ | (show Le (AV.i _) (AV.i _); rw [List.length_map]; exact Le.refl _) | refine And.intro ?_ ?_))
                · refine ⟨in64_of (by first | omega | (dsimp only; omega)) (by first | omega | (dsimp only; omega)), ?_⟩
                  refine ⟨k + 1, by omega, by (try dsimp only); omega, ?_⟩
                  (constructor <;> repeat' (first | exact trivial | exact ⟨rfl, rfl⟩ | exact ⟨rfl, LeL.refl _⟩ | exact Le.refl _ | exact List.Sublist.refl _ | (show Le (AV.i _) (AV.i _); rw [List.length_map]; exact Le.refl _) | refine And.intro ?_ ?_))
      · refine sem_of (esc := fun _ => false) tab_ok mixed ?_
        exact fin
end Go.Proofs.YtjmmacbblnjogaaGreatDoor
