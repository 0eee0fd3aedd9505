/-
  Texts put together: U10, U11, U12. No condition.
-/
import Derived.Test.YtjmmacbblnjogaaGreatDoorM18
/-
  BindOccurs: the law's walk. No condition.
-/
namespace Go.Proofs.YtjmmacbblnjogaaGreatDoor
open Go.RowKit

mutual
/-- a right term's constants have right names -/
theorem has_name {p : Int} {c : List UInt8} : ∀ (t : Tm) (v : Int), tmFit p t v = true → tmHas c t = true → nameOk c = true
  | .mk k n nm ls xs, v, h, hh => by
    rw [tmHas, Bool.or_eq_true] at hh
    rcases hh with hh | hh
    · obtain ⟨h1, h2⟩ := of_decide_eq_true hh
      subst h2
      exact (fit_const h h1).2.1
    · exact hasL_name k xs 0 v (fit_args h) hh
theorem hasL_name {p : Int} {c : List UInt8} (k : Int) : ∀ (ts : List Tm) (i : Nat) (v : Int), tmFitL p k ts i v = true → tmHasL c ts = true → nameOk c = true
  | [], _, _, _, hh => by rw [tmHasL] at hh; cases hh
  | t :: ts, i, v, h, hh => by
    obtain ⟨h1, h2⟩ := fitL_cons h
    rw [tmHasL, Bool.or_eq_true] at hh
    rcases hh with hh | hh
    · exact has_name t _ h1 hh
    · exact hasL_name k ts (i + 1) v h2 hh
end
theorem right_const {c : List UInt8} (h : nameOk c = true) : tmRight 4 1125899906842624 (bC c) = true := by
  refine right_of (by decide) (by decide) (by decide) (by simp [bC, Tm.nodes, Tm.nodesL, Lv.nodesL]) ?_
  unfold bC
  rw [tmFit, tmFitL]
  simp [tmNode, lvRightL, h]
theorem bRepl_true {t u x : Tm} {c : List UInt8} (h : bRepl t c u = (x, true)) : tmRight 4 1125899906842624 t = true ∧ tmRight 4 1125899906842624 u = true ∧ x = bld (replF c u) t 0 ∧ tmRight 4 1125899906842624 x = true := by
  unfold bRepl at h
  split at h
  · rename_i hc
    unfold madeB at h
    split at h
    · rename_i hn
      obtain rfl := (Prod.ext_iff.1 h).1
      refine ⟨hc.1, hc.2, rfl, ?_⟩
      obtain ⟨_, t2⟩ := right_fit hc.1
      obtain ⟨_, u2⟩ := right_fit hc.2
      have := repl_fit (c := c) (p := 4) (by decide) u2 t 0 (Int.le_refl _) (by rw [Int.add_zero]; exact t2)
      rw [Int.add_zero] at this
      exact right_of (by decide) (by decide) (by decide) hn this
    · exact absurd (Prod.ext_iff.1 h).2 (by simp)
  · exact absurd (Prod.ext_iff.1 h).2 (by simp)
set_option maxRecDepth 100000 in
set_option maxHeartbeats 4000000 in
theorem bindOccurs_con (t u : Tm) (c : List UInt8) : Ans Tryz.prog 7 [tmX t, tmX u, .str c] (.b true) := by
  intro H Q hq
  have fin : ∃ r H', Le (.b true) r ∧ List.Sublist H' H ∧ Q r H' := ⟨_, H, Le.refl _, List.Sublist.refl _, hq⟩
  obtain ⟨⟨x, ok⟩, h1⟩ : ∃ p, bRepl t c u = p := ⟨_, rfl⟩
  obtain ⟨⟨y, is⟩, h2⟩ : ∃ p, bRepl t c (bC c) = p := ⟨_, rfl⟩
  obtain ⟨o, ho⟩ : ∃ o, tmOccurs c t = o := ⟨_, rfl⟩
  obtain ⟨q, hqu⟩ : ∃ o, tmOccurs c u = o := ⟨_, rfl⟩
  obtain ⟨lv, hlv⟩ : ∃ l, tmLeveled c t = l := ⟨_, rfl⟩
  have hself : o = true → lv = false → bRepl t c (bC c) = (t, true) := fun e1 e2 => by
    have hr : tmRight 4 1125899906842624 t = true ∧ tmHas c t = true := by
      unfold tmOccurs at ho
      rw [e1, Bool.and_eq_true] at ho
      exact ho
    obtain ⟨rn, rf⟩ := right_fit hr.1
    unfold bRepl
    rw [if_pos ⟨hr.1, right_const (has_name t _ rf hr.2)⟩, show bC c = .mk 3 0 c [] [] from rfl, repl_self t 0 _ rf (hlv.trans e2)]
    exact madeB_yes rn
  have hxo : ok = true → tmOccurs c x = (o && q) ∧ (o = false → tmEq x t = true) := fun e => by
    subst e
    obtain ⟨ht, hu, hx, hxr⟩ := bRepl_true h1
    obtain ⟨tn, tf⟩ := right_fit ht
    have hto : tmHas c t = o := by
      rw [← ho]; unfold tmOccurs; rw [ht, Bool.true_and]
    have huo : tmHas c u = q := by
      rw [← hqu]; unfold tmOccurs; rw [hu, Bool.true_and]
    refine ⟨?_, fun e => ?_⟩
    · unfold tmOccurs
      rw [hxr, Bool.true_and, hx, repl_has t 0 _ tf, hto, huo]
    · rw [hx, repl_none t 0 (hto.trans e)]
      exact same6 t
  refine con_of_sem tab_ok Tryz.func7 rfl (ent Tryz.func7 (by kernel_rfl) rfl) (by kernel_rfl) ?_
  intro hw hn
  clear hw hn
  refine sem_seq (esc := fun _ => false) tab_ok mixed ?_
  refine sem_seq (esc := fun _ => false) tab_ok mixed ?_
  refine ⟨_, LeL.refl _, alive6_con _ _ ?_⟩
  intro hz1 hz2; clear hz1 hz2
  refine sem_seq (esc := fun _ => false) tab_ok mixed ?_
  refine ⟨[tmX t, .sl .full 5 ([u].map tmA)], ⟨Le.refl _, b_one _, trivial⟩, great6_some .full t [u] _ _ (fb (fun _ => ?_) (fun _ => ?_))⟩
  rotate_left
  · intro hz1 hz2; clear hz1 hz2
    exact fin
  intro hz1 hz2; clear hz1 hz2
  refine ifB_dec (fun c1 => ?_) (fun c1 => ?_)
  · exact fin
  refine sem_seq (esc := fun _ => false) tab_ok mixed ?_
  refine ⟨_, LeL.refl _, (bRepl_con t c u).to (by rw [h1]) _ _ ?_⟩
  intro hz1 hz2; clear hz1 hz2
  refine sem_le ⟨[(2, .g (.str c)), (3, .lp 3 0), (4, .lp 4 0), (6, .g (.b false)), (7, .lp 7 0), (8, .g (.b ok))], [(7, (tmX x).cells), (4, (tmX u).cells), (3, (tmX t).cells)], H⟩ ?_ ?_
  · (constructor <;> repeat' (first | exact trivial | exact ⟨rfl, rfl⟩ | exact ⟨rfl, LeL.refl _⟩ | exact Le.refl _ | exact List.Sublist.refl _ | (show Le (AV.i _) (AV.i _); rw [List.length_map]; exact Le.refl _) | refine And.intro ?_ ?_))
  refine sem_join (esc := fun _ => false) tab_ok mixed (X := Unit) (fun _ => ⟨[(2, .g (.str c)), (3, .lp 3 0), (4, .lp 4 0), (6, .g (.b false)), (7, .lp 7 0), (8, .g (.b ok))], [(7, (tmX x).cells), (4, (tmX u).cells), (3, (tmX t).cells)], H⟩) (fun _ => True) ?_ (fun _ _ => ?_)
  · cases ok with
    | false =>
      refine ⟨[0, 1, 2, 3, 4, 5, 6, 7, 8, 9, 10, 11, 12, 13, 15, 16, 14, 17, 18, 19, 20, 21, 22, 23, 24], [], ord_fast (by kernel_rfl), by simp, ?_⟩
      refine ⟨(), trivial, ?_⟩
      (constructor <;> repeat' (first | exact trivial | exact ⟨rfl, rfl⟩ | exact ⟨rfl, LeL.refl _⟩ | exact Le.refl _ | exact List.Sublist.refl _ | (show Le (AV.i _) (AV.i _); rw [List.length_map]; exact Le.refl _) | refine And.intro ?_ ?_))
    | true =>
      obtain ⟨hxq, _⟩ := hxo rfl
      cases o with
      | false =>
        rw [Bool.false_and] at hxq
        refine ⟨[0, 1, 2, 3, 4, 5, 6, 7, 8, 9, 10, 11, 12, 13, 15, 16, 14, 17, 18, 19, 20, 21, 22, 23, 24], [], ord_fast (by kernel_rfl), by simp, ?_⟩
        refine ⟨_, LeL.refl _, rLoose_con u _ _ ?_⟩
        intro hz1 hz2; clear hz1 hz2
        refine ifB_dec (fun k1 => ?_) (fun k1 => ?_)
        · refine ⟨_, LeL.refl _, rLoose_con t _ _ ?_⟩
          intro hz1 hz2; clear hz1 hz2
          refine ifB_dec (fun k2 => ?_) (fun k2 => ?_)
          · refine ⟨_, LeL.refl _, (Occurs_con x c).to (by rw [hxq]) _ _ ?_⟩
            intro hz1 hz2; clear hz1 hz2
            refine ⟨_, LeL.refl _, (Occurs_con t c).to (by rw [ho]) _ _ ?_⟩
            intro hz1 hz2; clear hz1 hz2
            refine ⟨(), trivial, ?_⟩
            (constructor <;> repeat' (first | exact trivial | exact ⟨rfl, rfl⟩ | exact ⟨rfl, LeL.refl _⟩ | exact Le.refl _ | exact List.Sublist.refl _ | (show Le (AV.i _) (AV.i _); rw [List.length_map]; exact Le.refl _) | refine And.intro ?_ ?_))
          · refine ⟨(), trivial, ?_⟩
            (constructor <;> repeat' (first | exact trivial | exact ⟨rfl, rfl⟩ | exact ⟨rfl, LeL.refl _⟩ | exact Le.refl _ | exact List.Sublist.refl _ | (show Le (AV.i _) (AV.i _); rw [List.length_map]; exact Le.refl _) | refine And.intro ?_ ?_))
        · refine ⟨(), trivial, ?_⟩
          (constructor <;> repeat' (first | exact trivial | exact ⟨rfl, rfl⟩ | exact ⟨rfl, LeL.refl _⟩ | exact Le.refl _ | exact List.Sublist.refl _ | (show Le (AV.i _) (AV.i _); rw [List.length_map]; exact Le.refl _) | refine And.intro ?_ ?_))
      | true =>
        rw [Bool.true_and] at hxq
        cases q with
        | false =>
          refine ⟨[0, 1, 2, 3, 4, 5, 6, 7, 8, 9, 10, 11, 12, 13, 15, 16, 14, 17, 18, 19, 20, 21, 22, 23, 24], [], ord_fast (by kernel_rfl), by simp, ?_⟩
          refine ⟨_, LeL.refl _, rLoose_con u _ _ ?_⟩
          intro hz1 hz2; clear hz1 hz2
          refine ifB_dec (fun k1 => ?_) (fun k1 => ?_)
          · refine ⟨_, LeL.refl _, rLoose_con t _ _ ?_⟩
            intro hz1 hz2; clear hz1 hz2
            refine ifB_dec (fun k2 => ?_) (fun k2 => ?_)
            · refine ⟨_, LeL.refl _, (Occurs_con x c).to (by rw [hxq]) _ _ ?_⟩
              intro hz1 hz2; clear hz1 hz2
              refine ⟨_, LeL.refl _, (Occurs_con t c).to (by rw [ho]) _ _ ?_⟩
              intro hz1 hz2; clear hz1 hz2
              refine ⟨_, LeL.refl _, (Occurs_con u c).to (by rw [hqu]) _ _ ?_⟩
              intro hz1 hz2; clear hz1 hz2
              refine ⟨(), trivial, ?_⟩
              (constructor <;> repeat' (first | exact trivial | exact ⟨rfl, rfl⟩ | exact ⟨rfl, LeL.refl _⟩ | exact Le.refl _ | exact List.Sublist.refl _ | (show Le (AV.i _) (AV.i _); rw [List.length_map]; exact Le.refl _) | refine And.intro ?_ ?_))
            · refine ⟨(), trivial, ?_⟩
              (constructor <;> repeat' (first | exact trivial | exact ⟨rfl, rfl⟩ | exact ⟨rfl, LeL.refl _⟩ | exact Le.refl _ | exact List.Sublist.refl _ | (show Le (AV.i _) (AV.i _); rw [List.length_map]; exact Le.refl _) | refine And.intro ?_ ?_))
          · refine ⟨(), trivial, ?_⟩
            (constructor <;> repeat' (first | exact trivial | exact ⟨rfl, rfl⟩ | exact ⟨rfl, LeL.refl _⟩ | exact Le.refl _ | exact List.Sublist.refl _ | (show Le (AV.i _) (AV.i _); rw [List.length_map]; exact Le.refl _) | refine And.intro ?_ ?_))
        | true =>
          refine ⟨[0, 1, 2, 3, 4, 5, 6, 7, 8, 9, 10, 11, 12, 13, 15, 16, 14, 17, 18, 19, 20, 21, 22, 23, 24], [], ord_fast (by kernel_rfl), by simp, ?_⟩
          refine ⟨_, LeL.refl _, rLoose_con u _ _ ?_⟩
          intro hz1 hz2; clear hz1 hz2
          refine ifB_dec (fun k1 => ?_) (fun k1 => ?_)
          · refine ⟨_, LeL.refl _, rLoose_con t _ _ ?_⟩
            intro hz1 hz2; clear hz1 hz2
            refine ifB_dec (fun k2 => ?_) (fun k2 => ?_)
            · refine ⟨_, LeL.refl _, (Occurs_con x c).to (by rw [hxq]) _ _ ?_⟩
              intro hz1 hz2; clear hz1 hz2
              refine ⟨_, LeL.refl _, (Occurs_con t c).to (by rw [ho]) _ _ ?_⟩
              intro hz1 hz2; clear hz1 hz2
              refine ⟨_, LeL.refl _, (Occurs_con u c).to (by rw [hqu]) _ _ ?_⟩
              intro hz1 hz2; clear hz1 hz2
              refine ⟨(), trivial, ?_⟩
              (constructor <;> repeat' (first | exact trivial | exact ⟨rfl, rfl⟩ | exact ⟨rfl, LeL.refl _⟩ | exact Le.refl _ | exact List.Sublist.refl _ | (show Le (AV.i _) (AV.i _); rw [List.length_map]; exact Le.refl _) | refine And.intro ?_ ?_))
            · refine ⟨(), trivial, ?_⟩
              (constructor <;> repeat' (first | exact trivial | exact ⟨rfl, rfl⟩ | exact ⟨rfl, LeL.refl _⟩ | exact Le.refl _ | exact List.Sublist.refl _ | (show Le (AV.i _) (AV.i _); rw [List.length_map]; exact Le.refl _) | refine And.intro ?_ ?_))
          · refine ⟨(), trivial, ?_⟩
            (constructor <;> repeat' (first | exact trivial | exact ⟨rfl, rfl⟩ | exact ⟨rfl, LeL.refl _⟩ | exact Le.refl _ | exact List.Sublist.refl _ | (show Le (AV.i _) (AV.i _); rw [List.length_map]; exact Le.refl _) | refine And.intro ?_ ?_))
  refine sem_seq (esc := fun _ => false) tab_ok mixed ?_
  cases o with
  | false =>
    cases ok with
    | false =>
      refine ⟨_, LeL.refl _, (Occurs_con t c).to (by rw [ho]) _ _ ?_⟩
      intro hz1 hz2; clear hz1 hz2
      exact fin
    | true =>
      have hxt := (hxo rfl).2 rfl
      refine ⟨_, LeL.refl _, (Occurs_con t c).to (by rw [ho]) _ _ ?_⟩
      intro hz1 hz2; clear hz1 hz2
      refine ⟨_, LeL.refl _, (SameTerm_con _ x t (Nat.le_refl _)).to (by rw [hxt]) _ _ ?_⟩
      intro hz1 hz2; clear hz1 hz2
      exact fin
  | true =>
    cases lv with
    | true =>
      refine ⟨_, LeL.refl _, (Occurs_con t c).to (by rw [ho]) _ _ ?_⟩
      intro hz1 hz2; clear hz1 hz2
      refine sem_seq (esc := fun _ => false) tab_ok mixed ?_
      refine ⟨[0, 1, 2, 8, 3, 4, 5, 6, 7, 9, 10], [], ord_fast (by kernel_rfl), by simp, ?_⟩
      refine ⟨_, LeL.refl _, constant6_con c _ _ ?_⟩
      intro hz1 hz2; clear hz1 hz2
      refine ⟨_, LeL.refl _, (bRepl_con t c (bC c)).to (by rw [h2]) _ _ ?_⟩
      intro hz1 hz2; clear hz1 hz2
      refine sem_seq (esc := fun _ => false) tab_ok mixed ?_
      refine ⟨_, LeL.refl _, (leveled_con c _ t (Nat.le_refl _)).to (by rw [hlv]) _ _ ?_⟩
      intro hz1 hz2; clear hz1 hz2
      refine sem_of (esc := fun _ => false) tab_ok mixed ?_
      exact fin
    | false =>
      have hs := hself rfl rfl
      refine ⟨_, LeL.refl _, (Occurs_con t c).to (by rw [ho]) _ _ ?_⟩
      intro hz1 hz2; clear hz1 hz2
      refine sem_seq (esc := fun _ => false) tab_ok mixed ?_
      refine ⟨[0, 1, 2, 8, 3, 4, 5, 6, 7, 9, 10], [], ord_fast (by kernel_rfl), by simp, ?_⟩
      refine ⟨_, LeL.refl _, constant6_con c _ _ ?_⟩
      intro hz1 hz2; clear hz1 hz2
      refine ⟨_, LeL.refl _, (bRepl_con t c (bC c)).to (by rw [hs]) _ _ ?_⟩
      intro hz1 hz2; clear hz1 hz2
      refine sem_seq (esc := fun _ => false) tab_ok mixed ?_
      refine ⟨_, LeL.refl _, (leveled_con c _ t (Nat.le_refl _)).to (by rw [hlv]) _ _ ?_⟩
      intro hz1 hz2; clear hz1 hz2
      refine ⟨_, LeL.refl _, (SameTerm_con _ t t (Nat.le_refl _)).to (by rw [same6]) _ _ ?_⟩
      intro hz1 hz2; clear hz1 hz2
      refine sem_of (esc := fun _ => false) tab_ok mixed ?_
      exact fin
end Go.Proofs.YtjmmacbblnjogaaGreatDoor

/-
  BindNames: the law's walk. No condition.
-/
namespace Go.Proofs.YtjmmacbblnjogaaGreatDoor
open Go.RowKit

set_option maxRecDepth 100000 in
theorem Lengths200_some (ss : List (List UInt8)) (H : Heap) (Q : AV → Heap → Prop) (hq : ∀ n : Int, (n ≤ 200 → ∀ s ∈ ss, s.length ≤ 200) → Q (.i n) H) : Con Tryz.prog 20 [stsX ss, .i 200] H Q := by
  refine con_of_awp (esc := fun _ => false) tab_ok mixed Tryz.func20 rfl (ent Tryz.func20 (by kernel_rfl) rfl) (by kernel_rfl) ?_
  intro hw hn
  have hlen : ss.length ≤ 9223372036854775807 := (hw (stsX ss) (by simp)).sts
  have hl : ∀ k (hk : k < ss.length), ss[k].length ≤ 1125899906842624 := fun k hk => by
    have := (hw (stsX ss) (by simp)).elem (x := .str ss[k]) (List.mem_map.2 ⟨_, List.getElem_mem hk, rfl⟩) (.str ss[k]) (by simp [AV.cells])
    exact this.str
  refine ifB_dec (fun h1 => ?_) (fun h1 => ?_)
  · refine ⟨in64_of (by first | omega | (dsimp only; omega)) (by first | omega | (dsimp only; omega)), ?_⟩
    exact ⟨_, H, Le.refl _, List.Sublist.refl _, hq _ fun h => by omega⟩
  · refine ⟨Nat × Int, fun p => ⟨[(0, .g (stsX ss)), (1, .g (.i 200)), (4, .g (.i 0)), (5, .g (.i p.2)), (6, .g (.i p.1))], [], H⟩, fun p => p.1 ≤ ss.length ∧ 0 ≤ p.2 ∧ p.2 ≤ 1125899906843624 ∧ ∀ s ∈ ss.take p.1, (s.length : Int) ≤ p.2, fun p => ss.length - p.1, ⟨(0, 0), ⟨Nat.zero_le _, by decide, by decide, by simp⟩, ?_⟩, ?_⟩
    · (constructor <;> repeat' (first | exact trivial | exact ⟨rfl, rfl⟩ | exact ⟨rfl, LeL.refl _⟩ | exact Le.refl _ | exact List.Sublist.refl _ | (show Le (AV.i _) (AV.i _); rw [List.length_map]; exact Le.refl _) | refine And.intro ?_ ?_))
    · rintro ⟨j, n⟩ ⟨hj, hn0, hn1, hall⟩
      simp only at hj hn0 hn1 hall
      refine ifB_dec (fun h2 => ?_) (fun h2 => ?_)
      · simp only [List.length_map] at h2
        have hlt : j < ss.length := by omega
        refine ifB_dec (fun h3 => ?_) (fun h3 => ?_)
        · simp only at h3
          have := hl j hlt
          refine ⟨j, rfl, _, stAt hlt, ?_⟩
          refine ⟨in64_of (by first | omega | (dsimp only; omega)) (by first | omega | (dsimp only; omega)), ?_⟩
          refine ⟨in64_of (by first | omega | (dsimp only; omega)) (by first | omega | (dsimp only; omega)), ?_⟩
          refine ⟨in64_of (by first | omega | (dsimp only; omega)) (by first | omega | (dsimp only; omega)), ?_⟩
          refine ⟨(j + 1, n + (1 + ss[j].length)), ⟨by simp only; omega, by simp only; omega, by simp only; omega, fun s hs => ?_⟩, by (try dsimp only); omega, ?_⟩
          · simp only at hs ⊢
            rw [List.take_succ_eq_append_getElem hlt, List.mem_append, List.mem_singleton] at hs
            rcases hs with hs | rfl
            · have := hall s hs
              omega
            · omega
          (constructor <;> repeat' (first | exact trivial | exact ⟨rfl, rfl⟩ | exact ⟨rfl, LeL.refl _⟩ | exact Le.refl _ | exact List.Sublist.refl _ | (show Le (AV.i _) (AV.i _); rw [List.length_map]; exact Le.refl _) | refine And.intro ?_ ?_))
        · exact ⟨_, H, Le.refl _, List.Sublist.refl _, hq _ fun h => by simp only at h3; omega⟩
      · simp only [List.length_map] at h2
        have hj' : ss.length = j := by omega
        rw [← hj', List.take_length] at hall
        exact ⟨_, H, Le.refl _, List.Sublist.refl _, hq _ fun h s hs => by have := hall s hs; omega⟩
theorem constsOf_take {nms : List (List UInt8)} {j : Nat} (h : j < nms.length) : constsOf (nms.take (j + 1)) = constsOf (nms.take j) ++ [bC nms[j]] := by
  unfold constsOf
  rw [List.take_succ_eq_append_getElem h, List.map_append]
  rfl
theorem bAbs_true {t x : Tm} {nms : List (List UInt8)} (h : bAbs t nms = (x, true)) : tmRight 4 1125899906842624 t = true ∧ nms.length ≤ 1048576 ∧ x = bld (absF nms) t 0 := by
  unfold bAbs at h
  split at h
  · rename_i hc
    refine ⟨hc.1, hc.2, ?_⟩
    obtain ⟨tn, tf⟩ := right_fit hc.1
    have := abs_nodes (nms := nms) t 0 _ tf
    rw [madeB_yes (by omega)] at h
    exact (Prod.ext_iff.1 h).1.symm
  · exact absurd (Prod.ext_iff.1 h).2 (by simp)
/-- what is abstracted and put in again -/
theorem names_back {t x : Tm} {nms : List (List UInt8)} (ht : tmRight 4 1125899906842624 t = true) (hl : nms.length ≤ 1048576) (hx : x = bld (absF nms) t 0) (hlo : rLoose t ≤ 1099511627776) (hr : ∀ c ∈ nms, tmRight 0 1125899906842624 (bC c) = true) (hlv : ∀ c ∈ nms, tmLeveled c t = false) :
    bInst x (constsOf nms) = (t, true) := by
  obtain ⟨tn, tf⟩ := right_fit ht
  obtain ⟨e1, e2, e3, e4⟩ := needs_of ht
  have hL : rLoose t = tmNeeds t := by
    rw [e1]; exact if_pos ht
  rw [hL] at hlo
  obtain ⟨_, rf⟩ := right_fit (right_needs ht).1
  have hmin : min (tmNeeds t) 1125899906842624 = tmNeeds t := by omega
  rw [hmin] at rf
  have hfit := abs_fit (p := 4) (nms := nms) (by decide) t 0 (tmNeeds t) (by omega) (Int.le_refl _) (by rw [Int.add_zero]; exact rf)
  have hxr : tmRight 4 1125899906842624 x = true := by
    rw [hx]
    refine right_of (by decide) (by decide) (by decide) (by have := abs_nodes (nms := nms) t 0 _ tf; omega) ?_
    exact tmFit_more (by decide) (by decide) _ _ _ hfit (by omega)
  have hall : (constsOf nms).all (tmRight 4 1125899906842624) = true := by
    rw [List.all_eq_true]
    intro a ha
    unfold constsOf at ha
    obtain ⟨c, hc, rfl⟩ := List.mem_map.1 ha
    exact right_more (hr c hc) (by decide) (by decide) (Int.le_refl _)
  unfold bInst
  rw [if_pos ⟨hxr, by rw [constsOf_len]; exact hl, hall⟩, hx, abs_back t 0 _ tf hlv]
  exact madeB_yes tn
theorem names_has {t x : Tm} {nms : List (List UInt8)} (ht : tmRight 4 1125899906842624 t = true) (hx : x = bld (absF nms) t 0) {j : Nat} (h : j < nms.length) : tmOccurs nms[j] x = false := by
  obtain ⟨tn, tf⟩ := right_fit ht
  unfold tmOccurs
  rw [hx, abs_has (List.getElem_mem h) t 0 _ tf, Bool.and_false]
set_option maxRecDepth 100000 in
set_option maxHeartbeats 4000000 in
theorem bindNames_con (t : Tm) (nms : List (List UInt8)) : Ans Tryz.prog 5 [tmX t, stsX nms] (.b true) := by
  intro H Q hq
  have hlen : (nms.map AV.str).length = nms.length := List.length_map _
  have finH : ∀ HH, List.Sublist H HH → ∃ r H', Le (.b true) r ∧ List.Sublist H' HH ∧ Q r H' := fun HH h => ⟨_, H, Le.refl _, h, hq⟩
  have fin := finH H (List.Sublist.refl _)
  obtain ⟨⟨x, ok⟩, h1⟩ : ∃ p, bAbs t nms = p := ⟨_, rfl⟩
  have habs : ok = true → tmRight 4 1125899906842624 t = true ∧ nms.length ≤ 1048576 ∧ x = bld (absF nms) t 0 := fun e => bAbs_true (by rw [h1, e])
  refine con_of_sem tab_ok Tryz.func5 rfl (ent Tryz.func5 (by kernel_rfl) rfl) (by kernel_rfl) ?_
  intro hw hn
  clear hw hn
  refine sem_seq (esc := fun _ => false) tab_ok mixed ?_
  refine sem_seq (esc := fun _ => false) tab_ok mixed ?_
  refine ⟨_, LeL.refl _, alive6_con _ _ ?_⟩
  intro hz1 hz2; clear hz1 hz2
  refine sem_seq (esc := fun _ => false) tab_ok mixed ?_
  refine ⟨_, LeL.refl _, Great4_some t _ _ (fb ?_ ?_)⟩
  rotate_left
  · intro hz1 hz2; clear hz1 hz2
    exact fin
  intro hz1 hz2; clear hz1 hz2
  refine ⟨_, LeL.refl _, Lengths200_some nms _ _ fun n _ => ?_⟩
  intro hz1 hz2; clear hz1 hz2
  refine ifB_dec (fun c1 => ?_) (fun c1 => ?_)
  · exact fin
  refine ⟨_, LeL.refl _, rLoose_con t _ _ ?_⟩
  intro hz1 hz2; clear hz1 hz2
  refine ifB_dec (fun c2 => ?_) (fun c2 => ?_)
  · exact fin
  refine sem_seq (esc := fun _ => false) tab_ok mixed ?_
  refine ⟨_, LeL.refl _, (bAbs_con .no t nms).to (by rw [h1]) _ _ ?_⟩
  intro hz1 hz2; clear hz1 hz2
  refine sem_le ⟨[(1, .g (stsX nms)), (2, .lp 2 0), (4, .g (.b false)), (5, .lp 5 0), (6, .g (.b ok))], [(5, (tmX x).cells), (2, (tmX t).cells)], H⟩ ?_ ?_
  · (constructor <;> repeat' (first | exact trivial | exact ⟨rfl, rfl⟩ | exact ⟨rfl, LeL.refl _⟩ | exact Le.refl _ | exact List.Sublist.refl _ | (show Le (AV.i _) (AV.i _); rw [List.length_map]; exact Le.refl _) | refine And.intro ?_ ?_))
  refine sem_seq (esc := fun _ => false) tab_ok mixed ?_
  cases ok with
  | false => exact fin
  | true =>
    obtain ⟨ht, hl, hx⟩ := habs rfl
    refine sem_seq (esc := fun _ => false) tab_ok mixed ?_
    refine sem_seq (esc := fun _ => false) tab_ok mixed ?_
    refine ⟨Option Cap × Nat, fun p => ⟨[(1, .g (stsX nms)), (2, .lp 2 0), (4, .g (.b false)), (5, .lp 5 0), (7, .g (.sl (ownQ p.1) 5 ((constsOf (nms.take p.2)).map tmA))), (8, .g (.i p.2))], [(5, (tmX x).cells), (2, (tmX t).cells)], bufH p.1 H⟩,
      fun p => p.2 ≤ nms.length ∧ (∀ c ∈ nms.take p.2, tmRight 0 1125899906842624 (bC c) = true ∧ tmLeveled c t = false), fun p => nms.length - p.2, ⟨(none, 0), ⟨Nat.zero_le _, by simp⟩, ?_⟩, ?_⟩
    · (constructor <;> repeat' (first | exact trivial | exact ⟨rfl, rfl⟩ | exact ⟨rfl, LeL.refl _⟩ | exact Le.refl _ | exact List.Sublist.refl _ | (show Le (AV.i _) (AV.i _); rw [List.length_map]; exact Le.refl _) | refine And.intro ?_ ?_))
    · rintro ⟨q, j⟩ ⟨hj, hall⟩
      simp only at hj hall
      refine ifB_dec (fun k1 => ?_) (fun k1 => ?_)
      · simp only [List.length_map] at k1
        have hlt : j < nms.length := by omega
        have hocc := names_has (nms := nms) ht hx hlt
        have hsn : (constsOf (nms.take j)).map tmA ++ [tmX (bC nms[j])] = (constsOf (nms.take (j + 1))).map tmA := by rw [constsOf_take hlt, List.map_append, ← tmA_eq]; rfl
        have hlj : (constsOf (nms.take j)).length = j := by rw [constsOf_len, List.length_take]; omega
        have hat : ((constsOf (nms.take j)).map tmA ++ [tmX (bC nms[j])])[j]? = some (tmX (bC nms[j])) := by
          rw [List.getElem?_append_right (by rw [List.length_map]; omega), List.length_map, hlj, Nat.sub_self]
          rfl
        have hsub := bufH_sub q H
        obtain ⟨lv, hlv⟩ : ∃ lv, tmLeveled nms[j] t = lv := ⟨_, rfl⟩
        obtain ⟨rc, hrc⟩ : ∃ rc, tmRight 0 1125899906842624 (bC nms[j]) = rc := ⟨_, rfl⟩
        refine ⟨[0, 1, 2, 3, 4, 5], [], by kernel_rfl, by simp, ?_⟩
        refine ⟨j, rfl, _, stAt hlt, ?_⟩
        refine ⟨_, LeL.refl _, (Occurs_con x nms[j]).to (by rw [hocc]) _ _ ?_⟩
        intro hz1 hz2; clear hz1 hz2
        refine ⟨j, rfl, _, stAt hlt, ?_⟩
        refine ⟨_, LeL.refl _, constant6_con nms[j] _ _ ?_⟩
        intro hz1 hz2; clear hz1 hz2
        refine ⟨?_, ?_⟩
        · simp only [List.length_map, List.length_cons, List.length_nil]
          show _ * (80 + 1) ≤ _
          omega
        refine own_of (q := q) (H0 := H) ?_ ?_ ?_ (fun c' hc => ?_)
        · exact rfl
        · exact rfl
        · exact fun _ h => h
        have hsub2 : List.Sublist H ((c'.b, .cap c') :: H) := List.sublist_cons_self _ _
        refine ⟨[0, 1, 2, 3, 4, 5, 6, 7, 8, 9, 10, 11, 12, 13], [], ord_fast (by kernel_rfl), by simp, ?_⟩
        refine ⟨j, rfl, _, hat, ?_⟩
        cases rc with
        | false =>
          refine ⟨_, LeL.refl _, (ref04Any_con (bC nms[j]) 0).to (by rw [hrc]) _ _ ?_⟩
          intro hz1 hz2; clear hz1 hz2
          exact finH _ hsub2
        | true =>
          refine ⟨_, LeL.refl _, (ref04Any_con (bC nms[j]) 0).to (by rw [hrc]) _ _ ?_⟩
          intro hz1 hz2; clear hz1 hz2
          refine ⟨j, rfl, _, stAt hlt, ?_⟩
          cases lv with
          | true =>
            refine ⟨_, LeL.refl _, (leveled_con nms[j] _ t (Nat.le_refl _)).to (by rw [hlv]) _ _ ?_⟩
            intro hz1 hz2; clear hz1 hz2
            exact finH _ hsub2
          | false =>
            refine ⟨_, LeL.refl _, (leveled_con nms[j] _ t (Nat.le_refl _)).to (by rw [hlv]) _ _ ?_⟩
            intro hz1 hz2; clear hz1 hz2
            refine ⟨in64_of (by first | omega | (dsimp only; omega)) (by first | omega | (dsimp only; omega)), ?_⟩
            refine ⟨(some c', j + 1), ⟨by simp only; omega, ?_⟩, by (try dsimp only); omega, ?_⟩
            · intro c hc
              simp only at hc
              rw [List.take_succ_eq_append_getElem hlt] at hc
              rcases List.mem_append.1 hc with hc | hc
              · exact hall c hc
              · rw [List.mem_singleton.1 hc]
                exact ⟨hrc, hlv⟩
            · refine ⟨⟨Le.refl _, ⟨rfl, rfl⟩, Le.refl _, ⟨rfl, rfl⟩, ?_, Le.refl _, trivial⟩, ⟨⟨rfl, LeL.refl _⟩, ⟨rfl, LeL.refl _⟩, trivial⟩, List.Sublist.refl _⟩
              show Le (.sl (.own c') 5 ((constsOf (nms.take j)).map tmA ++ [tmX (bC nms[j])])) (.sl (.own c') 5 ((constsOf (nms.take (j + 1))).map tmA))
              rw [hsn]
              exact Le.refl _
      · simp only [List.length_map] at k1
        have hj' : nms.length = j := by omega
        have htk : nms.take j = nms := by rw [← hj', List.take_length]
        rw [htk] at hall
        have hback := names_back ht hl hx (by omega) (fun c hc => (hall c hc).1) (fun c hc => (hall c hc).2)
        have hle : Le (.sl (ownQ q) 5 ((constsOf (nms.take j)).map tmA)) (.sl .no 5 ((constsOf nms).map tmA)) := by rw [htk]; exact ownQ_le _ _ _
        have hsub := bufH_sub q H
        refine sem_seq (esc := fun _ => false) tab_ok mixed ?_
        refine ⟨[tmX x, .sl .no 5 ((constsOf nms).map tmA)], ⟨Le.refl _, hle, trivial⟩, (bInst_con .no x (constsOf nms)).to (by rw [hback]) _ _ ?_⟩
        intro hz1 hz2; clear hz1 hz2
        refine sem_seq (esc := fun _ => false) tab_ok mixed ?_
        refine ⟨_, LeL.refl _, (SameTerm_con _ t t (Nat.le_refl _)).to (by rw [same6]) _ _ ?_⟩
        intro hz1 hz2; clear hz1 hz2
        refine sem_of (esc := fun _ => false) tab_ok mixed ?_
        exact finH _ hsub
end Go.Proofs.YtjmmacbblnjogaaGreatDoor

/-
  BindBack: the law's walk. No condition.
-/
namespace Go.Proofs.YtjmmacbblnjogaaGreatDoor
open Go.RowKit

/-- what is raised is right, where not too many variables are needed -/
theorem lift_right {t : Tm} (ht : tmRight 4 1125899906842624 t = true) (hlo : rLoose t ≤ 1099511627776) {c : Int} (h0 : 0 ≤ c) (h1 : c ≤ 1048576) : tmRight 4 1125899906842624 (tmLift c t 0) = true := by
  obtain ⟨tn, tf⟩ := right_fit ht
  obtain ⟨e1, e2, e3, e4⟩ := needs_of ht
  have hL : rLoose t = tmNeeds t := by
    rw [e1]; exact if_pos ht
  rw [hL] at hlo
  obtain ⟨_, rf⟩ := right_fit (right_needs ht).1
  have hmin : min (tmNeeds t) 1125899906842624 = tmNeeds t := by omega
  rw [hmin] at rf
  have hfit := fit_lift (p := 4) h0 t 0 _ rf
  exact right_of (by decide) (by decide) (by decide) (by rw [tmLift_nodes]; exact tn) (tmFit_more (by decide) (by decide) _ _ _ hfit (by omega))
theorem bLift_right {t : Tm} (ht : tmRight 4 1125899906842624 t = true) {c : Int} (h0 : 0 ≤ c) (h1 : c ≤ 1048576) : bLift t c 0 = (tmLift c t 0, true) := by
  unfold bLift smallB
  rw [if_pos ⟨ht, by simp [h0, h1], by decide⟩]
theorem back_inst {t : Tm} {args : List Tm} (ht : tmRight 4 1125899906842624 t = true) (hlo : rLoose t ≤ 1099511627776) (hl : args.length ≤ 20) (ha : ∀ a ∈ args, tmRight 4 1125899906842624 a = true) : bInst (tmLift args.length t 0) args = (t, true) := by
  obtain ⟨tn, tf⟩ := right_fit ht
  unfold bInst
  rw [if_pos ⟨lift_right ht hlo (by omega) (by omega), by omega, List.all_eq_true.2 ha⟩, inst_lift t 0 _ tf]
  exact madeB_yes tn
theorem back_lower {t : Tm} {c : Int} (ht : tmRight 4 1125899906842624 t = true) (hlo : rLoose t ≤ 1099511627776) (h0 : 0 ≤ c) (h1 : c ≤ 1048576) : bLower (tmLift c t 0) c = (t, true) := by
  unfold bLower smallB
  rw [if_pos ⟨lift_right ht hlo h0 h1, by simp [h0, h1], low_lift h0 t 0⟩, lift_lift h0, show c + -c = 0 by omega, lift_zero]
theorem back_loose {t : Tm} {c : Int} (ht : tmRight 4 1125899906842624 t = true) (hlo : rLoose t ≤ 1099511627776) (h0 : 0 ≤ c) (h1 : c ≤ 1048576) : rLoose (tmLift c t 0) = if rLoose t = 0 then 0 else rLoose t + c := by
  have e1 : rLoose t = tmLoose t 0 := if_pos ht
  have e2 : rLoose (tmLift c t 0) = tmLoose (tmLift c t 0) 0 := if_pos (lift_right ht hlo h0 h1)
  rw [e2, e1, loose_raise h0]
set_option maxRecDepth 100000 in
set_option maxHeartbeats 4000000 in
theorem bindBack_con (t : Tm) (args : List Tm) (c e : Int) : Ans Tryz.prog 3 [tmX t, .sl .no 5 (args.map tmA), .i c, .i e] (.b true) := by
  intro H Q hq
  have hlen : (args.map tmA).length = args.length := List.length_map _
  have fin : ∃ r H', Le (.b true) r ∧ List.Sublist H' H ∧ Q r H' := ⟨_, H, Le.refl _, List.Sublist.refl _, hq⟩
  have l0 := rLoose_nonneg t
  refine con_of_sem tab_ok Tryz.func3 rfl (ent Tryz.func3 (by kernel_rfl) rfl) (by kernel_rfl) ?_
  intro hw hn
  clear hw hn
  refine sem_seq (esc := fun _ => false) tab_ok mixed ?_
  refine sem_seq (esc := fun _ => false) tab_ok mixed ?_
  refine ⟨_, LeL.refl _, alive6_con _ _ ?_⟩
  intro hz1 hz2; clear hz1 hz2
  refine sem_seq (esc := fun _ => false) tab_ok mixed ?_
  refine ⟨_, LeL.refl _, great6_some .no t args _ _ (fb (fun hl => ?_) (fun _ => ?_))⟩
  rotate_left
  · intro hz1 hz2; clear hz1 hz2
    exact fin
  intro hz1 hz2; clear hz1 hz2
  have hl := hl rfl
  by_cases ht : tmRight 4 1125899906842624 t = true
  rotate_left
  · refine ⟨_, LeL.refl _, (ref04Any_con t 4).no ht _ _ ?_⟩
    intro hz1 hz2; clear hz1 hz2
    exact fin
  refine ⟨_, LeL.refl _, (ref04Any_con t 4).yes ht _ _ ?_⟩
  intro hz1 hz2; clear hz1 hz2
  refine ⟨_, LeL.refl _, rLoose_con t _ _ ?_⟩
  intro hz1 hz2; clear hz1 hz2
  refine ifB_dec (fun c2 => ?_) (fun c2 => ?_)
  · exact fin
  have hlo : rLoose t ≤ 1099511627776 := by omega
  refine sem_le ⟨[(1, .g (.sl .no 5 (args.map tmA))), (2, .g (.i c)), (3, .g (.i e)), (4, .lp 4 0), (8, .g (.b false))], [(4, (tmX t).cells)], H⟩ ?_ ?_
  · (constructor <;> repeat' (first | exact trivial | exact ⟨rfl, rfl⟩ | exact ⟨rfl, LeL.refl _⟩ | exact Le.refl _ | exact List.Sublist.refl _ | (show Le (AV.i _) (AV.i _); rw [List.length_map]; exact Le.refl _) | refine And.intro ?_ ?_))
  have hin1 : ∀ n : Int, n = args.length → bLift t n 0 = (tmLift args.length t 0, true) := fun n hn => by
    subst hn
    exact bLift_right ht (by omega) (by omega)
  refine sem_join (esc := fun _ => false) tab_ok mixed (X := Unit) (fun _ => ⟨[(1, .g (.sl .no 5 (args.map tmA))), (2, .g (.i c)), (3, .g (.i e)), (4, .lp 4 0), (8, .g (.b false))], [(4, (tmX t).cells)], H⟩) (fun _ => ∀ a ∈ args, tmRight 4 1125899906842624 a = true) ?_ (fun _ hall => ?_)
  · refine ⟨Nat, fun j => ⟨[(1, .g (.sl .no 5 (args.map tmA))), (2, .g (.i c)), (3, .g (.i e)), (4, .lp 4 0), (8, .g (.b false)), (9, .g (.i j))], [(4, (tmX t).cells)], H⟩, fun j => j ≤ args.length ∧ ∀ a ∈ args.take j, tmRight 4 1125899906842624 a = true, fun j => args.length - j, ⟨0, ⟨Nat.zero_le _, by simp⟩, ?_⟩, ?_⟩
    · (constructor <;> repeat' (first | exact trivial | exact ⟨rfl, rfl⟩ | exact ⟨rfl, LeL.refl _⟩ | exact Le.refl _ | exact List.Sublist.refl _ | (show Le (AV.i _) (AV.i _); rw [List.length_map]; exact Le.refl _) | refine And.intro ?_ ?_))
    · rintro j ⟨hj, hpre⟩
      refine ifB_dec (fun k1 => ?_) (fun k1 => ?_)
      · simp only [List.length_map] at k1
        have hlt : j < args.length := by omega
        obtain ⟨ra, hra⟩ : ∃ r, tmRight 4 1125899906842624 args[j] = r := ⟨_, rfl⟩
        refine ⟨j, rfl, _, tmAt' hlt, ?_⟩
        cases ra with
        | false =>
          refine ⟨_, LeL.refl _, (ref04Any_con args[j] 4).to (by rw [hra]) _ _ ?_⟩
          intro hz1 hz2; clear hz1 hz2
          exact fin
        | true =>
          refine ⟨_, LeL.refl _, (ref04Any_con args[j] 4).to (by rw [hra]) _ _ ?_⟩
          intro hz1 hz2; clear hz1 hz2
          refine ⟨in64_of (by first | omega | (dsimp only; omega)) (by first | omega | (dsimp only; omega)), ?_⟩
          refine ⟨j + 1, ⟨by omega, ?_⟩, by (try dsimp only); omega, ?_⟩
          · intro a ha
            rw [List.take_succ_eq_append_getElem hlt] at ha
            rcases List.mem_append.1 ha with ha | ha
            · exact hpre a ha
            · rw [List.mem_singleton.1 ha]; exact hra
          · (constructor <;> repeat' (first | exact trivial | exact ⟨rfl, rfl⟩ | exact ⟨rfl, LeL.refl _⟩ | exact Le.refl _ | exact List.Sublist.refl _ | (show Le (AV.i _) (AV.i _); rw [List.length_map]; exact Le.refl _) | refine And.intro ?_ ?_))
      · simp only [List.length_map] at k1
        have hj' : args.length = j := by omega
        subst hj'
        rw [List.take_length] at hpre
        refine ⟨(), hpre, ?_⟩
        (constructor <;> repeat' (first | exact trivial | exact ⟨rfl, rfl⟩ | exact ⟨rfl, LeL.refl _⟩ | exact Le.refl _ | exact List.Sublist.refl _ | (show Le (AV.i _) (AV.i _); rw [List.length_map]; exact Le.refl _) | refine And.intro ?_ ?_))
  have hin2 := back_inst ht hlo hl hall
  refine sem_seq (esc := fun _ => false) tab_ok mixed ?_
  refine ⟨_, LeL.refl _, (bLift_con t _ 0).to (by rw [hin1 _ (by rw [hlen])]) _ _ ?_⟩
  intro hz1 hz2; clear hz1 hz2
  refine sem_seq (esc := fun _ => false) tab_ok mixed ?_
  refine ⟨_, LeL.refl _, (bInst_con .no (tmLift args.length t 0) args).to (by rw [hin2]) _ _ ?_⟩
  intro hz1 hz2; clear hz1 hz2
  refine sem_seq (esc := fun _ => false) tab_ok mixed ?_
  refine ⟨_, LeL.refl _, (SameTerm_con _ t t (Nat.le_refl _)).to (by rw [same6]) _ _ ?_⟩
  intro hz1 hz2; clear hz1 hz2
  refine sem_seq (esc := fun _ => false) tab_ok mixed ?_
  refine ifB_dec (fun d1 => ?_) (fun d1 => ?_)
  · exact fin
  refine ifB_dec (fun d2 => ?_) (fun d2 => ?_)
  · exact fin
  refine ifB_dec (fun d3 => ?_) (fun d3 => ?_)
  · exact fin
  refine ifB_dec (fun d4 => ?_) (fun d4 => ?_)
  · exact fin
  have f1 := bLift_right ht (c := c) (by omega) (by omega)
  have hp := lift_right ht hlo (c := c) (by omega) (by omega)
  have f2 := back_lower ht hlo (c := c) (by omega) (by omega)
  have f3 : bLift (tmLift c t 0) e 0 = (tmLift (c + e) t 0, true) := by
    rw [bLift_right hp (by omega) (by omega), lift_lift (by omega)]
  have f4 := bLift_right ht (c := c + e) (by omega) (by omega)
  have f5 := back_loose ht hlo (c := c) (by omega) (by omega)
  obtain ⟨L, hL⟩ : ∃ L, rLoose t = L := ⟨_, rfl⟩
  have hLc : Ans Tryz.prog 14 [tmX t] (.i L) := (rLoose_con t).to (by rw [hL])
  rw [hL] at f5 hlo l0
  have hE : max (L + c) 0 * min L 1 = (if L = 0 then 0 else L + c) := by
    by_cases h0 : L = 0
    · rw [if_pos h0, h0, show min (0 : Int) 1 = 0 by decide, Int.mul_zero]
    · rw [if_neg h0, show min L 1 = 1 by omega, Int.mul_one]; omega
  have hE2 : in64 (max (L + c) 0 * min L 1) := by
    rw [hE]
    split
    · exact in64_of (by decide) (by decide)
    · exact in64_of (by omega) (by omega)
  refine sem_le ⟨[(1, .g (.sl .no 5 (args.map tmA))), (2, .g (.i c)), (3, .g (.i e)), (4, .lp 4 0), (8, .g (.b false))], [(4, (tmX t).cells)], H⟩ ?_ ?_
  · (constructor <;> repeat' (first | exact trivial | exact ⟨rfl, rfl⟩ | exact ⟨rfl, LeL.refl _⟩ | exact Le.refl _ | exact List.Sublist.refl _ | (show Le (AV.i _) (AV.i _); rw [List.length_map]; exact Le.refl _) | refine And.intro ?_ ?_))
  refine sem_seq (esc := fun _ => false) tab_ok mixed ?_
  refine ⟨_, LeL.refl _, (bLift_con t c 0).to (by rw [f1]) _ _ ?_⟩
  intro hz1 hz2; clear hz1 hz2
  refine sem_seq (esc := fun _ => false) tab_ok mixed ?_
  refine ⟨_, LeL.refl _, (bLower_con (tmLift c t 0) c).to (by rw [f2]) _ _ ?_⟩
  intro hz1 hz2; clear hz1 hz2
  refine sem_seq (esc := fun _ => false) tab_ok mixed ?_
  refine ⟨_, LeL.refl _, (bLift_con (tmLift c t 0) e 0).to (by rw [f3]) _ _ ?_⟩
  intro hz1 hz2; clear hz1 hz2
  refine sem_seq (esc := fun _ => false) tab_ok mixed ?_
  refine ⟨in64_of (by first | omega | (dsimp only; omega)) (by first | omega | (dsimp only; omega)), ?_⟩
  refine ⟨_, LeL.refl _, (bLift_con t (c + e) 0).to (by rw [f4]) _ _ ?_⟩
  intro hz1 hz2; clear hz1 hz2
  refine sem_seq (esc := fun _ => false) tab_ok mixed ?_
  refine ⟨[0, 1, 2, 3, 4, 5, 6, 7, 8, 9, 10, 11, 12, 13, 14, 15, 16, 17, 18, 19, 20, 21, 23, 25, 28, 22, 24, 26, 27, 29, 30, 31, 32, 33, 34], [], ord_fast (by kernel_rfl), by simp, ?_⟩
  refine ⟨_, LeL.refl _, (SameTerm_con _ t t (Nat.le_refl _)).to (by rw [same6]) _ _ ?_⟩
  intro hz1 hz2; clear hz1 hz2
  refine ⟨_, LeL.refl _, (SameTerm_con _ (tmLift (c + e) t 0) (tmLift (c + e) t 0) (Nat.le_refl _)).to (by rw [same6]) _ _ ?_⟩
  intro hz1 hz2; clear hz1 hz2
  refine ⟨_, LeL.refl _, (rLoose_con (tmLift c t 0)).to (by rw [f5]) _ _ ?_⟩
  intro hz1 hz2; clear hz1 hz2
  refine ⟨_, LeL.refl _, hLc _ _ ?_⟩
  intro hz1 hz2; clear hz1 hz2
  refine ⟨in64_of (by first | omega | (dsimp only; omega)) (by first | omega | (dsimp only; omega)), ?_⟩
  refine ⟨_, LeL.refl _, hLc _ _ ?_⟩
  intro hz1 hz2; clear hz1 hz2
  refine ⟨hE2, ?_⟩
  refine ifB_t hE.symm ?_
  refine sem_of (esc := fun _ => false) tab_ok mixed ?_
  exact fin
end Go.Proofs.YtjmmacbblnjogaaGreatDoor
