/-
  Texts put together: S13. No condition.
-/
import Derived.Test.YtnjnfegafmhgnaaGreatDoorM17
/-
  TermArrows: the law's walk. No condition.
-/
namespace Go.Proofs.YtnjnfegafmhgnaaGreatDoor
open Go.RowKit

/-- the greatest need of some terms, none that is not right -/
def needsM : List Tm → Int
  | [] => 0
  | t :: ts => max (tmNeeds t) (needsM ts)
theorem tmNeeds_nonneg (t : Tm) : 0 ≤ tmNeeds t := by
  unfold tmNeeds
  split
  · exact tmLoose_nonneg _ _
  · omega
theorem needsM_nonneg : ∀ ts, 0 ≤ needsM ts
  | [] => Int.le_refl _
  | t :: ts => by rw [needsM]; have := needsM_nonneg ts; omega
theorem needsM_append : ∀ a b : List Tm, needsM (a ++ b) = max (needsM a) (needsM b)
  | [], b => by have := needsM_nonneg b; simp only [List.nil_append, needsM]; omega
  | t :: ts, b => by rw [List.cons_append, needsM, needsM, needsM_append ts b]; omega
theorem needsM_snoc {ts : List Tm} {j : Nat} (h : j < ts.length) : needsM (ts.take (j + 1)) = max (needsM (ts.take j)) (tmNeeds ts[j]) := by
  have := tmNeeds_nonneg ts[j]
  rw [List.take_succ_eq_append_getElem h, needsM_append, needsM, needsM]
  omega
theorem needsM_right {ts : List Tm} (h : ∀ t ∈ ts, tmRight 4 1125899906842624 t = true) : needsM ts = needsL ts := by
  induction ts with
  | nil => rfl
  | cons t ts ih =>
    rw [needsM, needsL, ih fun u hu => h u (List.mem_cons_of_mem _ hu), (needs_of (h t (by simp))).1]
def bigsL : List Tm → Nat
  | [] => 0
  | t :: ts => min t.big 2501 + bigsL ts
theorem bigsL_snoc {ts : List Tm} {j : Nat} (h : j < ts.length) : bigsL (ts.take (j + 1)) = bigsL (ts.take j) + min ts[j].big 2501 := by
  induction ts generalizing j with
  | nil => simp at h
  | cons t ts ih =>
    cases j with
    | zero => simp [bigsL]
    | succ j => simp [bigsL, ih (by simpa using h)]; omega
theorem bigsL_le (ts : List Tm) : bigsL ts ≤ ts.length * 2501 := by
  induction ts with
  | nil => simp [bigsL]
  | cons t ts ih => rw [bigsL, List.length_cons]; omega
set_option maxRecDepth 100000 in
set_option maxHeartbeats 4000000 in
theorem termArrows_con (to : Tm) (ts : List Tm) : Ans Tryz.prog 7 [tmX to, .sl .no 5 (ts.map tmA)] (.b true) := by
  intro H Q hq
  have fin : ∃ r H', Le (.b true) r ∧ List.Sublist H' H ∧ Q r H' := ⟨_, H, Le.refl _, List.Sublist.refl _, hq⟩
  have hlen : (ts.map tmA).length = ts.length := List.length_map _
  refine con_of_sem tab_ok Tryz.func7 rfl (ent Tryz.func7 (by kernel_rfl) rfl) (by kernel_rfl) ?_
  intro hw hn
  clear hw hn
  refine sem_seq (esc := fun _ => false) tab_ok mixed ?_
  refine sem_seq (esc := fun _ => false) tab_ok mixed ?_
  refine ⟨_, LeL.refl _, alive4_con _ _ ?_⟩
  intro hz1 hz2; clear hz1 hz2
  refine sem_seq (esc := fun _ => false) tab_ok mixed ?_
  refine ⟨_, LeL.refl _, Great4_some to _ _ (fa4 ?_ ?_)⟩
  rotate_left
  · intro hz1 hz2; clear hz1 hz2
    exact fin
  intro hz1 hz2; clear hz1 hz2
  refine ifB_dec (fun c1 => ?_) (fun c1 => ?_)
  · exact fin
  rw [hlen] at c1
  refine sem_seq (esc := fun _ => false) tab_ok mixed ?_
  refine sem_seq (esc := fun _ => false) tab_ok mixed ?_
  refine ⟨_, LeL.refl _, Loose_con to _ _ ?_⟩
  intro hz1 hz2; clear hz1 hz2
  refine sem_join (esc := fun _ => false) tab_ok mixed (X := Unit) (fun _ => ⟨[(1, .g (.sl .no 5 (ts.map tmA))), (2, .lp 2 0), (4, .g (.b false)), (5, .g (.i (bigsL ts : Nat))), (6, .g (.i (max (tmNeeds to) (needsM ts))))], [(2, (tmX to).cells)], H⟩) (fun _ => True) ?_ (fun _ _ => ?_)
  · refine ⟨Nat, fun j => ⟨[(1, .g (.sl .no 5 (ts.map tmA))), (2, .lp 2 0), (4, .g (.b false)), (5, .g (.i (bigsL (ts.take j) : Nat))), (6, .g (.i (max (tmNeeds to) (needsM (ts.take j))))), (7, .g (.i j))], [(2, (tmX to).cells)], H⟩, fun j => j ≤ ts.length, fun j => ts.length - j, ⟨0, Nat.zero_le _, ?_⟩, ?_⟩
    · refine ⟨⟨Le.refl _, ⟨rfl, rfl⟩, Le.refl _, Le.refl _, le_of_eq ?_, Le.refl _, trivial⟩, ⟨⟨rfl, LeL.refl _⟩, trivial⟩, List.Sublist.refl _⟩
      show AV.i (tmNeeds to) = AV.i (max (tmNeeds to) 0)
      have := tmNeeds_nonneg to
      rw [Int.max_eq_left this]
    · intro j hj
      have hcl := bigsL_le (ts.take j)
      rw [List.length_take] at hcl
      refine ifB_dec (fun h1 => ?_) (fun h1 => ?_)
      · rw [hlen] at h1
        have hlt : j < ts.length := by omega
        refine ⟨j, rfl, _, tmAt' hlt, ?_⟩
        refine ⟨_, LeL.refl _, Great4_some ts[j] _ _ (fa4 ?_ ?_)⟩
        rotate_left
        · intro hz1 hz2; clear hz1 hz2
          exact fin
        intro hz1 hz2; clear hz1 hz2
        refine ⟨j, rfl, _, tmAt' hlt, ?_⟩
        refine ⟨_, LeL.refl _, tmBig_con 2500 (by omega) _ ts[j] (Nat.le_refl _) _ _ ?_⟩
        intro hz1 hz2; clear hz1 hz2
        refine ⟨in64_of (by first | omega | (dsimp only; omega)) (by first | omega | (dsimp only; omega)), ?_⟩
        refine ⟨j, rfl, _, tmAt' hlt, ?_⟩
        refine ⟨_, LeL.refl _, Loose_con ts[j] _ _ ?_⟩
        intro hz1 hz2; clear hz1 hz2
        refine ⟨in64_of (by first | omega | (dsimp only; omega)) (by first | omega | (dsimp only; omega)), ?_⟩
        refine ⟨j + 1, by omega, by (try dsimp only); omega, ⟨⟨Le.refl _, ⟨rfl, rfl⟩, Le.refl _, le_of_eq ?_, le_of_eq ?_, Le.refl _, trivial⟩, ⟨⟨rfl, LeL.refl _⟩, trivial⟩, List.Sublist.refl _⟩⟩
        · show AV.i _ = AV.i _
          rw [bigsL_snoc hlt]
          congr 1
        · show AV.i _ = AV.i _
          rw [needsM_snoc hlt]
          congr 1
          omega
      · rw [hlen] at h1
        have hj' : ts.length = j := by omega
        subst hj'
        refine ⟨(), trivial, ⟨⟨Le.refl _, ⟨rfl, rfl⟩, Le.refl _, le_of_eq ?_, le_of_eq ?_, trivial⟩, ⟨⟨rfl, LeL.refl _⟩, trivial⟩, List.Sublist.refl _⟩⟩
        · show AV.i _ = AV.i _
          rw [List.take_length]
        · show AV.i _ = AV.i _
          rw [List.take_length]
  refine sem_seq (esc := fun _ => false) tab_ok mixed ?_
  refine ifB_dec (fun c2 => ?_) (fun c2 => ?_)
  · exact fin
  refine ifB_dec (fun c3 => ?_) (fun c3 => ?_)
  · exact fin
  obtain ⟨le, hle⟩ : ∃ l, max (tmNeeds to) (needsM ts) = l := ⟨_, rfl⟩
  rw [hle] at c3
  obtain ⟨ar, har⟩ : ∃ r, tmArrow to ts = r := ⟨_, rfl⟩
  obtain ⟨x, ok⟩ := ar
  have ans1 : Ans Tryz.prog 50 [tmX to, .sl .no 5 (ts.map tmA)] (.tup [tmX x, .b ok]) := (Arrow_con .no to ts (by omega)).to (by rw [har])
  have ans2 : Ans Tryz.prog 51 [tmX to, .sl .no 5 (ts.map tmA)] (.tup [tmX x, .b ok]) := (RefArrow_con .no to ts (by omega)).to (by rw [har])
  refine sem_le ⟨[(1, .g (.sl .no 5 (ts.map tmA))), (2, .lp 2 0), (4, .g (.b false)), (6, .g (.i le))], [(2, (tmX to).cells)], H⟩ ?_ ?_
  · refine ⟨⟨Le.refl _, ⟨rfl, rfl⟩, Le.refl _, ret_i hle, trivial⟩, ⟨⟨rfl, LeL.refl _⟩, trivial⟩, List.Sublist.refl _⟩
  refine sem_seq (esc := fun _ => false) tab_ok mixed ?_
  refine ⟨_, LeL.refl _, ans1 _ _ ?_⟩
  intro hz1 hz2; clear hz1 hz2
  refine sem_seq (esc := fun _ => false) tab_ok mixed ?_
  refine ⟨_, LeL.refl _, ans2 _ _ ?_⟩
  intro hz1 hz2; clear hz1 hz2
  refine sem_le ⟨[(4, .g (.b false)), (6, .g (.i le)), (8, .lp 8 0), (9, .g (.b ok)), (10, .lp 10 0), (11, .g (.b ok))], [(10, (tmX x).cells), (8, (tmX x).cells), (2, (tmX to).cells)], H⟩ ?_ ?_
  · (constructor <;> repeat' (first | exact trivial | exact ⟨rfl, rfl⟩ | exact ⟨rfl, LeL.refl _⟩ | exact Le.refl _ | exact List.Sublist.refl _ | (show Le (AV.i _) (AV.i _); rw [List.length_map]; exact Le.refl _) | refine And.intro ?_ ?_))
  refine sem_seq (esc := fun _ => false) tab_ok mixed ?_
  cases ok with
  | false =>
    refine ⟨_, LeL.refl _, (SameTerm_con _ x x (Nat.le_refl _)).as ((tmEq_iff _ _).2 rfl) _ _ ?_⟩
    intro hz1 hz2; clear hz1 hz2
    refine sem_of (esc := fun _ => false) tab_ok mixed ?_
    exact fin
  | true =>
    have hok : arrowOk to ts = true := by
      rw [tmArrow] at har
      by_cases h : arrowOk to ts = true
      · exact h
      · rw [if_neg h] at har
        cases har
    have hnd : tmNeeds x = le := by
      have h2 := hok
      unfold arrowOk at h2
      simp only [Bool.and_eq_true] at h2
      have e1 := (needs_of h2.2.1).1
      have e2 := needsM_right fun t ht => List.all_eq_true.1 h2.2.2 t ht
      rw [e1, e2] at hle
      have := arrow_needs hok (by omega)
      rw [har] at this
      rw [← hle]
      exact this
    refine ⟨_, LeL.refl _, (SameTerm_con _ x x (Nat.le_refl _)).as ((tmEq_iff _ _).2 rfl) _ _ ?_⟩
    intro hz1 hz2; clear hz1 hz2
    refine ⟨_, LeL.refl _, (Loose_con x).to (by rw [hnd]) _ _ ?_⟩
    intro hz1 hz2; clear hz1 hz2
    refine ifB_t (show le = le from rfl) ?_
    refine sem_of (esc := fun _ => false) tab_ok mixed ?_
    exact fin
end Go.Proofs.YtnjnfegafmhgnaaGreatDoor
