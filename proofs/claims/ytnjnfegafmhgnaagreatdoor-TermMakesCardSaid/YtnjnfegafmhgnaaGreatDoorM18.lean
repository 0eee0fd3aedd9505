/-
  Texts put together: S12. No condition.
-/
import Derived.Test.YtnjnfegafmhgnaaGreatDoorM17
/-
  TermMakes: the law's walk. No condition.
-/
namespace Go.Proofs.YtnjnfegafmhgnaaGreatDoor
open Go.RowKit

/-- nodes, up to one more than may be, and one for each -/
def capL : List Tm → Nat
  | [] => 0
  | t :: ts => min t.nodes 2001 + 1 + capL ts
theorem capL_append : ∀ a b : List Tm, capL (a ++ b) = capL a + capL b
  | [], b => by simp [capL]
  | t :: ts, b => by rw [List.cons_append, capL, capL, capL_append ts b]; omega
theorem capL_snoc {ts : List Tm} {j : Nat} (h : j < ts.length) : capL (ts.take (j + 1)) = capL (ts.take j) + (min ts[j].nodes 2001 + 1) := by
  rw [List.take_succ_eq_append_getElem h, capL_append]
  simp [capL]
theorem capL_le (ts : List Tm) : capL ts ≤ ts.length * 2002 := by
  induction ts with
  | nil => simp [capL]
  | cons t ts ih => rw [capL, List.length_cons]; omega
theorem capL_nodes {ts : List Tm} (h : ∀ t ∈ ts, t.nodes ≤ 2000) : capL ts = Tm.nodesL ts + ts.length := by
  induction ts with
  | nil => simp [capL, Tm.nodesL]
  | cons t ts ih =>
    have := ih fun u hu => h u (List.mem_cons_of_mem _ hu)
    have := h t (by simp)
    rw [capL, Tm.nodesL, List.length_cons]
    omega
set_option maxRecDepth 100000 in
set_option maxHeartbeats 4000000 in
theorem termMakes_con (f : Tm) (ts : List Tm) (k : Int) : Ans Tryz.prog 8 [tmX f, .sl .no 5 (ts.map tmA), .i k] (.b true) := by
  intro H Q hq
  have fin : ∃ r H', Le (.b true) r ∧ List.Sublist H' H ∧ Q r H' := ⟨_, H, Le.refl _, List.Sublist.refl _, hq⟩
  have hlen : (ts.map tmA).length = ts.length := List.length_map _
  obtain ⟨c10, h10⟩ : ∃ c : Int, c = ((ts.map tmA).length : Int) := ⟨_, rfl⟩
  refine con_of_sem tab_ok Tryz.func8 rfl (ent Tryz.func8 (by kernel_rfl) rfl) (by kernel_rfl) ?_
  intro hw hn
  clear hw hn
  refine sem_seq (esc := fun _ => false) tab_ok mixed ?_
  refine sem_seq (esc := fun _ => false) tab_ok mixed ?_
  refine ⟨_, LeL.refl _, alive4_con _ _ ?_⟩
  intro hz1 hz2; clear hz1 hz2
  refine sem_seq (esc := fun _ => false) tab_ok mixed ?_
  refine ⟨_, LeL.refl _, Great4_some f _ _ (fa4 ?_ ?_)⟩
  rotate_left
  · intro hz1 hz2; clear hz1 hz2
    exact fin
  intro hz1 hz2; clear hz1 hz2
  refine ifB_dec (fun c1 => ?_) (fun c1 => ?_)
  · exact fin
  refine ifB_dec (fun c2 => ?_) (fun c2 => ?_)
  · exact fin
  refine ifB_dec (fun c3 => ?_) (fun c3 => ?_)
  · exact fin
  rw [hlen] at c1
  refine sem_seq (esc := fun _ => false) tab_ok mixed ?_
  refine ⟨_, LeL.refl _, ref04Nodes_con 2000 (by omega) _ f (Nat.le_refl _) _ _ ?_⟩
  intro hz1 hz2; clear hz1 hz2
  refine sem_seq (esc := fun _ => false) tab_ok mixed ?_
  refine ⟨_, LeL.refl _, tmRight_con 4 k f _ _ ?_⟩
  intro hz1 hz2; clear hz1 hz2
  refine sem_join (esc := fun _ => false) tab_ok mixed (X := Unit) (fun _ => ⟨[(1, .g (.sl .no 5 (ts.map tmA))), (2, .g (.i k)), (3, .lp 3 0), (6, .g (.b false)), (7, .g (.i ((min f.nodes 2001 + capL ts : Nat) : Int))), (8, .g (.b (tmRight 4 k f && ts.all (tmRight 4 k))))], [(3, (tmX f).cells)], H⟩) (fun _ => True) ?_ (fun _ _ => ?_)
  · refine ⟨Nat × Bool, fun p => ⟨[(1, .g (.sl .no 5 (ts.map tmA))), (2, .g (.i k)), (3, .lp 3 0), (6, .g (.b false)), (7, .g (.i ((min f.nodes 2001 + capL (ts.take p.1) : Nat) : Int))), (8, .g (.b p.2)), (9, .g (.i p.1))], [(3, (tmX f).cells)], H⟩, fun p => p.1 ≤ ts.length ∧ p.2 = (tmRight 4 k f && (ts.take p.1).all (tmRight 4 k)), fun p => ts.length - p.1, ⟨(0, tmRight 4 k f), ⟨Nat.zero_le _, by simp⟩, ?_⟩, ?_⟩
    · (constructor <;> repeat' (first | exact trivial | exact ⟨rfl, rfl⟩ | exact ⟨rfl, LeL.refl _⟩ | exact Le.refl _ | exact List.Sublist.refl _ | (show Le (AV.i _) (AV.i _); rw [List.length_map]; exact Le.refl _) | refine And.intro ?_ ?_))
    · rintro ⟨j, r⟩ ⟨hj, hr⟩
      simp only at hj hr
      have hcl := capL_le (ts.take j)
      rw [List.length_take] at hcl
      refine ifB_dec (fun h1 => ?_) (fun h1 => ?_)
      · simp only [hlen] at h1
        have hlt : j < ts.length := by omega
        have hall : (ts.take (j + 1)).all (tmRight 4 k) = ((ts.take j).all (tmRight 4 k) && tmRight 4 k ts[j]) := by
          rw [List.take_succ_eq_append_getElem hlt, List.all_append]
          simp
        have hsn := capL_snoc hlt
        refine ⟨j, rfl, _, tmAt' hlt, ?_⟩
        refine ⟨_, LeL.refl _, Great4_some ts[j] _ _ (fa4 ?_ ?_)⟩
        rotate_left
        · intro hz1 hz2; clear hz1 hz2
          exact fin
        intro hz1 hz2; clear hz1 hz2
        refine ⟨j, rfl, _, tmAt' hlt, ?_⟩
        refine ⟨_, LeL.refl _, ref04Nodes_con 2000 (by omega) _ ts[j] (Nat.le_refl _) _ _ ?_⟩
        intro hz1 hz2; clear hz1 hz2
        refine ⟨in64_of (by first | omega | (dsimp only; omega)) (by first | omega | (dsimp only; omega)), ?_⟩
        refine ⟨in64_of (by first | omega | (dsimp only; omega)) (by first | omega | (dsimp only; omega)), ?_⟩
        cases r with
        | false =>
          refine ⟨in64_of (by first | omega | (dsimp only; omega)) (by first | omega | (dsimp only; omega)), ?_⟩
          refine ⟨(j + 1, false), ⟨by simp only; omega, ?_⟩, by (try dsimp only); omega, ?_⟩
          · simp only
            rw [hall, ← Bool.and_assoc, ← hr]
            rfl
          · refine ⟨⟨Le.refl _, Le.refl _, ⟨rfl, rfl⟩, Le.refl _, le_of_eq ?_, Le.refl _, Le.refl _, trivial⟩, ⟨⟨rfl, LeL.refl _⟩, trivial⟩, List.Sublist.refl _⟩
            show AV.i _ = AV.i _
            simp only
            rw [hsn]
            congr 1
            omega
        | true =>
          refine ⟨j, rfl, _, tmAt' hlt, ?_⟩
          refine ⟨_, LeL.refl _, tmRight_con 4 k ts[j] _ _ ?_⟩
          intro hz1 hz2; clear hz1 hz2
          refine ⟨in64_of (by first | omega | (dsimp only; omega)) (by first | omega | (dsimp only; omega)), ?_⟩
          refine ⟨(j + 1, tmRight 4 k ts[j]), ⟨by simp only; omega, ?_⟩, by (try dsimp only); omega, ?_⟩
          · simp only
            rw [hall, ← Bool.and_assoc, ← hr]
            rfl
          · refine ⟨⟨Le.refl _, Le.refl _, ⟨rfl, rfl⟩, Le.refl _, le_of_eq ?_, Le.refl _, Le.refl _, trivial⟩, ⟨⟨rfl, LeL.refl _⟩, trivial⟩, List.Sublist.refl _⟩
            show AV.i _ = AV.i _
            simp only
            rw [hsn]
            congr 1
            omega
      · simp only [hlen] at h1
        have hj' : ts.length = j := by omega
        subst hj'
        rw [List.take_length] at hr
        refine ⟨(), trivial, ⟨⟨Le.refl _, Le.refl _, ⟨rfl, rfl⟩, Le.refl _, le_of_eq ?_, ret_b hr, trivial⟩, ⟨⟨rfl, LeL.refl _⟩, trivial⟩, List.Sublist.refl _⟩⟩
        show AV.i _ = AV.i _
        simp only
        rw [List.take_length]
  obtain ⟨r, hr⟩ : ∃ r, (tmRight 4 k f && ts.all (tmRight 4 k)) = r := ⟨_, rfl⟩
  rw [hr]
  cases r with
  | false =>
    refine sem_seq (esc := fun _ => false) tab_ok mixed ?_
    exact fin
  | true =>
    rw [Bool.and_eq_true] at hr
    obtain ⟨hf, ha⟩ := hr
    have hts : ∀ t ∈ ts, tmRight 4 k t = true := fun t ht => List.all_eq_true.1 ha t ht
    obtain ⟨_, _, _, fn, ff⟩ := right_parts.1 hf
    have htn : ∀ t ∈ ts, t.nodes ≤ 2000 := fun t ht => (right_parts.1 (hts t ht)).2.2.2.1
    have htf : ∀ t ∈ ts, tmFit 4 t (min k 1125899906842624) = true := fun t ht => (right_parts.1 (hts t ht)).2.2.2.2
    have hsum : min f.nodes 2001 + capL ts = f.nodes + Tm.nodesL ts + ts.length := by rw [capL_nodes htn]; omega
    obtain ⟨sm, hsm⟩ : ∃ sm : Nat, f.nodes + Tm.nodesL ts + ts.length = sm := ⟨_, rfl⟩
    rw [hsm] at hsum
    rw [hsum]
    refine sem_seq (esc := fun _ => false) tab_ok mixed ?_
    by_cases c4 : 2000 < (sm : Int)
    · refine ifB_t c4 ?_
      exact fin
    refine ifB_f c4 ?_
    have hb : sm ≤ 2000 := by omega
    have hts1 : ∀ t ∈ ts, t.nodes ≤ 1000000 := fun t ht => by have := htn t ht; omega
    obtain ⟨a, hae⟩ : ∃ a, tmAps f ts = a := ⟨_, rfl⟩
    obtain ⟨l, hle⟩ : ∃ l, tmOver 5 f ts = l := ⟨_, rfl⟩
    obtain ⟨p, hpe⟩ : ∃ p, tmOver 6 f ts = p := ⟨_, rfl⟩
    have na : a.nodes = sm := by rw [← hae, app_nodes, hsm]
    have nl : l.nodes = sm := by rw [← hle, over_nodes, hsm]
    have np : p.nodes = sm := by rw [← hpe, over_nodes, hsm]
    have ra : tmRight 4 k a = true := right_of (by omega) (by omega) (by omega) (by omega) (by rw [← hae]; exact app_fit ts f ff htf)
    have rl : tmRight 4 k l = true := right_of (by omega) (by omega) (by omega) (by omega) (by rw [← hle]; exact over_fit (Or.inl rfl) (by omega) f ts _ ff htf)
    have rp : tmRight 4 k p = true := right_of (by omega) (by omega) (by omega) (by omega) (by rw [← hpe]; exact over_fit (Or.inr rfl) (by omega) f ts _ ff htf)
    obtain ⟨s1, s2⟩ := app_spine ts f
    rw [hae] at s1 s2
    have ansA : Ans Tryz.prog 54 [tmX f, .sl .no 5 (ts.map tmA)] (tmX a) := (App_con .no f ts (by omega) hts1 (by omega)).to (by rw [hae])
    have ansL : Ans Tryz.prog 55 [tmX f, .sl .no 5 (ts.map tmA)] (tmX l) := (Lam_con .no f ts (by omega) hts1).to (by rw [hle])
    have ansP : Ans Tryz.prog 56 [tmX f, .sl .no 5 (ts.map tmA)] (tmX p) := (Pi_con .no f ts (by omega) hts1).to (by rw [hpe])
    have ansS : Ans Tryz.prog 57 [tmX a] (.tup [tmX (tmHead f), .sl .no 5 ((tmArgs f ++ ts).map tmA)]) := (Spine_con a (by omega)).to (by rw [s1, s2])
    have nN : ∀ u : Tm, u.nodes = sm → Ans Tryz.prog 58 [tmX u] (.i sm) := fun u hu => (tmNodes_con u).to (by rw [hu, Nat.min_eq_left (by omega)])
    have hargs : ((tmArgs f).map tmA).length + (ts.map tmA).length ≤ 4000000000 := by
      have := tmArgs_len _ f (Nat.le_refl _)
      rw [List.length_map, hlen]
      omega
    have hal : ((tmArgs f ++ ts).map tmA).length = ((tmArgs f).map tmA).length + (ts.map tmA).length := by simp
    refine sem_seq (esc := fun _ => false) tab_ok mixed ?_
    refine ⟨_, LeL.refl _, ansA _ _ ?_⟩
    intro hz1 hz2; clear hz1 hz2
    refine sem_seq (esc := fun _ => false) tab_ok mixed ?_
    refine ⟨_, LeL.refl _, ansL _ _ ?_⟩
    intro hz1 hz2; clear hz1 hz2
    refine sem_seq (esc := fun _ => false) tab_ok mixed ?_
    refine ⟨_, LeL.refl _, ansP _ _ ?_⟩
    intro hz1 hz2; clear hz1 hz2
    refine sem_seq (esc := fun _ => false) tab_ok mixed ?_
    refine ⟨_, LeL.refl _, ansS _ _ ?_⟩
    intro hz1 hz2; clear hz1 hz2
    refine sem_seq (esc := fun _ => false) tab_ok mixed ?_
    refine ⟨_, LeL.refl _, Spine_con f (by omega) _ _ ?_⟩
    intro hz1 hz2; clear hz1 hz2
    refine sem_le ⟨[(1, .g (.sl .no 5 (ts.map tmA))), (2, .g (.i k)), (6, .g (.b false)), (7, .g (.i sm)), (10, .lp 10 0), (11, .lp 11 0), (12, .lp 12 0), (13, .lp 13 0), (14, .g (.sl .no 5 ((tmArgs f ++ ts).map tmA))), (15, .lp 15 0), (16, .g (.sl .no 5 ((tmArgs f).map tmA)))], [(15, (tmX (tmHead f)).cells), (13, (tmX (tmHead f)).cells), (12, (tmX p).cells), (11, (tmX l).cells), (10, (tmX a).cells), (3, (tmX f).cells)], H⟩ ?_ ?_
    · refine ⟨⟨Le.refl _, Le.refl _, Le.refl _, Le.refl _, ⟨rfl, rfl⟩, ⟨rfl, rfl⟩, ⟨rfl, rfl⟩, ⟨rfl, rfl⟩, Le.refl _, ⟨rfl, rfl⟩, Le.refl _, trivial⟩, ⟨⟨rfl, LeL.refl _⟩, ⟨rfl, LeL.refl _⟩, ⟨rfl, LeL.refl _⟩, ⟨rfl, LeL.refl _⟩, ⟨rfl, LeL.refl _⟩, ⟨rfl, LeL.refl _⟩, trivial⟩, List.Sublist.refl _⟩
    refine sem_seq (esc := fun _ => false) tab_ok mixed ?_
    refine ⟨[0, 1, 2, 3, 4, 5, 6, 7, 8, 9, 10, 11, 12, 13, 14, 16, 15, 17, 18, 19, 20, 22, 21, 23, 24, 25, 26, 28, 27, 29, 30, 31, 32, 33, 34, 35, 36, 37, 38, 39, 40, 41, 42, 43, 44, 45, 46, 47, 48, 49, 50, 51, 52], [], ord_fast (by kernel_rfl), by simp, ?_⟩
    refine ⟨_, LeL.refl _, (tmRight_con 4 k a).as ra _ _ ?_⟩
    intro hz1 hz2; clear hz1 hz2
    refine ⟨_, LeL.refl _, (tmRight_con 4 k l).as rl _ _ ?_⟩
    intro hz1 hz2; clear hz1 hz2
    refine ⟨_, LeL.refl _, (tmRight_con 4 k p).as rp _ _ ?_⟩
    intro hz1 hz2; clear hz1 hz2
    refine ⟨_, LeL.refl _, nN a na _ _ ?_⟩
    intro hz1 hz2; clear hz1 hz2
    refine ifB_t (show (sm : Int) = sm from rfl) ?_
    refine ⟨_, LeL.refl _, nN l nl _ _ ?_⟩
    intro hz1 hz2; clear hz1 hz2
    refine ifB_t (show (sm : Int) = sm from rfl) ?_
    refine ⟨_, LeL.refl _, nN p np _ _ ?_⟩
    intro hz1 hz2; clear hz1 hz2
    refine ifB_t (show (sm : Int) = sm from rfl) ?_
    refine ⟨_, LeL.refl _, (SameTerm_con _ (tmHead f) (tmHead f) (Nat.le_refl _)).as ((tmEq_iff _ _).2 rfl) _ _ ?_⟩
    intro hz1 hz2; clear hz1 hz2
    refine ⟨in64_of (by omega) (by omega), ?_⟩
    refine ifB_t (by omega) ?_
    refine ⟨_, LeL.refl _, CopyTerm_con _ a (Nat.le_refl _) (by omega) _ _ ?_⟩
    intro hz1 hz2; clear hz1 hz2
    refine ⟨_, LeL.refl _, (tmSame_con _ a a (Nat.le_refl _)).as ((tmEq_iff _ _).2 rfl) _ _ ?_⟩
    intro hz1 hz2; clear hz1 hz2
    refine sem_of (esc := fun _ => false) tab_ok mixed ?_
    exact fin

end Go.Proofs.YtnjnfegafmhgnaaGreatDoor
