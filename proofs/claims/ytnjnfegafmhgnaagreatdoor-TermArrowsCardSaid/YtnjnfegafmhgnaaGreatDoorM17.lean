/-
  Texts put together: S11. No condition.
-/
import Derived.Test.YtnjnfegafmhgnaaGreatDoorM16
/-
  TermRights: the law's walk. No condition.
-/
namespace Go.Proofs.YtnjnfegafmhgnaaGreatDoor
open Go.RowKit

theorem fa4 {C : Bool → Prop} (h0 : C false) (h1 : C true) : ∀ q, C q
  | false => h0
  | true => h1
theorem tmArgs_len : ∀ (N : Nat) (t : Tm), t.nodes ≤ N → (tmArgs t).length ≤ t.nodes := by
  intro N
  induction N with
  | zero => intro t h; have := t.nodes_pos; omega
  | succ N ih =>
    intro t h
    by_cases hs : t.kind = 4 ∧ t.args.length = 2
    · obtain ⟨_, s2⟩ := spine_step hs.1 hs.2
      have hnd := t.nodes_eq
      have hm := Tm.nodesL_mem (List.getElem_mem (show 0 < t.args.length by omega))
      have := ih (t.args[0]'(by omega)) (by omega)
      rw [s2, List.length_append, List.length_cons, List.length_nil]
      omega
    · rw [(spine_stop hs).2]
      exact Nat.zero_le _
set_option maxRecDepth 100000 in
set_option maxHeartbeats 2000000 in
theorem termRights_con (t : Tm) (n k more : Int) : Ans Tryz.prog 9 [tmX t, .i n, .i k, .i more] (.b true) := by
  intro H Q hq
  have fin : ∃ r H', Le (.b true) r ∧ List.Sublist H' H ∧ Q r H' := ⟨_, H, Le.refl _, List.Sublist.refl _, hq⟩
  refine con_of_sem tab_ok Tryz.func9 rfl (ent Tryz.func9 (by kernel_rfl) rfl) (by kernel_rfl) ?_
  intro hw hn
  clear hw hn
  refine sem_seq (esc := fun _ => false) tab_ok mixed ?_
  refine sem_seq (esc := fun _ => false) tab_ok mixed ?_
  refine ⟨_, LeL.refl _, alive4_con _ _ ?_⟩
  intro hz1 hz2; clear hz1 hz2
  refine sem_seq (esc := fun _ => false) tab_ok mixed ?_
  refine ⟨_, LeL.refl _, Great4_some t _ _ (fa4 ?_ ?_)⟩
  rotate_left
  · intro hz1 hz2; clear hz1 hz2
    exact fin
  intro hz1 hz2; clear hz1 hz2
  refine ifB_dec (fun c1 => ?_) (fun c1 => ?_)
  · exact fin
  refine ifB_dec (fun c2 => ?_) (fun c2 => ?_)
  · exact fin
  refine ifB_dec (fun c3 => ?_) (fun c3 => ?_)
  · exact fin
  refine ifB_dec (fun c4 => ?_) (fun c4 => ?_)
  · exact fin
  refine sem_seq (esc := fun _ => false) tab_ok mixed ?_
  by_cases h1 : tmRight n k t = true
  rotate_left
  · refine ⟨_, LeL.refl _, (tmRight_con n k t).no h1 _ _ ?_⟩
    intro hz1 hz2; clear hz1 hz2
    exact fin
  refine ⟨_, LeL.refl _, (tmRight_con n k t).yes h1 _ _ ?_⟩
  intro hz1 hz2; clear hz1 hz2
  obtain ⟨e1, e2, e3, e4⟩ := needs_of h1
  obtain ⟨r1, r2⟩ := right_needs h1
  obtain ⟨p0, p1, p2, p3, p4⟩ := right_parts.1 h1
  have q1 : tmRight n (k + more) t = true := right_more h1 (Int.le_refl _) p1 (by omega)
  have q2 : tmRight 4 k t = true := right_more h1 p1 (by omega) (Int.le_refl _)
  have q3 : tmNeeds t ≤ k := by omega
  have q4 : 0 ≤ tmNeeds t := by omega
  obtain ⟨L, hL⟩ : ∃ L, tmNeeds t = L := ⟨_, rfl⟩
  have hlo : Ans Tryz.prog 48 [tmX t] (.i L) := (Loose_con t).to (by rw [hL])
  rw [hL] at r1 r2 q3 q4
  refine sem_le ⟨[(1, .g (.i n)), (2, .g (.i k)), (3, .g (.i more)), (4, .lp 4 0), (8, .g (.b false))], [(4, (tmX t).cells)], H⟩ ?_ ?_
  · (constructor <;> repeat' (first | exact trivial | exact ⟨rfl, rfl⟩ | exact ⟨rfl, LeL.refl _⟩ | exact Le.refl _ | exact List.Sublist.refl _ | (show Le (AV.i _) (AV.i _); rw [List.length_map]; exact Le.refl _) | refine And.intro ?_ ?_))
  refine sem_seq (esc := fun _ => false) tab_ok mixed ?_
  refine ⟨[0, 1, 2, 3, 4, 5, 6, 7, 8, 9, 10, 11, 12, 14, 13, 15, 16, 17, 18, 19, 20, 21, 22, 23, 24, 25, 26, 27, 28, 29, 30, 31, 32, 33, 34, 35, 36, 37, 38], [], ord_fast (by kernel_rfl), by simp, ?_⟩
  refine ⟨in64_of (by first | omega | (dsimp only; omega)) (by first | omega | (dsimp only; omega)), ?_⟩
  refine ⟨_, LeL.refl _, (tmRight_con n (k + more) t).as q1 _ _ ?_⟩
  intro hz1 hz2; clear hz1 hz2
  refine ⟨_, LeL.refl _, (tmRight_con 4 k t).as q2 _ _ ?_⟩
  intro hz1 hz2; clear hz1 hz2
  refine ⟨_, LeL.refl _, hlo _ _ ?_⟩
  intro hz1 hz2; clear hz1 hz2
  refine ifB_t q3 ?_
  refine ⟨_, LeL.refl _, hlo _ _ ?_⟩
  intro hz1 hz2; clear hz1 hz2
  refine ⟨_, LeL.refl _, (tmRight_con n L t).as r1 _ _ ?_⟩
  intro hz1 hz2; clear hz1 hz2
  refine ⟨_, LeL.refl _, hlo _ _ ?_⟩
  intro hz1 hz2; clear hz1 hz2
  by_cases h0 : L = 0
  · refine ifB_t h0 ?_
    refine sem_of (esc := fun _ => false) tab_ok mixed ?_
    exact fin
  · refine ifB_f h0 ?_
    refine ⟨_, LeL.refl _, hlo _ _ ?_⟩
    intro hz1 hz2; clear hz1 hz2
    refine ⟨in64_of (by first | omega | (dsimp only; omega)) (by first | omega | (dsimp only; omega)), ?_⟩
    refine ⟨_, LeL.refl _, (tmRight_con n (L - 1) t).as (r2.resolve_left h0) _ _ ?_⟩
    intro hz1 hz2; clear hz1 hz2
    refine sem_of (esc := fun _ => false) tab_ok mixed ?_
    exact fin

end Go.Proofs.YtnjnfegafmhgnaaGreatDoor
