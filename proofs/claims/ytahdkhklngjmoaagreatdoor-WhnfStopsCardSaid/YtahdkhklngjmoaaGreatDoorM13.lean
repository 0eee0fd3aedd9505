/-
  Texts put together: H1, H2, H3, H4, H5, H6, H7, H8, H9, H10. No condition.
-/
import Derived.Test.YtahdkhklngjmoaaGreatDoorM9
import Derived.Test.YtahdkhklngjmoaaGreatDoorM12
/-
  level's made, copied, Num, Max. No condition.
-/
namespace Go.Proofs.YtahdkhklngjmoaaGreatDoor
open Go.RowKit

set_option maxRecDepth 100000 in
theorem made_of {N : Nat} (hc : ∀ l : Lv, l.nodes ≤ N → Ans Tryz.prog 107 [lvX l] (lvX l)) (k : Int) (o : Own) (ls : List Lv) (hl : Lv.nodesL ls ≤ N) (hlen : ls.length ≤ 1000000) : Ans Tryz.prog 108 [.i k, .sl o 3 (ls.map lvA)] (lvX (.mk k 0 ls)) := by
  intro H Q hq
  refine con_of_awp (esc := fun _ => false) tab_ok mixed Tryz.func108 rfl (ent Tryz.func108 (by kernel_rfl) rfl) (by kernel_rfl) ?_
  intro hw hn
  refine ⟨Option Cap × Nat, fun p => ⟨[(4, .lp 4 0), (5, .lp 5 0), (10, .g (.sl o 3 (ls.map lvA))), (11, .g (.i ls.length)), (12, .g (.i p.2))], [(5, [.i k, .i 0, rowS p.1 3 ((ls.take p.2).map lvA)]), (4, [.i 0, .i 0, .sl .full 0 []])], bufH p.1 H⟩,
    fun p => p.2 ≤ ls.length ∧ (p.1 = none → p.2 = 0), fun p => ls.length - p.2, ⟨(none, 0), ⟨Nat.zero_le _, fun _ => rfl⟩, ?_⟩, ?_⟩
  · refine ⟨⟨⟨rfl, rfl⟩, ⟨rfl, rfl⟩, Le.refl _, le_of_eq ?_, Le.refl _, trivial⟩, ⟨⟨rfl, LeL.refl _⟩, ⟨rfl, LeL.refl _⟩, trivial⟩, List.Sublist.refl _⟩
    show AV.i _ = AV.i _
    rw [List.length_map]
  · rintro ⟨q, j⟩ ⟨hj, hz⟩
    simp only at hj hz
    refine ifB_dec (fun h1 => ?_) (fun h1 => ?_)
    · simp only at h1
      have hlt : j < ls.length := by omega
      have hmem := Lv.nodesL_mem (List.getElem_mem hlt)
      have hsn : (ls.take j).map lvA ++ [lvX ls[j]] = (ls.take (j + 1)).map lvA := by rw [List.take_succ_eq_append_getElem hlt, List.map_append, ← lvA_eq]; rfl
      have hnext : ∀ c' : Cap, Le (.sl (.own c') 3 ((ls.take j).map lvA ++ [lvX ls[j]])) (rowS (some c') 3 ((ls.take (j + 1)).map lvA)) := fun c' => by rw [hsn]; exact Le.refl _
      refine ⟨j, rfl, _, lvAt hlt, ?_⟩
      refine ⟨[0, 1, 2, 3, 4, 5, 6, 7], [], by kernel_rfl, by simp, ?_⟩
      refine ⟨_, LeL.refl _, hc ls[j] (by omega) _ _ ?_⟩
      intro hz1 hz2; clear hz1 hz2
      cases q with
      | none =>
        obtain rfl := hz rfl
        refine ⟨(by (first | refine Or.inl ?_ | skip); show (0 + 1) * (40 + 1) ≤ _; omega), fun c hc => ?_⟩
        refine ⟨in64_of (by first | omega | (dsimp only; omega)) (by first | omega | (dsimp only; omega)), ?_⟩
        refine ⟨(some c, 1), ⟨by simp only; omega, nofun⟩, by (try dsimp only); omega, ⟨⟨⟨rfl, rfl⟩, ⟨rfl, rfl⟩, Le.refl _, Le.refl _, Le.refl _, trivial⟩, ⟨⟨rfl, ⟨Le.refl _, Le.refl _, hnext c, trivial⟩⟩, ⟨rfl, LeL.refl _⟩, trivial⟩, List.Sublist.refl _⟩⟩
      | some c0 =>
        refine ⟨?_, _, Heap.Rem.here, fun c hc => ?_⟩
        · simp only [List.length_map, List.length_cons, List.length_nil, List.length_take]
          (first | refine Or.inl ?_ | skip)
          show _ * (40 + 1) ≤ _
          omega
        · refine ⟨in64_of (by first | omega | (dsimp only; omega)) (by first | omega | (dsimp only; omega)), ?_⟩
          refine ⟨(some c, j + 1), ⟨by simp only; omega, nofun⟩, by (try dsimp only); omega, ⟨⟨⟨rfl, rfl⟩, ⟨rfl, rfl⟩, Le.refl _, Le.refl _, Le.refl _, trivial⟩, ⟨⟨rfl, ⟨Le.refl _, Le.refl _, hnext c, trivial⟩⟩, ⟨rfl, LeL.refl _⟩, trivial⟩, List.Sublist.refl _⟩⟩
    · simp only at h1
      have hj' : ls.length = j := by omega
      subst hj'
      have hfin : Le (.agg [.i k, .i 0, rowS q 3 ((ls.take ls.length).map lvA)]) (lvX (.mk k 0 ls)) := Le.agg ⟨Le.refl _, Le.refl _, Le.trans (rowS_le fun h => by rw [hz h]; rfl) (le_of_eq (by rw [List.take_length]; rfl)), trivial⟩
      exact ⟨_, _, hfin, bufH_sub q _, hq⟩
set_option maxRecDepth 100000 in
theorem copied_con : ∀ (N : Nat) (l : Lv), l.nodes ≤ N → N ≤ 1000000 → Ans Tryz.prog 107 [lvX l] (lvX l) := by
  intro N
  induction N with
  | zero => intro l h; have := l.nodes_pos; omega
  | succ N ih =>
    intro l hN hN1 H Q hq
    have hnd := l.nodes_eq
    have hlen : l.args.length ≤ Lv.nodesL l.args := by
      rw [lvNodes_sum]
      generalize l.args = xs
      induction xs with
      | nil => simp
      | cons a xs ih => have := a.nodes_pos; simp; omega
    refine con_of_awp (esc := fun _ => false) tab_ok mixed Tryz.func107 rfl (ent Tryz.func107 (by kernel_rfl) rfl) (by kernel_rfl) ?_
    intro hw hn
    refine ⟨_, LeL.refl _, made_of (N := N) (fun a ha => ih a ha (by omega)) l.kind _ l.args (by omega) (by omega) _ _ ?_⟩
    intro hz1 hz2; clear hz1 hz2
    exact ⟨_, H, le_of_eq (by cases l; rfl), List.Sublist.refl _, hq⟩
end Go.Proofs.YtahdkhklngjmoaaGreatDoor

/-
  level.Max of one level; term's fresh, App of nothing. No condition.
-/
namespace Go.Proofs.YtahdkhklngjmoaaGreatDoor
open Go.RowKit

set_option maxRecDepth 100000 in
theorem Max1_con (o : Own) (l : Lv) (hl : l.nodes ≤ 1000000) : Ans Tryz.prog 86 [.sl o 3 [lvX l]] (lvX l) := by
  intro H Q hq
  refine con_of_awp (esc := fun _ => false) tab_ok mixed Tryz.func86 rfl (ent Tryz.func86 (by kernel_rfl) rfl) (by kernel_rfl) ?_
  intro hw hn
  refine ⟨0, rfl, _, rfl, ?_⟩
  refine ⟨_, LeL.refl _, copied_con _ l hl (Nat.le_refl _) _ _ ?_⟩
  intro hz1 hz2; clear hz1 hz2
  exact ⟨_, H, Le.refl _, List.Sublist.refl _, hq⟩

set_option maxRecDepth 100000 in
set_option maxHeartbeats 1000000 in
theorem fresh_con : ∀ (N : Nat) (t : Tm), t.nodes ≤ N → N ≤ 1000000 → Ans Tryz.prog 68 [tmX t] (tmX t) := by
  intro N
  induction N with
  | zero => intro l h; have := l.nodes_pos; omega
  | succ N ih =>
    intro t hN hN1 H Q hq
    have hnd := t.nodes_eq
    have hll : t.levels.length ≤ Lv.nodesL t.levels := by
      rw [lvNodes_sum]
      generalize t.levels = xs
      induction xs with
      | nil => simp
      | cons a xs ih => have := a.nodes_pos; simp; omega
    have htl : t.args.length ≤ Tm.nodesL t.args := by
      rw [tmNodes_sum]
      generalize t.args = xs
      induction xs with
      | nil => simp
      | cons a xs ih => have := a.nodes_pos; simp; omega
    refine con_of_awp (esc := fun _ => false) tab_ok mixed Tryz.func68 rfl (ent Tryz.func68 (by kernel_rfl) rfl) (by kernel_rfl) ?_
    intro hw hn
    refine ⟨Option Cap × Nat, fun p => ⟨[(1, .lp 1 0), (2, .lp 2 0), (3, .lp 3 0), (16, .g (.sl .no 3 (t.levels.map lvA))), (17, .g (.i t.levels.length)), (18, .g (.i p.2))], [(3, [.i t.kind, .i t.n, .str t.name, rowS p.1 3 ((t.levels.take p.2).map lvA), .sl .full 0 []]), (2, [.i 0, .i 0, .str [], .sl .full 0 [], .sl .full 0 []]), (1, (tmX t).cells)], bufH p.1 H⟩,
      fun p => p.2 ≤ t.levels.length ∧ (p.1 = none → p.2 = 0), fun p => t.levels.length - p.2, ⟨(none, 0), ⟨Nat.zero_le _, fun _ => rfl⟩, ?_⟩, ?_⟩
    · refine ⟨⟨⟨rfl, rfl⟩, ⟨rfl, rfl⟩, ⟨rfl, rfl⟩, Le.refl _, le_of_eq ?_, Le.refl _, trivial⟩, ⟨⟨rfl, LeL.refl _⟩, ⟨rfl, LeL.refl _⟩, ⟨rfl, LeL.refl _⟩, trivial⟩, List.Sublist.refl _⟩
      show AV.i _ = AV.i _
      rw [List.length_map]
    · rintro ⟨q, j⟩ ⟨hj, hz⟩
      simp only at hj hz
      refine ifB_dec (fun h1 => ?_) (fun h1 => ?_)
      · simp only at h1
        have hlt : j < t.levels.length := by omega
        have hmem := Lv.nodesL_mem (List.getElem_mem hlt)
        have hsn : (t.levels.take j).map lvA ++ [lvX t.levels[j]] = (t.levels.take (j + 1)).map lvA := by rw [List.take_succ_eq_append_getElem hlt, List.map_append, ← lvA_eq]; rfl
        have hnext : ∀ c' : Cap, Le (.sl (.own c') 3 ((t.levels.take j).map lvA ++ [lvX t.levels[j]])) (rowS (some c') 3 ((t.levels.take (j + 1)).map lvA)) := fun c' => by rw [hsn]; exact Le.refl _
        refine ⟨j, rfl, _, lvAt hlt, ?_⟩
        refine ⟨[0, 1, 2, 3, 4, 5, 6, 7, 8], [], by kernel_rfl, by simp, ?_⟩
        refine ⟨_, LeL.refl _, Max1_con _ t.levels[j] (by omega) _ _ ?_⟩
        intro hz1 hz2; clear hz1 hz2
        cases q with
        | none =>
          obtain rfl := hz rfl
          refine ⟨(by (first | refine Or.inl ?_ | skip); show (0 + 1) * (40 + 1) ≤ _; omega), fun c hc => ?_⟩
          refine ⟨in64_of (by first | omega | (dsimp only; omega)) (by first | omega | (dsimp only; omega)), ?_⟩
          refine ⟨(some c, 1), ⟨by simp only; omega, nofun⟩, by (try dsimp only); omega, ⟨⟨⟨rfl, rfl⟩, ⟨rfl, rfl⟩, ⟨rfl, rfl⟩, Le.refl _, Le.refl _, Le.refl _, trivial⟩, ⟨⟨rfl, ⟨Le.refl _, Le.refl _, Le.refl _, hnext c, Le.refl _, trivial⟩⟩, ⟨rfl, LeL.refl _⟩, ⟨rfl, LeL.refl _⟩, trivial⟩, List.Sublist.refl _⟩⟩
        | some c0 =>
          refine ⟨?_, _, Heap.Rem.here, fun c hc => ?_⟩
          · simp only [List.length_map, List.length_cons, List.length_nil, List.length_take]
            (first | refine Or.inl ?_ | skip)
            show _ * (40 + 1) ≤ _
            omega
          · refine ⟨in64_of (by first | omega | (dsimp only; omega)) (by first | omega | (dsimp only; omega)), ?_⟩
            refine ⟨(some c, j + 1), ⟨by simp only; omega, nofun⟩, by (try dsimp only); omega, ⟨⟨⟨rfl, rfl⟩, ⟨rfl, rfl⟩, ⟨rfl, rfl⟩, Le.refl _, Le.refl _, Le.refl _, trivial⟩, ⟨⟨rfl, ⟨Le.refl _, Le.refl _, Le.refl _, hnext c, Le.refl _, trivial⟩⟩, ⟨rfl, LeL.refl _⟩, ⟨rfl, LeL.refl _⟩, trivial⟩, List.Sublist.refl _⟩⟩
      · simp only at h1
        have hj' : t.levels.length = j := by omega
        subst hj'
        have hlv : Le (rowS q 3 ((t.levels.take t.levels.length).map lvA)) (.sl .no 3 (t.levels.map lvA)) := Le.trans (rowS_le fun h => by rw [hz h]; rfl) (le_of_eq (by rw [List.take_length]))
        refine ⟨Option Cap × Nat, fun p => ⟨[(2, .lp 2 0), (3, .lp 3 0), (32, .g (.sl .no 5 (t.args.map tmA))), (33, .g (.i t.args.length)), (34, .g (.i p.2))], [(3, [.i t.kind, .i t.n, .str t.name, .sl .no 3 (t.levels.map lvA), rowS p.1 5 ((t.args.take p.2).map tmA)]), (2, [.i 0, .i 0, .str [], .sl .full 0 [], .sl .full 0 []]), (1, (tmX t).cells)], bufH p.1 H⟩,
          fun p => p.2 ≤ t.args.length ∧ (p.1 = none → p.2 = 0), fun p => t.args.length - p.2, ⟨(none, 0), ⟨Nat.zero_le _, fun _ => rfl⟩, ?_⟩, ?_⟩
        · refine ⟨⟨⟨rfl, rfl⟩, ⟨rfl, rfl⟩, Le.refl _, le_of_eq ?_, Le.refl _, trivial⟩, ⟨⟨rfl, ⟨Le.refl _, Le.refl _, Le.refl _, hlv, Le.refl _, trivial⟩⟩, ⟨rfl, LeL.refl _⟩, ⟨rfl, LeL.refl _⟩, trivial⟩, bufH_sub q _⟩
          show AV.i _ = AV.i _
          rw [List.length_map]
        · rintro ⟨q, j⟩ ⟨hj, hz⟩
          simp only at hj hz
          refine ifB_dec (fun h1 => ?_) (fun h1 => ?_)
          · simp only at h1
            have hlt : j < t.args.length := by omega
            have hmem := Tm.nodesL_mem (List.getElem_mem hlt)
            have hsn : (t.args.take j).map tmA ++ [tmX t.args[j]] = (t.args.take (j + 1)).map tmA := by rw [List.take_succ_eq_append_getElem hlt, List.map_append, ← tmA_eq]; rfl
            have hnext : ∀ c' : Cap, Le (.sl (.own c') 5 ((t.args.take j).map tmA ++ [tmX t.args[j]])) (rowS (some c') 5 ((t.args.take (j + 1)).map tmA)) := fun c' => by rw [hsn]; exact Le.refl _
            refine ⟨j, rfl, _, tmAt' hlt, ?_⟩
            refine ⟨[0, 1, 2, 3, 4, 5, 6, 7], [], by kernel_rfl, by simp, ?_⟩
            refine ⟨_, LeL.refl _, ih t.args[j] (by omega) (by omega) _ _ ?_⟩
            intro hz1 hz2; clear hz1 hz2
            cases q with
            | none =>
              obtain rfl := hz rfl
              refine ⟨(by (first | refine Or.inl ?_ | skip); show (0 + 1) * (80 + 1) ≤ _; omega), fun c hc => ?_⟩
              refine ⟨in64_of (by first | omega | (dsimp only; omega)) (by first | omega | (dsimp only; omega)), ?_⟩
              refine ⟨(some c, 1), ⟨by simp only; omega, nofun⟩, by (try dsimp only); omega, ⟨⟨⟨rfl, rfl⟩, ⟨rfl, rfl⟩, Le.refl _, Le.refl _, Le.refl _, trivial⟩, ⟨⟨rfl, ⟨Le.refl _, Le.refl _, Le.refl _, Le.refl _, hnext c, trivial⟩⟩, ⟨rfl, LeL.refl _⟩, ⟨rfl, LeL.refl _⟩, trivial⟩, List.Sublist.refl _⟩⟩
            | some c0 =>
              refine ⟨?_, _, Heap.Rem.here, fun c hc => ?_⟩
              · simp only [List.length_map, List.length_cons, List.length_nil, List.length_take]
                (first | refine Or.inl ?_ | skip)
                show _ * (80 + 1) ≤ _
                omega
              · refine ⟨in64_of (by first | omega | (dsimp only; omega)) (by first | omega | (dsimp only; omega)), ?_⟩
                refine ⟨(some c, j + 1), ⟨by simp only; omega, nofun⟩, by (try dsimp only); omega, ⟨⟨⟨rfl, rfl⟩, ⟨rfl, rfl⟩, Le.refl _, Le.refl _, Le.refl _, trivial⟩, ⟨⟨rfl, ⟨Le.refl _, Le.refl _, Le.refl _, Le.refl _, hnext c, trivial⟩⟩, ⟨rfl, LeL.refl _⟩, ⟨rfl, LeL.refl _⟩, trivial⟩, List.Sublist.refl _⟩⟩
          · simp only at h1
            have hj' : t.args.length = j := by omega
            subst hj'
            have hfin : Le (.agg [.i t.kind, .i t.n, .str t.name, .sl .no 3 (t.levels.map lvA), rowS q 5 ((t.args.take t.args.length).map tmA)]) (tmX t) := Le.agg ⟨Le.refl _, Le.refl _, Le.refl _, Le.refl _, Le.trans (rowS_le fun h => by rw [hz h]; rfl) (le_of_eq (by rw [List.take_length])), trivial⟩
            exact ⟨_, _, hfin, bufH_sub q _, hq⟩
end Go.Proofs.YtahdkhklngjmoaaGreatDoor

/-
  term's App of nothing; slices.Clone and Equal over texts. No condition.
-/
namespace Go.Proofs.YtahdkhklngjmoaaGreatDoor
open Go.RowKit

set_option maxRecDepth 100000 in
theorem App0_con (t : Tm) (hl : t.nodes ≤ 1000000) : Ans Tryz.prog 48 [tmX t, .sl .full 0 []] (tmX t) := by
  intro H Q hq
  refine con_of_awp (esc := fun _ => false) tab_ok mixed Tryz.func48 rfl (ent Tryz.func48 (by kernel_rfl) rfl) (by kernel_rfl) ?_
  intro hw hn
  refine ⟨_, LeL.refl _, fresh_con _ t hl (Nat.le_refl _) _ _ ?_⟩
  intro hz1 hz2; clear hz1 hz2
  refine ⟨Unit, fun _ => ⟨[(4, .lp 4 0), (5, .lp 5 0), (10, .g (.sl .full 0 [])), (11, .g (.i 0)), (12, .g (.i 0))], [(5, (tmX t).cells), (4, [.i 0, .i 0, .str [], .sl .full 0 [], .sl .full 0 []]), (2, (tmX t).cells)], H⟩, fun _ => True, fun _ => 0, ⟨(), trivial, ?_⟩, ?_⟩
  · exact ⟨⟨⟨rfl, rfl⟩, ⟨rfl, rfl⟩, Le.refl _, Le.refl _, Le.refl _, trivial⟩, ⟨⟨rfl, LeL.refl _⟩, ⟨rfl, LeL.refl _⟩, ⟨rfl, LeL.refl _⟩, trivial⟩, List.Sublist.refl _⟩
  · intro u hu
    exact ⟨_, H, Le.refl _, List.Sublist.refl _, hq⟩

set_option maxRecDepth 100000 in
theorem CloneSts_con (o : Own) (ss : List (List UInt8)) (hl : ss.length ≤ 1000000) : Ans Tryz.prog 99 [.sl o 1 (ss.map .str)] (stsX ss) := by
  intro H Q hq
  refine con_of_awp (esc := fun _ => false) tab_ok mixed Tryz.func99 rfl (ent Tryz.func99 (by kernel_rfl) rfl) (by kernel_rfl) ?_
  intro hw hn
  refine ifNil_or (fun h => ?_) (fun h => ?_)
  · have h0 : ss = [] := by simpa using h
    subst h0
    intro q
    cases q with
    | true => exact ⟨_, H, Le.nil _ _, List.Sublist.refl _, hq⟩
    | false =>
      refine ⟨by decide, ?_⟩
      exact ⟨_, H, Le.own _ _ _, List.Sublist.refl _, hq⟩
  · refine ⟨?_, ifNil_or (fun h' => absurd h' h) (fun _ => fun c hc => ?_)⟩
    · simp only [List.length_map, List.length_nil]
      (first | refine Or.inl ?_ | skip)
      show _ * (16 + 1) ≤ _
      omega
    · exact ⟨_, H, Le.own _ _ _, List.sublist_cons_self _ _, hq⟩
end Go.Proofs.YtahdkhklngjmoaaGreatDoor

/-
  slices.Equal over texts; level's inst, grown, Inst. No condition.
-/
namespace Go.Proofs.YtahdkhklngjmoaaGreatDoor
open Go.RowKit

end Go.Proofs.YtahdkhklngjmoaaGreatDoor

/-
  level's inst, grown, Inst. No condition.
-/
namespace Go.Proofs.YtahdkhklngjmoaaGreatDoor
open Go.RowKit

theorem lvInst_eq (bys : List Lv) (l : Lv) : lvInst bys l = if l.kind = 2 then bys.getD l.n.toNat (.mk 0 0 []) else .mk l.kind l.n (lvInstL bys l.args) := by cases l; rfl
theorem lvInstL_map (bys : List Lv) : ∀ ls : List Lv, lvInstL bys ls = ls.map (lvInst bys)
  | [] => rfl
  | l :: ls => by rw [lvInstL, lvInstL_map bys ls]; rfl
theorem lvLen_nodes (xs : List Lv) : xs.length ≤ Lv.nodesL xs := by
  rw [lvNodes_sum]
  induction xs with
  | nil => simp
  | cons a xs ih => have := a.nodes_pos; simp; omega
theorem lvFit_num {n : Int} {l : Lv} (h : lvFit n l = true) (h2 : l.kind = 2) : 0 ≤ l.n ∧ l.n < n := by
  rw [lvFit_parts, Bool.and_eq_true] at h
  have := h.1
  unfold lvNode at this
  simp [h2] at this
  omega

set_option maxRecDepth 100000 in
set_option maxHeartbeats 1000000 in
theorem inst_con (o : Own) (bys : List Lv) (hb : ∀ b ∈ bys, b.nodes ≤ 1000000) : ∀ (N : Nat) (l : Lv), l.nodes ≤ N → N ≤ 1000000 → lvFit bys.length l = true → Ans Tryz.prog 191 [lvX l, .sl o 3 (bys.map lvA)] (lvX (lvInst bys l)) := by
  intro N
  induction N with
  | zero => intro l h; have := l.nodes_pos; omega
  | succ N ih =>
    intro l hN hN1 hfit H Q hq
    have hnd := l.nodes_eq
    have hla := lvLen_nodes l.args
    rw [lvInst_eq] at hq
    refine con_of_awp (esc := fun _ => false) tab_ok mixed Tryz.func191 rfl (ent Tryz.func191 (by kernel_rfl) rfl) (by kernel_rfl) ?_
    intro hw hn
    refine ifB_dec (fun h0 => ?_) (fun h0 => ?_)
    · rw [if_pos h0] at hq
      have hr := lvFit_num hfit h0
      have hlt : l.n.toNat < bys.length := by omega
      have he : bys.getD l.n.toNat (.mk 0 0 []) = bys[l.n.toNat] := by simp [List.getD_eq_getElem?_getD, hlt]
      rw [he] at hq
      refine ⟨l.n.toNat, by omega, _, lvAt hlt, ?_⟩
      refine ⟨_, LeL.refl _, copied_con _ _ (hb _ (List.getElem_mem hlt)) (Nat.le_refl _) _ _ ?_⟩
      intro hz1 hz2; clear hz1 hz2
      exact ⟨_, H, Le.refl _, List.Sublist.refl _, hq⟩
    · rw [if_neg h0, lvInstL_map] at hq
      refine ⟨Option Cap × Nat, fun p => ⟨[(1, .g (.sl o 3 (bys.map lvA))), (4, .lp 4 0), (5, .lp 5 0), (23, .g (.sl .no 3 (l.args.map lvA))), (24, .g (.i l.args.length)), (25, .g (.i p.2))], [(5, [.i l.kind, .i l.n, rowS p.1 3 (((l.args.take p.2).map (lvInst bys)).map lvA)]), (4, [.i 0, .i 0, .sl .full 0 []]), (2, (lvX l).cells)], bufH p.1 H⟩,
        fun p => p.2 ≤ l.args.length ∧ (p.1 = none → p.2 = 0), fun p => l.args.length - p.2, ⟨(none, 0), ⟨Nat.zero_le _, fun _ => rfl⟩, ?_⟩, ?_⟩
      · refine ⟨⟨Le.refl _, ⟨rfl, rfl⟩, ⟨rfl, rfl⟩, Le.refl _, le_of_eq ?_, Le.refl _, trivial⟩, ⟨⟨rfl, LeL.refl _⟩, ⟨rfl, LeL.refl _⟩, ⟨rfl, LeL.refl _⟩, trivial⟩, List.Sublist.refl _⟩
        show AV.i _ = AV.i _
        rw [List.length_map]
      · rintro ⟨q, j⟩ ⟨hj, hz⟩
        simp only at hj hz
        refine ifB_dec (fun h1 => ?_) (fun h1 => ?_)
        · simp only at h1
          have hlt : j < l.args.length := by omega
          have hmem := Lv.nodesL_mem (List.getElem_mem hlt)
          have hsn : ((l.args.take j).map (lvInst bys)).map lvA ++ [lvX (lvInst bys l.args[j])] = ((l.args.take (j + 1)).map (lvInst bys)).map lvA := by rw [List.take_succ_eq_append_getElem hlt, List.map_append, List.map_append, ← lvA_eq]; rfl
          have hnext : ∀ c' : Cap, Le (.sl (.own c') 3 (((l.args.take j).map (lvInst bys)).map lvA ++ [lvX (lvInst bys l.args[j])])) (rowS (some c') 3 (((l.args.take (j + 1)).map (lvInst bys)).map lvA)) := fun c' => by rw [hsn]; exact Le.refl _
          refine ⟨j, rfl, _, lvAt hlt, ?_⟩
          refine ⟨[0, 1, 2, 3, 4, 5, 6, 7, 8], [], by kernel_rfl, by simp, ?_⟩
          refine ⟨_, LeL.refl _, ih l.args[j] (by omega) (by omega) (lvFit_arg hfit (List.getElem_mem hlt)) _ _ ?_⟩
          intro hz1 hz2; clear hz1 hz2
          cases q with
          | none =>
            obtain rfl := hz rfl
            refine ⟨(by (first | refine Or.inl ?_ | skip); show (0 + 1) * (40 + 1) ≤ _; omega), fun c hc => ?_⟩
            refine ⟨in64_of (by first | omega | (dsimp only; omega)) (by first | omega | (dsimp only; omega)), ?_⟩
            refine ⟨(some c, 1), ⟨by simp only; omega, nofun⟩, by (try dsimp only); omega, ⟨⟨Le.refl _, ⟨rfl, rfl⟩, ⟨rfl, rfl⟩, Le.refl _, Le.refl _, Le.refl _, trivial⟩, ⟨⟨rfl, ⟨Le.refl _, Le.refl _, hnext c, trivial⟩⟩, ⟨rfl, LeL.refl _⟩, ⟨rfl, LeL.refl _⟩, trivial⟩, List.Sublist.refl _⟩⟩
          | some c0 =>
            refine ⟨?_, _, Heap.Rem.here, fun c hc => ?_⟩
            · simp only [List.length_map, List.length_cons, List.length_nil, List.length_take]
              (first | refine Or.inl ?_ | skip)
              show _ * (40 + 1) ≤ _
              omega
            · refine ⟨in64_of (by first | omega | (dsimp only; omega)) (by first | omega | (dsimp only; omega)), ?_⟩
              refine ⟨(some c, j + 1), ⟨by simp only; omega, nofun⟩, by (try dsimp only); omega, ⟨⟨Le.refl _, ⟨rfl, rfl⟩, ⟨rfl, rfl⟩, Le.refl _, Le.refl _, Le.refl _, trivial⟩, ⟨⟨rfl, ⟨Le.refl _, Le.refl _, hnext c, trivial⟩⟩, ⟨rfl, LeL.refl _⟩, ⟨rfl, LeL.refl _⟩, trivial⟩, List.Sublist.refl _⟩⟩
        · simp only at h1
          have hj' : l.args.length = j := by omega
          subst hj'
          have hfin : Le (.agg [.i l.kind, .i l.n, rowS q 3 (((l.args.take l.args.length).map (lvInst bys)).map lvA)]) (lvX (.mk l.kind l.n (l.args.map (lvInst bys)))) := Le.agg ⟨Le.refl _, Le.refl _, Le.trans (rowS_le fun h => by rw [hz h]; rfl) (le_of_eq (by rw [List.take_length]; rfl)), trivial⟩
          exact ⟨_, _, hfin, bufH_sub q _, hq⟩
end Go.Proofs.YtahdkhklngjmoaaGreatDoor

/-
  level's grown, Inst. No condition.
-/
namespace Go.Proofs.YtahdkhklngjmoaaGreatDoor
open Go.RowKit

theorem lvGrown_eq (bys : List Lv) (l : Lv) : lvGrown bys l = if l.kind = 2 then min (bys.getD l.n.toNat (.mk 0 0 [])).nodes 65 else 1 + lvGrownL bys l.args := by cases l; rfl
theorem lvGrownL_snoc (bys : List Lv) {ls : List Lv} {k : Nat} (h : k < ls.length) : lvGrownL bys (ls.take (k + 1)) = lvGrownL bys (ls.take k) + lvGrown bys ls[k] := by
  induction ls generalizing k with
  | nil => simp at h
  | cons a ls ih =>
    cases k with
    | zero => simp [lvGrownL]
    | succ k => simp [lvGrownL, ih (by simpa using h)]; omega
mutual
theorem lvGrown_le (bys : List Lv) : ∀ l : Lv, lvGrown bys l ≤ 65 * l.nodes
  | .mk k m xs => by
    have := lvGrownL_le bys xs
    simp only [lvGrown, Lv.nodes]
    split <;> omega
theorem lvGrownL_le (bys : List Lv) : ∀ ls : List Lv, lvGrownL bys ls ≤ 65 * Lv.nodesL ls
  | [] => by simp [lvGrownL]
  | l :: ls => by
    have := lvGrown_le bys l
    have := lvGrownL_le bys ls
    simp only [lvGrownL, Lv.nodesL]; omega
end

set_option maxRecDepth 100000 in
theorem grown_con (o : Own) (bys : List Lv) : ∀ (N : Nat) (l : Lv), l.nodes ≤ N → N ≤ 1000000 → lvFit bys.length l = true → Ans Tryz.prog 190 [lvX l, .sl o 3 (bys.map lvA)] (.i (lvGrown bys l)) := by
  intro N
  induction N with
  | zero => intro l h; have := l.nodes_pos; omega
  | succ N ih =>
    intro l hN hN1 hfit H Q hq
    have hnd := l.nodes_eq
    have hla := lvLen_nodes l.args
    rw [lvGrown_eq] at hq
    refine con_of_awp (esc := fun _ => false) tab_ok mixed Tryz.func190 rfl (ent Tryz.func190 (by kernel_rfl) rfl) (by kernel_rfl) ?_
    intro hw hn
    refine ifB_dec (fun h0 => ?_) (fun h0 => ?_)
    · rw [if_pos h0] at hq
      have hr := lvFit_num hfit h0
      have hlt : l.n.toNat < bys.length := by omega
      have he : bys.getD l.n.toNat (.mk 0 0 []) = bys[l.n.toNat] := by simp [List.getD_eq_getElem?_getD, hlt]
      rw [he] at hq
      refine ⟨l.n.toNat, by omega, _, lvAt hlt, ?_⟩
      refine ⟨_, LeL.refl _, lvNodes_con _ _ _ ?_⟩
      intro hz1 hz2; clear hz1 hz2
      exact ⟨_, H, Le.refl _, List.Sublist.refl _, hq⟩
    · rw [if_neg h0] at hq
      refine ⟨Nat, fun j => ⟨[(1, .g (.sl o 3 (bys.map lvA))), (4, .g (.i 0)), (5, .g (.i (1 + lvGrownL bys (l.args.take j) : Nat))), (18, .g (.sl .no 3 (l.args.map lvA))), (19, .g (.i l.args.length)), (20, .g (.i j))], [], H⟩,
        fun j => j ≤ l.args.length, fun j => l.args.length - j, ⟨0, Nat.zero_le _, ?_⟩, ?_⟩
      · refine ⟨⟨Le.refl _, Le.refl _, Le.refl _, Le.refl _, le_of_eq ?_, Le.refl _, trivial⟩, trivial, List.Sublist.refl _⟩
        show AV.i _ = AV.i _
        rw [List.length_map]
      · intro j hj
        refine ifB_dec (fun h1 => ?_) (fun h1 => ?_)
        · have hlt : j < l.args.length := by omega
          have hmem := Lv.nodesL_mem (List.getElem_mem hlt)
          have hs := lvGrownL_snoc bys hlt
          have hle := lvGrownL_le bys (l.args.take (j + 1))
          have hp := nodesL_le l.args (j + 1)
          refine ⟨j, rfl, _, lvAt hlt, ?_⟩
          refine ⟨_, LeL.refl _, ih l.args[j] (by omega) (by omega) (lvFit_arg hfit (List.getElem_mem hlt)) _ _ ?_⟩
          intro hz1 hz2; clear hz1 hz2
          refine ⟨in64_of (by first | omega | (dsimp only; omega)) (by first | omega | (dsimp only; omega)), ?_⟩
          refine ⟨in64_of (by first | omega | (dsimp only; omega)) (by first | omega | (dsimp only; omega)), ?_⟩
          refine ⟨j + 1, (by omega), by (try dsimp only); omega, ⟨⟨Le.refl _, Le.refl _, le_of_eq (congrArg AV.i (by omega)), Le.refl _, Le.refl _, Le.refl _, trivial⟩, trivial, List.Sublist.refl _⟩⟩
        · have hj' : l.args.length = j := by omega
          subst hj'
          exact ⟨_, H, le_of_eq (congrArg AV.i (by rw [List.take_length])), List.Sublist.refl _, hq⟩
end Go.Proofs.YtahdkhklngjmoaaGreatDoor

/-
  A row that a loop appends to, in one way whether there is room or not; states that fit. No condition.
-/
namespace Go.Proofs.YtahdkhklngjmoaaGreatDoor
open Go.RowKit

/-- whose room a row is that one may append to: nobody's yet, or one's own -/
def ownQ (q : Option Cap) : Own :=
  match q with
  | none => .full
  | some c => .own c
theorem own_of {q : Option Cap} {H0 HH : Heap} {b : Bool} {R1 : Cap → Prop} {R : Cap → Heap → Prop} (hH : HH = bufH q H0) (hb : b = true) (hR : ∀ c, R c HH → R1 c) (h : ∀ c : Cap, c.b ∉ H0.keys → R c H0) :
    (match ownQ q with
      | .no => False
      | .full => ∀ c : Cap, c.b ∉ HH.keys → R1 c
      | .own c0 => bif b then (∃ H0, Heap.Rem (c0.b, .cap c0) HH H0 ∧ ∀ c : Cap, c.b ∉ H0.keys → R c H0) else False) := by
  subst hH
  subst hb
  cases q with
  | none => exact fun c hc => hR c (h c hc)
  | some c0 => exact ⟨H0, Heap.Rem.here, h⟩
theorem ntrue {q : Bool} (h : ¬ q = true) : q = false := by cases q; rfl; exact absurd rfl h
theorem Ans.yes {P : Program} {f : FuncId} {args : List AV} {q : Bool} (h : Ans P f args (.b q)) (e : q = true) : Ans P f args (.b true) := e ▸ h
theorem Ans.no {P : Program} {f : FuncId} {args : List AV} {q : Bool} (h : Ans P f args (.b q)) (e : ¬ q = true) : Ans P f args (.b false) := ntrue e ▸ h
theorem Ans.to {P : Program} {f : FuncId} {args : List AV} {r r' : AV} (h : Ans P f args r) (e : r = r') : Ans P f args r' := e ▸ h
theorem ownQ_le (q : Option Cap) (s : Nat) (xs : List AV) : Le (.sl (ownQ q) s xs) (.sl .no s xs) := Le.own _ _ _

/-! level.Inst -/
/-- a level with others in place of its parameters; false: it is none, or one of the others -/
def lvIn (bys : List Lv) (l : Lv) : Lv × Bool := if lvInstOk bys l = true then (lvInst bys l, true) else (lv0, false)
theorem lvRight_both {n : Int} {l : Lv} (h : lvRight n l = true) : l.nodes ≤ 64 ∧ lvFit n l = true := by
  unfold lvRight at h
  simp only [Bool.and_eq_true, decide_eq_true_eq] at h
  exact ⟨h.1.2, h.2⟩

set_option maxRecDepth 100000 in
theorem Inst_con (o : Own) (bys : List Lv) (l : Lv) : Ans Tryz.prog 183 [lvX l, .sl o 3 (bys.map lvA)] (.tup [lvX (lvIn bys l).1, .b (lvIn bys l).2]) := by
  intro H Q hq
  have hm : (bys.map lvA).length = bys.length := List.length_map _
  have no : lvInstOk bys l = false → ∃ r H', Le (.tup [.agg [.i 0, .i 0, .sl .full 0 []], .b false]) r ∧ List.Sublist H' H ∧ Q r H' := fun h => ⟨.tup [lvX (lvIn bys l).1, .b (lvIn bys l).2], H, Le.tup ⟨by rw [lvIn, if_neg (by rw [h]; decide)]; exact le_lv0, by rw [lvIn, if_neg (by rw [h]; decide)]; exact Le.refl _, trivial⟩, List.Sublist.refl _, hq⟩
  have yes : lvInstOk bys l = true → ∃ r H', Le (.tup [lvX (lvInst bys l), .b true]) r ∧ List.Sublist H' H ∧ Q r H' := fun h => ⟨_, H, le_of_eq (by rw [lvIn, if_pos h]), List.Sublist.refl _, hq⟩
  refine con_of_awp (esc := fun _ => false) tab_ok mixed Tryz.func183 rfl (ent Tryz.func183 (by kernel_rfl) rfl) (by kernel_rfl) ?_
  intro hw hn
  have hlen : bys.length ≤ 9223372036854775807 := by
    have := Wf.len (hw (.sl o 3 (bys.map lvA)) (by simp))
    simpa using this
  by_cases h1 : lvRight bys.length l = true
  rotate_left
  · refine ⟨_, LeL.refl _, (lvRight_con _ l).no (by rw [hm]; exact h1) _ _ ?_⟩
    intro hz1 hz2; clear hz1 hz2
    exact no (by unfold lvInstOk; rw [ntrue h1]; rfl)
  refine ⟨_, LeL.refl _, (lvRight_con _ l).yes (by rw [hm]; exact h1) _ _ ?_⟩
  intro hz1 hz2; clear hz1 hz2
  have hfit := lvRight_both h1
  refine ⟨Nat, fun j => ⟨[(1, .g (.sl o 3 (bys.map lvA))), (2, .lp 2 0), (4, .lp 4 0), (5, .g (.b false)), (14, .g (.sl o 3 (bys.map lvA))), (15, .g (.i bys.length)), (16, .g (.i j))], [(4, [.i 0, .i 0, .sl .full 0 []]), (2, (lvX l).cells)], H⟩,
    fun j => j ≤ bys.length ∧ (bys.take j).all (lvRight 4) = true, fun j => bys.length - j, ⟨0, ⟨Nat.zero_le _, rfl⟩, ?_⟩, ?_⟩
  · (constructor <;> repeat' (first | exact trivial | exact ⟨rfl, rfl⟩ | exact ⟨rfl, LeL.refl _⟩ | exact Le.refl _ | exact List.Sublist.refl _ | (show Le (AV.i _) (AV.i _); rw [List.length_map]; exact Le.refl _) | refine And.intro ?_ ?_))
  · rintro j ⟨hj, hall⟩
    refine ifB_dec (fun h2 => ?_) (fun h2 => ?_)
    · have hlt : j < bys.length := by omega
      refine ⟨j, rfl, _, lvAt hlt, ?_⟩
      by_cases h3 : lvRight 4 bys[j] = true
      · refine ⟨_, LeL.refl _, (lvRight_con _ _).yes h3 _ _ ?_⟩
        intro hz1 hz2; clear hz1 hz2
        refine ⟨in64_of (by first | omega | (dsimp only; omega)) (by first | omega | (dsimp only; omega)), ?_⟩
        refine ⟨j + 1, ⟨by omega, all_take hlt hall h3⟩, by (try dsimp only); omega, ?_⟩
        (constructor <;> repeat' (first | exact trivial | exact ⟨rfl, rfl⟩ | exact ⟨rfl, LeL.refl _⟩ | exact Le.refl _ | exact List.Sublist.refl _ | (show Le (AV.i _) (AV.i _); rw [List.length_map]; exact Le.refl _) | refine And.intro ?_ ?_))
      · refine ⟨_, LeL.refl _, (lvRight_con _ _).no h3 _ _ ?_⟩
        intro hz1 hz2; clear hz1 hz2
        exact no (by unfold lvInstOk; rw [all_no hlt (ntrue h3)]; simp)
    · have hj' : bys.length = j := by omega
      subst hj'
      rw [List.take_length] at hall
      refine ⟨_, LeL.refl _, grown_con o bys _ l (Nat.le_refl _) (by omega) hfit.2 _ _ ?_⟩
      intro hz1 hz2; clear hz1 hz2
      refine ifB_dec (fun h4 => ?_) (fun h4 => ?_)
      · exact no (by unfold lvInstOk; rw [decide_eq_false (show ¬ lvGrown bys l ≤ 64 by omega)]; simp)
      · refine ⟨_, LeL.refl _, inst_con o bys (fun b hb => by have := (lvRight_both (List.all_eq_true.1 hall b hb)).1; omega) _ l (Nat.le_refl _) (by omega) hfit.2 _ _ ?_⟩
        intro hz1 hz2; clear hz1 hz2
        exact yes (by unfold lvInstOk; rw [h1, hall, decide_eq_true (show lvGrown bys l ≤ 64 by omega)]; rfl)
end Go.Proofs.YtahdkhklngjmoaaGreatDoor

/-
  Entries, plain; the reference's SameEntry, decl's span, empty, wrong. No condition.
-/
namespace Go.Proofs.YtahdkhklngjmoaaGreatDoor
open Go.RowKit

/-- an entry -/
structure En where
  kind : Int
  params : Int
  name : List UInt8
  type : Tm
  value : Tm
  height : Int
  family : List UInt8
  fixed : Int
  index : Int
  fields : Int
  ctors : List (List UInt8)
def enX (e : En) : AV := .agg [.i e.kind, .i e.params, .str e.name, .i e.type.kind, .i e.type.n, .str e.type.name, .sl .no 3 (e.type.levels.map lvA), .sl .no 5 (e.type.args.map tmA), .i e.value.kind, .i e.value.n, .str e.value.name, .sl .no 3 (e.value.levels.map lvA), .sl .no 5 (e.value.args.map tmA), .i e.height, .str e.family, .i e.fixed, .i e.index, .i e.fields, .sl .no 1 (e.ctors.map .str)]
def en0 : En := ⟨0, 0, [], tm0, tm0, 0, [], 0, 0, 0, []⟩
def spanB (n a b : Int) : Bool := decide (a ≤ n) && decide (n ≤ b)
def enValued (e : En) : Bool :=
  if 2 ≤ e.kind ∧ e.kind ≤ 4 then tmRight e.params 0 e.value
  else if e.kind = 6 then tmEq e.value tm0 || tmRight (min (e.params + 1) 4) 0 e.value
  else tmEq e.value tm0
def enNumbered (e : En) : Bool :=
  if e.kind = 6 ∨ e.kind = 7 then decide (e.height = 0) && (nameOk e.family && (spanB e.fixed 0 32 && (spanB e.index 0 32 && spanB e.fields 0 32)))
  else if e.kind = 5 then decide (e.height = 0) && (decide (e.family = []) && (spanB e.fixed 0 16 && (decide (e.index = 0) && decide (e.fields = 0))))
  else if e.kind = 2 then spanB e.height 1 1048576 && (decide (e.family = []) && (decide (e.fixed = 0) && (decide (e.index = 0) && decide (e.fields = 0))))
  else decide (e.height = 0) && (decide (e.family = []) && (decide (e.fixed = 0) && (decide (e.index = 0) && decide (e.fields = 0))))
def enListed (e : En) : Bool := if e.kind = 5 ∨ e.kind = 7 then decide (e.ctors.length ≤ 8) && !(e.ctors.any fun s => !nameOk s) else decide (e.ctors.length = 0)
def enRight (e : En) : Bool := spanB e.kind 1 7 && (nameOk e.name && (spanB e.params 0 4 && (tmRight e.params 0 e.type && (enValued e && (enNumbered e && enListed e)))))
/-- an entry's term, at levels: a term, an error's number -/
def enAt (e : En) (t : Tm) (ls : List Lv) : Tm × Int :=
  if (ls.length : Int) ≠ e.params ∨ (ls.any fun l => !lvRight 4 l) = true then (tm0, 16)
  else match tmAt ls t with
    | some u => (u, 0)
    | none => (tm0, 15)
def enValue (e : En) (ls : List Lv) : Tm × Int := if enRight e = true then (if e.kind = 2 then enAt e e.value ls else (tm0, 13)) else (tm0, 10)
/-! the functions of decl that only ask -/
set_option maxRecDepth 100000 in
theorem span_con (n a b : Int) : Ans Tryz.prog 92 [.i n, .i a, .i b] (.b (spanB n a b)) := by
  intro H Q hq
  refine con_of_awp (esc := fun _ => false) tab_ok mixed Tryz.func92 rfl (ent Tryz.func92 (by kernel_rfl) rfl) (by kernel_rfl) ?_
  intro hw hn
  have fin : ∀ q : Bool, q = spanB n a b → ∃ r H', Le (.b q) r ∧ List.Sublist H' H ∧ Q r H' := fun q h => ⟨_, H, ret_b h, List.Sublist.refl _, hq⟩
  refine ifB_dec (fun h1 => ?_) (fun h1 => ?_)
  rotate_left
  · exact fin _ (by simp [spanB, h1])
  refine ifB_dec (fun h2 => ?_) (fun h2 => ?_)
  rotate_left
  · exact fin _ (by simp [spanB, h2])
  exact fin _ (by simp [spanB, h1, h2])
set_option maxRecDepth 100000 in
theorem declEmpty_con (a : Tm) : Ans Tryz.prog 119 [tmX a] (.b (tmEq a tm0)) := by
  intro H Q hq
  refine con_of_awp (esc := fun _ => false) tab_ok mixed Tryz.func119 rfl (ent Tryz.func119 (by kernel_rfl) rfl) (by kernel_rfl) ?_
  intro hw hn
  refine ⟨[tmX a, tmX tm0], ⟨Le.refl _, Le.agg ⟨Le.refl _, Le.refl _, Le.refl _, Le.nil _ _, Le.nil _ _, trivial⟩, trivial⟩, tmSame_con _ a tm0 (Nat.le_refl _) _ _ ?_⟩
  intro hz1 hz2; clear hz1 hz2
  exact ⟨_, H, Le.refl _, List.Sublist.refl _, hq⟩
set_option maxRecDepth 100000 in
theorem declWrong_con (l : Lv) : Ans Tryz.prog 189 [lvX l] (.b (!lvRight 4 l)) := by
  intro H Q hq
  refine con_of_awp (esc := fun _ => false) tab_ok mixed Tryz.func189 rfl (ent Tryz.func189 (by kernel_rfl) rfl) (by kernel_rfl) ?_
  intro hw hn
  refine ⟨_, LeL.refl _, lvRight_con _ _ _ _ ?_⟩
  intro hz1 hz2; clear hz1 hz2
  exact ⟨_, H, Le.refl _, List.Sublist.refl _, hq⟩
set_option maxRecDepth 100000 in
theorem declValued_con (e : En) (h0 : 0 ≤ e.params) (h4 : e.params ≤ 4) : Ans Tryz.prog 95 [enX e] (.b (enValued e)) := by
  intro H Q hq
  refine con_of_awp (esc := fun _ => false) tab_ok mixed Tryz.func95 rfl (ent Tryz.func95 (by kernel_rfl) rfl) (by kernel_rfl) ?_
  intro hw hn
  have fin : ∀ q : Bool, q = enValued e → ∃ r H', Le (.b q) r ∧ List.Sublist H' H ∧ Q r H' := fun q h => ⟨_, H, ret_b h, List.Sublist.refl _, hq⟩
  refine ifB_dec (fun h1 => ?_) (fun h1 => ?_)
  · refine ⟨_, LeL.refl _, tmRight_con e.params 0 e.value _ _ ?_⟩
    intro hz1 hz2; clear hz1 hz2
    exact fin _ (by simp [enValued, h1])
  · refine ifB_dec (fun h2 => ?_) (fun h2 => ?_)
    · refine ⟨_, LeL.refl _, tmRight_con e.params 0 e.value _ _ ?_⟩
      intro hz1 hz2; clear hz1 hz2
      exact fin _ (by simp [enValued, h2])
    · refine ifB_dec (fun h3 => ?_) (fun h3 => ?_)
      · refine ⟨_, LeL.refl _, tmRight_con e.params 0 e.value _ _ ?_⟩
        intro hz1 hz2; clear hz1 hz2
        exact fin _ (by simp [enValued, h3])
      · have hno : ¬ (2 ≤ e.kind ∧ e.kind ≤ 4) := by omega
        refine ifB_dec (fun h6 => ?_) (fun h6 => ?_)
        · by_cases hv : tmEq e.value tm0 = true
          · refine ⟨_, LeL.refl _, (declEmpty_con e.value).yes hv _ _ ?_⟩
            intro hz1 hz2; clear hz1 hz2
            exact fin _ (by rw [enValued, if_neg hno, if_pos h6, hv]; rfl)
          · refine ⟨_, LeL.refl _, (declEmpty_con e.value).no hv _ _ ?_⟩
            intro hz1 hz2; clear hz1 hz2
            refine ⟨in64_of (by first | omega | (dsimp only; omega)) (by first | omega | (dsimp only; omega)), ?_⟩
            refine ⟨_, LeL.refl _, tmRight_con (min (e.params + 1) 4) 0 e.value _ _ ?_⟩
            intro hz1 hz2; clear hz1 hz2
            exact fin _ (by rw [enValued, if_neg hno, if_pos h6, ntrue hv]; rfl)
        · refine ⟨_, LeL.refl _, declEmpty_con e.value _ _ ?_⟩
          intro hz1 hz2; clear hz1 hz2
          exact fin _ (by rw [enValued, if_neg hno, if_neg h6])
set_option maxRecDepth 100000 in
theorem declListed1_con (s : List UInt8) : Ans Tryz.prog 120 [.str s] (.b (!nameOk s)) := by
  intro H Q hq
  refine con_of_awp (esc := fun _ => false) tab_ok mixed Tryz.func120 rfl (ent Tryz.func120 (by kernel_rfl) rfl) (by kernel_rfl) ?_
  intro hw hn
  refine ⟨_, LeL.refl _, nameRight_con _ _ _ ?_⟩
  intro hz1 hz2; clear hz1 hz2
  exact ⟨_, H, Le.refl _, List.Sublist.refl _, hq⟩
set_option maxRecDepth 100000 in
theorem declListed_con (e : En) : Ans Tryz.prog 97 [enX e] (.b (enListed e)) := by
  intro H Q hq
  refine con_of_awp (esc := fun _ => false) tab_ok mixed Tryz.func97 rfl (ent Tryz.func97 (by kernel_rfl) rfl) (by kernel_rfl) ?_
  intro hw hn
  have fin : ∀ q : Bool, q = enListed e → ∃ r H', Le (.b q) r ∧ List.Sublist H' H ∧ Q r H' := fun q h => ⟨_, H, ret_b h, List.Sublist.refl _, hq⟩
  refine ifB_dec (fun h5 => ?_) (fun h5 => ?_)
  · refine ifB_dec (fun h8 => ?_) (fun h8 => ?_)
    · simp only [List.length_map] at h8
      refine ⟨_, LeL.refl _, ?_⟩
      refine anySt (p := fun s => !nameOk s) e.ctors H (fun a ha Q hQ => declListed1_con a H Q hQ) _ ?_
      intro hz1 hz2; clear hz1 hz2
      exact fin _ (by rw [enListed, if_pos (by omega), decide_eq_true (show e.ctors.length ≤ 8 by omega)]; rfl)
    · simp only [List.length_map] at h8
      exact fin _ (by rw [enListed, if_pos (by omega), decide_eq_false (show ¬ e.ctors.length ≤ 8 by omega)]; rfl)
  · refine ifB_dec (fun h7 => ?_) (fun h7 => ?_)
    · refine ifB_dec (fun h8 => ?_) (fun h8 => ?_)
      · simp only [List.length_map] at h8
        refine ⟨_, LeL.refl _, ?_⟩
        refine anySt (p := fun s => !nameOk s) e.ctors H (fun a ha Q hQ => declListed1_con a H Q hQ) _ ?_
        intro hz1 hz2; clear hz1 hz2
        exact fin _ (by rw [enListed, if_pos (by omega), decide_eq_true (show e.ctors.length ≤ 8 by omega)]; rfl)
      · simp only [List.length_map] at h8
        exact fin _ (by rw [enListed, if_pos (by omega), decide_eq_false (show ¬ e.ctors.length ≤ 8 by omega)]; rfl)
    · refine ifB_dec (fun h0 => ?_) (fun h0 => ?_)
      · simp only [List.length_map] at h0
        exact fin _ (by rw [enListed, if_neg (by omega), decide_eq_true (show e.ctors.length = 0 by omega)])
      · simp only [List.length_map] at h0
        exact fin _ (by rw [enListed, if_neg (by omega), decide_eq_false (show ¬ e.ctors.length = 0 by omega)])
set_option maxRecDepth 100000 in
theorem declNumbered_con (e : En) : Ans Tryz.prog 96 [enX e] (.b (enNumbered e)) := by
  intro H Q hq
  refine con_of_awp (esc := fun _ => false) tab_ok mixed Tryz.func96 rfl (ent Tryz.func96 (by kernel_rfl) rfl) (by kernel_rfl) ?_
  intro hw hn
  have fin : ∀ q : Bool, q = enNumbered e → ∃ r H', Le (.b q) r ∧ List.Sublist H' H ∧ Q r H' := fun q h => ⟨_, H, ret_b h, List.Sublist.refl _, hq⟩
  refine ifB_dec (fun h6 => ?_) (fun h6 => ?_)
  · refine ifB_dec (fun k1 => ?_) (fun k1 => ?_)
    rotate_left
    · exact fin _ (by rw [enNumbered, if_pos (by omega)]; simp [k1])
    by_cases k2 : nameOk e.family = true
    rotate_left
    · refine ⟨_, LeL.refl _, (nameRight_con e.family).no k2 _ _ ?_⟩
      intro hz1 hz2; clear hz1 hz2
      exact fin _ (by rw [enNumbered, if_pos (by omega)]; simp [k2])
    refine ⟨_, LeL.refl _, (nameRight_con e.family).yes k2 _ _ ?_⟩
    intro hz1 hz2; clear hz1 hz2
    by_cases k3 : spanB e.fixed 0 32 = true
    rotate_left
    · refine ⟨_, LeL.refl _, (span_con e.fixed 0 32).no k3 _ _ ?_⟩
      intro hz1 hz2; clear hz1 hz2
      exact fin _ (by rw [enNumbered, if_pos (by omega)]; simp [k3])
    refine ⟨_, LeL.refl _, (span_con e.fixed 0 32).yes k3 _ _ ?_⟩
    intro hz1 hz2; clear hz1 hz2
    by_cases k4 : spanB e.index 0 32 = true
    rotate_left
    · refine ⟨_, LeL.refl _, (span_con e.index 0 32).no k4 _ _ ?_⟩
      intro hz1 hz2; clear hz1 hz2
      exact fin _ (by rw [enNumbered, if_pos (by omega)]; simp [k4])
    refine ⟨_, LeL.refl _, (span_con e.index 0 32).yes k4 _ _ ?_⟩
    intro hz1 hz2; clear hz1 hz2
    refine ⟨_, LeL.refl _, span_con e.fields 0 32 _ _ ?_⟩
    intro hz1 hz2; clear hz1 hz2
    exact fin _ (by rw [enNumbered, if_pos (by omega)]; simp [k1, k2, k3, k4])
  · refine ifB_dec (fun h7 => ?_) (fun h7 => ?_)
    · refine ifB_dec (fun k1 => ?_) (fun k1 => ?_)
      rotate_left
      · exact fin _ (by rw [enNumbered, if_pos (by omega)]; simp [k1])
      by_cases k2 : nameOk e.family = true
      rotate_left
      · refine ⟨_, LeL.refl _, (nameRight_con e.family).no k2 _ _ ?_⟩
        intro hz1 hz2; clear hz1 hz2
        exact fin _ (by rw [enNumbered, if_pos (by omega)]; simp [k2])
      refine ⟨_, LeL.refl _, (nameRight_con e.family).yes k2 _ _ ?_⟩
      intro hz1 hz2; clear hz1 hz2
      by_cases k3 : spanB e.fixed 0 32 = true
      rotate_left
      · refine ⟨_, LeL.refl _, (span_con e.fixed 0 32).no k3 _ _ ?_⟩
        intro hz1 hz2; clear hz1 hz2
        exact fin _ (by rw [enNumbered, if_pos (by omega)]; simp [k3])
      refine ⟨_, LeL.refl _, (span_con e.fixed 0 32).yes k3 _ _ ?_⟩
      intro hz1 hz2; clear hz1 hz2
      by_cases k4 : spanB e.index 0 32 = true
      rotate_left
      · refine ⟨_, LeL.refl _, (span_con e.index 0 32).no k4 _ _ ?_⟩
        intro hz1 hz2; clear hz1 hz2
        exact fin _ (by rw [enNumbered, if_pos (by omega)]; simp [k4])
      refine ⟨_, LeL.refl _, (span_con e.index 0 32).yes k4 _ _ ?_⟩
      intro hz1 hz2; clear hz1 hz2
      refine ⟨_, LeL.refl _, span_con e.fields 0 32 _ _ ?_⟩
      intro hz1 hz2; clear hz1 hz2
      exact fin _ (by rw [enNumbered, if_pos (by omega)]; simp [k1, k2, k3, k4])
    · have hno : ¬ (e.kind = 6 ∨ e.kind = 7) := by omega
      refine ifB_dec (fun h5 => ?_) (fun h5 => ?_)
      · have e1 : enNumbered e = (decide (e.height = 0) && (decide (e.family = []) && (spanB e.fixed 0 16 && (decide (e.index = 0) && decide (e.fields = 0))))) := by rw [enNumbered, if_neg hno, if_pos h5]
        refine ifB_dec (fun k1 => ?_) (fun k1 => ?_)
        rotate_left
        · exact fin _ (by rw [e1]; simp [k1])
        refine ifB_dec (fun k2 => ?_) (fun k2 => ?_)
        rotate_left
        · exact fin _ (by rw [e1]; simp [show ¬ e.family = [] from k2])
        by_cases k3 : spanB e.fixed 0 16 = true
        rotate_left
        · refine ⟨_, LeL.refl _, (span_con e.fixed 0 16).no k3 _ _ ?_⟩
          intro hz1 hz2; clear hz1 hz2
          exact fin _ (by rw [e1]; simp [k3])
        refine ⟨_, LeL.refl _, (span_con e.fixed 0 16).yes k3 _ _ ?_⟩
        intro hz1 hz2; clear hz1 hz2
        refine ifB_dec (fun k4 => ?_) (fun k4 => ?_)
        rotate_left
        · exact fin _ (by rw [e1]; simp [k4])
        refine ifB_dec (fun k5 => ?_) (fun k5 => ?_)
        rotate_left
        · exact fin _ (by rw [e1]; simp [k5])
        exact fin _ (by rw [e1]; simp [k1, show e.family = [] from k2, k3, k4, k5])
      · refine ifB_dec (fun h2 => ?_) (fun h2 => ?_)
        · have e1 : enNumbered e = (spanB e.height 1 1048576 && (decide (e.family = []) && (decide (e.fixed = 0) && (decide (e.index = 0) && decide (e.fields = 0))))) := by rw [enNumbered, if_neg hno, if_neg h5, if_pos h2]
          by_cases k1 : spanB e.height 1 1048576 = true
          rotate_left
          · refine ⟨_, LeL.refl _, (span_con e.height 1 1048576).no k1 _ _ ?_⟩
            intro hz1 hz2; clear hz1 hz2
            exact fin _ (by rw [e1]; simp [k1])
          refine ⟨_, LeL.refl _, (span_con e.height 1 1048576).yes k1 _ _ ?_⟩
          intro hz1 hz2; clear hz1 hz2
          refine ifB_dec (fun k2 => ?_) (fun k2 => ?_)
          rotate_left
          · exact fin _ (by rw [e1]; simp [show ¬ e.family = [] from k2])
          refine ifB_dec (fun k3 => ?_) (fun k3 => ?_)
          rotate_left
          · exact fin _ (by rw [e1]; simp [k3])
          refine ifB_dec (fun k4 => ?_) (fun k4 => ?_)
          rotate_left
          · exact fin _ (by rw [e1]; simp [k4])
          refine ifB_dec (fun k5 => ?_) (fun k5 => ?_)
          rotate_left
          · exact fin _ (by rw [e1]; simp [k5])
          exact fin _ (by rw [e1]; simp [k1, show e.family = [] from k2, k3, k4, k5])
        · have e1 : enNumbered e = (decide (e.height = 0) && (decide (e.family = []) && (decide (e.fixed = 0) && (decide (e.index = 0) && decide (e.fields = 0))))) := by rw [enNumbered, if_neg hno, if_neg h5, if_neg h2]
          refine ifB_dec (fun k1 => ?_) (fun k1 => ?_)
          rotate_left
          · exact fin _ (by rw [e1]; simp [k1])
          refine ifB_dec (fun k2 => ?_) (fun k2 => ?_)
          rotate_left
          · exact fin _ (by rw [e1]; simp [show ¬ e.family = [] from k2])
          refine ifB_dec (fun k3 => ?_) (fun k3 => ?_)
          rotate_left
          · exact fin _ (by rw [e1]; simp [k3])
          refine ifB_dec (fun k4 => ?_) (fun k4 => ?_)
          rotate_left
          · exact fin _ (by rw [e1]; simp [k4])
          refine ifB_dec (fun k5 => ?_) (fun k5 => ?_)
          rotate_left
          · exact fin _ (by rw [e1]; simp [k5])
          exact fin _ (by rw [e1]; simp [k1, show e.family = [] from k2, k3, k4, k5])
set_option maxRecDepth 100000 in
theorem declRight_con (e : En) : Ans Tryz.prog 75 [enX e] (.b (enRight e)) := by
  intro H Q hq
  refine con_of_awp (esc := fun _ => false) tab_ok mixed Tryz.func75 rfl (ent Tryz.func75 (by kernel_rfl) rfl) (by kernel_rfl) ?_
  intro hw hn
  have fin : ∀ q : Bool, q = enRight e → ∃ r H', Le (.b q) r ∧ List.Sublist H' H ∧ Q r H' := fun q h => ⟨_, H, ret_b h, List.Sublist.refl _, hq⟩
  by_cases k1 : spanB e.kind 1 7 = true
  rotate_left
  · refine ⟨_, LeL.refl _, (span_con e.kind 1 7).no k1 _ _ ?_⟩
    intro hz1 hz2; clear hz1 hz2
    exact fin _ (by simp [enRight, k1])
  refine ⟨_, LeL.refl _, (span_con e.kind 1 7).yes k1 _ _ ?_⟩
  intro hz1 hz2; clear hz1 hz2
  by_cases k2 : nameOk e.name = true
  rotate_left
  · refine ⟨_, LeL.refl _, (nameRight_con e.name).no k2 _ _ ?_⟩
    intro hz1 hz2; clear hz1 hz2
    exact fin _ (by simp [enRight, k2])
  refine ⟨_, LeL.refl _, (nameRight_con e.name).yes k2 _ _ ?_⟩
  intro hz1 hz2; clear hz1 hz2
  by_cases k3 : spanB e.params 0 4 = true
  rotate_left
  · refine ⟨_, LeL.refl _, (span_con e.params 0 4).no k3 _ _ ?_⟩
    intro hz1 hz2; clear hz1 hz2
    exact fin _ (by simp [enRight, k3])
  refine ⟨_, LeL.refl _, (span_con e.params 0 4).yes k3 _ _ ?_⟩
  intro hz1 hz2; clear hz1 hz2
  by_cases k4 : tmRight e.params 0 e.type = true
  rotate_left
  · refine ⟨_, LeL.refl _, (tmRight_con e.params 0 e.type).no k4 _ _ ?_⟩
    intro hz1 hz2; clear hz1 hz2
    exact fin _ (by simp [enRight, k4])
  refine ⟨_, LeL.refl _, (tmRight_con e.params 0 e.type).yes k4 _ _ ?_⟩
  intro hz1 hz2; clear hz1 hz2
  have hp : 0 ≤ e.params ∧ e.params ≤ 4 := by simpa [spanB] using k3
  by_cases k5 : enValued e = true
  rotate_left
  · refine ⟨_, LeL.refl _, (declValued_con e hp.1 hp.2).no k5 _ _ ?_⟩
    intro hz1 hz2; clear hz1 hz2
    exact fin _ (by simp [enRight, k5])
  refine ⟨_, LeL.refl _, (declValued_con e hp.1 hp.2).yes k5 _ _ ?_⟩
  intro hz1 hz2; clear hz1 hz2
  by_cases k6 : enNumbered e = true
  rotate_left
  · refine ⟨_, LeL.refl _, (declNumbered_con e).no k6 _ _ ?_⟩
    intro hz1 hz2; clear hz1 hz2
    exact fin _ (by simp [enRight, k6])
  refine ⟨_, LeL.refl _, (declNumbered_con e).yes k6 _ _ ?_⟩
  intro hz1 hz2; clear hz1 hz2
  refine ⟨_, LeL.refl _, declListed_con e _ _ ?_⟩
  intro hz1 hz2; clear hz1 hz2
  exact fin _ (by simp [enRight, k1, k2, k3, k4, k5, k6])
end Go.Proofs.YtahdkhklngjmoaaGreatDoor

/-
  term.levels, Levels; decl's at, Type, Value. No condition.
-/
namespace Go.Proofs.YtahdkhklngjmoaaGreatDoor
open Go.RowKit

theorem tmInst_eq (bys : List Lv) (t : Tm) : tmInst bys t = if t.levels.all (lvInstOk bys) then (tmInstL bys t.args).map fun bs => .mk t.kind t.n t.name (lvInstL bys t.levels) bs else none := by cases t; rw [tmInst]; rfl
theorem tmInstL_snoc {bys : List Lv} : ∀ {ts us : List Tm} {k : Nat} {u : Tm} (h : k < ts.length), tmInstL bys (ts.take k) = some us → tmInst bys ts[k] = some u → tmInstL bys (ts.take (k + 1)) = some (us ++ [u])
  | t :: ts, us, 0, u, h, h1, h2 => by
    simp only [List.take_zero, tmInstL, Option.some.injEq] at h1
    subst h1
    simp only [List.getElem_cons_zero] at h2
    simp [tmInstL, h2]
  | t :: ts, us, k + 1, u, h, h1, h2 => by
    simp only [List.take_succ_cons, tmInstL] at h1 ⊢
    cases ht : tmInst bys t with
    | none => rw [ht] at h1; cases h1
    | some v =>
      rw [ht] at h1
      simp only [Option.map_eq_some_iff] at h1
      obtain ⟨vs, h3, rfl⟩ := h1
      simp [tmInstL_snoc (by simpa using h) h3 (by simpa using h2)]
theorem tmInstL_no {bys : List Lv} : ∀ {ts : List Tm} {k : Nat} (h : k < ts.length), tmInst bys ts[k] = none → tmInstL bys ts = none
  | t :: ts, 0, h, h2 => by simp only [List.getElem_cons_zero] at h2; simp [tmInstL, h2]
  | t :: ts, k + 1, h, h2 => by
    simp only [tmInstL]
    cases ht : tmInst bys t with
    | none => rfl
    | some v => simp [tmInstL_no (by simpa using h) (by simpa using h2)]
theorem tmInstL_len {bys : List Lv} : ∀ {ts us : List Tm}, tmInstL bys ts = some us → us.length = ts.length
  | [], us, h => by simp only [tmInstL, Option.some.injEq] at h; subst h; rfl
  | t :: ts, us, h => by
    simp only [tmInstL] at h
    cases ht : tmInst bys t with
    | none => rw [ht] at h; cases h
    | some v =>
      rw [ht] at h
      simp only [Option.map_eq_some_iff] at h
      obtain ⟨vs, h3, rfl⟩ := h
      simp [tmInstL_len h3]
theorem tmLen_nodes (xs : List Tm) : xs.length ≤ Tm.nodesL xs := by
  rw [tmNodes_sum]
  induction xs with
  | nil => simp
  | cons a xs ih => have := a.nodes_pos; simp; omega
/-- a term with levels in place of its parameters; false: one is none -/
def tmIn (bys : List Lv) (t : Tm) : Tm × Bool :=
  match tmInst bys t with
  | some u => (u, true)
  | none => (tm0, false)
theorem tmIn_some {bys : List Lv} {t u : Tm} (h : tmInst bys t = some u) : tmIn bys t = (u, true) := by unfold tmIn; rw [h]
theorem tmIn_none {bys : List Lv} {t : Tm} (h : tmInst bys t = none) : tmIn bys t = (tm0, false) := by unfold tmIn; rw [h]


set_option maxRecDepth 100000 in
set_option maxHeartbeats 1000000 in
theorem levels_con (o : Own) (bys : List Lv) : ∀ (N : Nat) (t : Tm), t.nodes ≤ N → N ≤ 1000000 → Ans Tryz.prog 166 [tmX t, .sl o 3 (bys.map lvA)] (.tup [tmX (tmIn bys t).1, .b (tmIn bys t).2]) := by
  intro N
  induction N with
  | zero => intro l h; have := l.nodes_pos; omega
  | succ N ih =>
    intro t hN hN1 H Q hq
    have hnd := t.nodes_eq
    have hll := lvLen_nodes t.levels
    have htl := tmLen_nodes t.args
    have no : ∀ H', List.Sublist H H' → tmInst bys t = none → ∃ r H2, Le (.tup [.agg [.i 0, .i 0, .str [], .sl .full 0 [], .sl .full 0 []], .b false]) r ∧ List.Sublist H2 H' ∧ Q r H2 := fun H' hs h => ⟨.tup [tmX tm0, .b false], H, Le.tup ⟨le_tm0, Le.refl _, trivial⟩, hs, by rw [tmIn_none h] at hq; exact hq⟩
    refine con_of_awp (esc := fun _ => false) tab_ok mixed Tryz.func166 rfl (ent Tryz.func166 (by kernel_rfl) rfl) (by kernel_rfl) ?_
    intro hw hn
    refine ⟨Option Cap × Nat, fun p => ⟨[(1, .g (.sl o 3 (bys.map lvA))), (2, .lp 2 0), (4, .lp 4 0), (5, .g (.b false)), (6, .lp 6 0), (23, .g (.sl .no 3 (t.levels.map lvA))), (24, .g (.i t.levels.length)), (25, .g (.i p.2))], [(6, [.i t.kind, .i t.n, .str t.name, .sl (ownQ p.1) 3 (((t.levels.take p.2).map (lvInst bys)).map lvA), .sl .full 0 []]), (4, [.i 0, .i 0, .str [], .sl .full 0 [], .sl .full 0 []]), (2, (tmX t).cells)], bufH p.1 H⟩,
      fun p => p.2 ≤ t.levels.length ∧ (t.levels.take p.2).all (lvInstOk bys) = true, fun p => t.levels.length - p.2, ⟨(none, 0), ⟨Nat.zero_le _, rfl⟩, ?_⟩, ?_⟩
    · refine ⟨⟨Le.refl _, ⟨rfl, rfl⟩, ⟨rfl, rfl⟩, Le.refl _, ⟨rfl, rfl⟩, Le.refl _, le_of_eq ?_, Le.refl _, trivial⟩, ⟨⟨rfl, ⟨Le.refl _, Le.refl _, Le.refl _, Le.nil' _, Le.refl _, trivial⟩⟩, ⟨rfl, LeL.refl _⟩, ⟨rfl, LeL.refl _⟩, trivial⟩, List.Sublist.refl _⟩
      show AV.i _ = AV.i _
      rw [List.length_map]
    · rintro ⟨q, j⟩ ⟨hj, hall⟩
      simp only at hj hall
      refine ifB_dec (fun h1 => ?_) (fun h1 => ?_)
      · simp only at h1
        have hlt : j < t.levels.length := by omega
        refine ⟨j, rfl, _, lvAt hlt, ?_⟩
        by_cases h2 : lvInstOk bys t.levels[j] = true
        rotate_left
        · refine ⟨_, LeL.refl _, (Inst_con o bys t.levels[j]).to (by rw [lvIn, if_neg h2]) _ _ ?_⟩
          intro hz1 hz2; clear hz1 hz2
          exact no _ (bufH_sub q H) (by rw [tmInst_eq, all_no hlt (ntrue h2)]; rfl)
        refine ⟨_, LeL.refl _, (Inst_con o bys t.levels[j]).to (by rw [lvIn, if_pos h2]) _ _ ?_⟩
        intro hz1 hz2; clear hz1 hz2
        refine ⟨?_, ?_⟩
        · first | refine Or.inl ?_ | skip
          simp only [List.length_map, List.length_cons, List.length_nil]
          try simp only [List.length_take]
          show _ * (40 + 1) ≤ _
          omega
        refine own_of (q := q) (H0 := H) ?_ ?_ ?_ (fun c hc => ?_)
        · exact rfl
        · exact rfl
        · exact fun _ h => h
        have hsn : ((t.levels.take j).map (lvInst bys)).map lvA ++ [lvX (lvInst bys t.levels[j])] = ((t.levels.take (j + 1)).map (lvInst bys)).map lvA := by rw [List.take_succ_eq_append_getElem hlt, List.map_append, List.map_append, ← lvA_eq]; rfl
        have hnext : Le (.sl (.own c) 3 (((t.levels.take j).map (lvInst bys)).map lvA ++ [lvX (lvInst bys t.levels[j])])) (.sl (ownQ (some c)) 3 (((t.levels.take (j + 1)).map (lvInst bys)).map lvA)) := by rw [hsn]; exact Le.refl _
        refine ⟨in64_of (by first | omega | (dsimp only; omega)) (by first | omega | (dsimp only; omega)), ?_⟩
        exact ⟨(some c, j + 1), ⟨by simp only; omega, all_take hlt hall h2⟩, by (try dsimp only); omega, ⟨⟨Le.refl _, ⟨rfl, rfl⟩, ⟨rfl, rfl⟩, Le.refl _, ⟨rfl, rfl⟩, Le.refl _, Le.refl _, Le.refl _, trivial⟩, ⟨⟨rfl, ⟨Le.refl _, Le.refl _, Le.refl _, hnext, Le.refl _, trivial⟩⟩, ⟨rfl, LeL.refl _⟩, ⟨rfl, LeL.refl _⟩, trivial⟩, List.Sublist.refl _⟩⟩
      · simp only at h1
        have hj' : t.levels.length = j := by omega
        subst hj'
        rw [List.take_length] at hall
        have hlv : Le (.sl (ownQ q) 3 (((t.levels.take t.levels.length).map (lvInst bys)).map lvA)) (.sl .no 3 ((t.levels.map (lvInst bys)).map lvA)) := by rw [List.take_length]; exact ownQ_le _ _ _
        refine ⟨Option Cap × Nat × List Tm, fun p => ⟨[(1, .g (.sl o 3 (bys.map lvA))), (4, .lp 4 0), (5, .g (.b false)), (6, .lp 6 0), (46, .g (.sl .no 5 (t.args.map tmA))), (47, .g (.i t.args.length)), (48, .g (.i p.2.1))], [(6, [.i t.kind, .i t.n, .str t.name, .sl .no 3 ((t.levels.map (lvInst bys)).map lvA), .sl (ownQ p.1) 5 (p.2.2.map tmA)]), (4, [.i 0, .i 0, .str [], .sl .full 0 [], .sl .full 0 []]), (2, (tmX t).cells)], bufH p.1 H⟩,
          fun p => p.2.1 ≤ t.args.length ∧ tmInstL bys (t.args.take p.2.1) = some p.2.2, fun p => t.args.length - p.2.1, ⟨(none, 0, []), ⟨Nat.zero_le _, rfl⟩, ?_⟩, ?_⟩
        · refine ⟨⟨Le.refl _, ⟨rfl, rfl⟩, Le.refl _, ⟨rfl, rfl⟩, Le.refl _, le_of_eq ?_, Le.refl _, trivial⟩, ⟨⟨rfl, ⟨Le.refl _, Le.refl _, Le.refl _, hlv, Le.nil' _, trivial⟩⟩, ⟨rfl, LeL.refl _⟩, ⟨rfl, LeL.refl _⟩, trivial⟩, bufH_sub q _⟩
          show AV.i _ = AV.i _
          rw [List.length_map]
        · rintro ⟨q, j, us⟩ ⟨hj, hus⟩
          simp only at hj hus
          refine ifB_dec (fun h1 => ?_) (fun h1 => ?_)
          · simp only at h1
            have hlt : j < t.args.length := by omega
            have hmem := Tm.nodesL_mem (List.getElem_mem hlt)
            have hul := tmInstL_len hus
            rw [List.length_take] at hul
            refine ⟨j, rfl, _, tmAt' hlt, ?_⟩
            cases hu : tmInst bys t.args[j] with
            | none =>
              refine ⟨_, LeL.refl _, (ih t.args[j] (by omega) (by omega)).to (by rw [tmIn_none hu]) _ _ ?_⟩
              intro hz1 hz2; clear hz1 hz2
              exact no _ (bufH_sub q H) (by rw [tmInst_eq, if_pos hall, tmInstL_no hlt hu]; rfl)
            | some u =>
              refine ⟨_, LeL.refl _, (ih t.args[j] (by omega) (by omega)).to (by rw [tmIn_some hu]) _ _ ?_⟩
              intro hz1 hz2; clear hz1 hz2
              refine ⟨?_, ?_⟩
              · first | refine Or.inl ?_ | skip
                simp only [List.length_map, List.length_cons, List.length_nil]
                try simp only [List.length_take]
                show _ * (80 + 1) ≤ _
                omega
              refine own_of (q := q) (H0 := H) ?_ ?_ ?_ (fun c hc => ?_)
              · exact rfl
              · exact rfl
              · exact fun _ h => h
              have hsn : us.map tmA ++ [tmX u] = (us ++ [u]).map tmA := by rw [List.map_append, ← tmA_eq]; rfl
              have hnext : Le (.sl (.own c) 5 (us.map tmA ++ [tmX u])) (.sl (ownQ (some c)) 5 ((us ++ [u]).map tmA)) := by rw [hsn]; exact Le.refl _
              refine ⟨in64_of (by first | omega | (dsimp only; omega)) (by first | omega | (dsimp only; omega)), ?_⟩
              exact ⟨(some c, j + 1, us ++ [u]), ⟨by simp only; omega, tmInstL_snoc hlt hus hu⟩, by (try dsimp only); omega, ⟨⟨Le.refl _, ⟨rfl, rfl⟩, Le.refl _, ⟨rfl, rfl⟩, Le.refl _, Le.refl _, Le.refl _, trivial⟩, ⟨⟨rfl, ⟨Le.refl _, Le.refl _, Le.refl _, Le.refl _, hnext, trivial⟩⟩, ⟨rfl, LeL.refl _⟩, ⟨rfl, LeL.refl _⟩, trivial⟩, List.Sublist.refl _⟩⟩
          · simp only at h1
            have hj' : t.args.length = j := by omega
            subst hj'
            rw [List.take_length] at hus
            have hres : tmIn bys t = (.mk t.kind t.n t.name (t.levels.map (lvInst bys)) us, true) := tmIn_some (by rw [tmInst_eq, if_pos hall, hus, lvInstL_map]; rfl)
            rw [hres] at hq
            exact ⟨.tup [tmX (.mk t.kind t.n t.name (t.levels.map (lvInst bys)) us), .b true], H, Le.tup ⟨Le.agg ⟨Le.refl _, Le.refl _, Le.refl _, Le.refl _, ownQ_le _ _ _, trivial⟩, Le.refl _, trivial⟩, bufH_sub q _, hq⟩

/-- a term at levels; false: there is none -/
def tmLv (bys : List Lv) (t : Tm) : Tm × Bool :=
  match tmAt bys t with
  | some u => (u, true)
  | none => (tm0, false)
theorem tmLv_some {bys : List Lv} {t u : Tm} (h : tmAt bys t = some u) : tmLv bys t = (u, true) := by unfold tmLv; rw [h]
theorem tmLv_none {bys : List Lv} {t : Tm} (h : tmAt bys t = none) : tmLv bys t = (tm0, false) := by unfold tmLv; rw [h]
theorem tmRight_nodes {n v : Int} {t : Tm} (h : tmRight n v t = true) : t.nodes ≤ 2000 := by
  unfold tmRight at h
  simp only [Bool.and_eq_true, decide_eq_true_eq] at h
  exact h.1.2
set_option maxRecDepth 100000 in
theorem Levels_con (o : Own) (bys : List Lv) (t : Tm) : Ans Tryz.prog 142 [tmX t, .sl o 3 (bys.map lvA)] (.tup [tmX (tmLv bys t).1, .b (tmLv bys t).2]) := by
  intro H Q hq
  have hm : (bys.map lvA).length = bys.length := List.length_map _
  have no : tmAt bys t = none → ∃ r H', Le (.tup [.agg [.i 0, .i 0, .str [], .sl .full 0 [], .sl .full 0 []], .b false]) r ∧ List.Sublist H' H ∧ Q r H' := fun h => ⟨.tup [tmX tm0, .b false], H, Le.tup ⟨le_tm0, Le.refl _, trivial⟩, List.Sublist.refl _, by rw [tmLv_none h] at hq; exact hq⟩
  refine con_of_awp (esc := fun _ => false) tab_ok mixed Tryz.func142 rfl (ent Tryz.func142 (by kernel_rfl) rfl) (by kernel_rfl) ?_
  intro hw hn
  by_cases h1 : tmRight bys.length 1125899906842624 t = true
  rotate_left
  · refine ⟨_, LeL.refl _, (tmRight_con _ 1125899906842624 t).no (by rw [hm]; exact h1) _ _ ?_⟩
    intro hz1 hz2; clear hz1 hz2
    exact no (by rw [tmAt, if_neg h1])
  refine ⟨_, LeL.refl _, (tmRight_con _ 1125899906842624 t).yes (by rw [hm]; exact h1) _ _ ?_⟩
  intro hz1 hz2; clear hz1 hz2
  have hnod := tmRight_nodes h1
  cases hu : tmInst bys t with
  | none =>
    refine ⟨_, LeL.refl _, (levels_con o bys _ t (Nat.le_refl _) (by omega)).to (by rw [tmIn_none hu]) _ _ ?_⟩
    intro hz1 hz2; clear hz1 hz2
    exact no (by rw [tmAt, if_pos h1, hu])
  | some u =>
    refine ⟨_, LeL.refl _, (levels_con o bys _ t (Nat.le_refl _) (by omega)).to (by rw [tmIn_some hu]) _ _ ?_⟩
    intro hz1 hz2; clear hz1 hz2
    refine ⟨_, LeL.refl _, tmNodes_con u _ _ ?_⟩
    intro hz1 hz2; clear hz1 hz2
    refine ifB_dec (fun h2 => ?_) (fun h2 => ?_)
    · exact no (by rw [tmAt, if_pos h1, hu]; simp only; rw [if_neg (by omega)])
    · have he : tmLv bys t = (u, true) := tmLv_some (by rw [tmAt, if_pos h1, hu]; simp only; rw [if_pos (by omega)])
      rw [he] at hq
      exact ⟨_, H, Le.refl _, List.Sublist.refl _, hq⟩

set_option maxRecDepth 100000 in
theorem anyLv_at {g : FuncId} {p : Lv → Bool} {q : Bool} (xs : List Lv) (H : Heap) (e : xs.any p = q) (hg : ∀ a ∈ xs, Ans Tryz.prog g [lvX a] (.b (p a))) (Q : AV → Heap → Prop) (hq : Q (.b q) H) : Con Tryz.prog 188 [.sl .no 3 (xs.map lvA), .fn (.func g) []] H Q :=
  anyLv (caps := []) xs H (fun a ha Q hQ => hg a ha H Q hQ) Q (by rw [e]; exact hq)

set_option maxRecDepth 100000 in
theorem declAt_con (o : Own) (e : En) (t : Tm) (ls : List Lv) : Ans Tryz.prog 181 [enX e, tmX t, .sl o 3 (ls.map lvA)] (.tup [tmX (enAt e t ls).1, .i (enAt e t ls).2]) := by
  intro H Q hq
  have hm : (ls.map lvA).length = ls.length := List.length_map _
  have no : ∀ n : Int, enAt e t ls = (tm0, n) → ∃ r H', Le (.tup [.agg [.i 0, .i 0, .str [], .sl .full 0 [], .sl .full 0 []], .i n]) r ∧ List.Sublist H' H ∧ Q r H' := fun n h => ⟨.tup [tmX tm0, .i n], H, Le.tup ⟨le_tm0, Le.refl _, trivial⟩, List.Sublist.refl _, by rw [h] at hq; exact hq⟩
  refine con_of_awp (esc := fun _ => false) tab_ok mixed Tryz.func181 rfl (ent Tryz.func181 (by kernel_rfl) rfl) (by kernel_rfl) ?_
  intro hw hn
  refine ifB_dec (fun h1 => ?_) (fun h1 => ?_)
  rotate_left
  · rw [hm] at h1
    exact no 16 (by rw [enAt, if_pos (Or.inl h1)])
  rw [hm] at h1
  by_cases h2 : (ls.any fun l => !lvRight 4 l) = true
  · refine ⟨[.sl .no 3 (ls.map lvA), .fn (.func 189) []], ⟨Le.own _ _ _, Le.refl _, trivial⟩, anyLv_at ls H h2 (fun a _ => declWrong_con a) _ ?_⟩
    intro hz1 hz2; clear hz1 hz2
    exact no 16 (by rw [enAt, if_pos (Or.inr h2)])
  refine ⟨[.sl .no 3 (ls.map lvA), .fn (.func 189) []], ⟨Le.own _ _ _, Le.refl _, trivial⟩, anyLv_at ls H (ntrue h2) (fun a _ => declWrong_con a) _ ?_⟩
  intro hz1 hz2; clear hz1 hz2
  have hc : ¬ ((ls.length : Int) ≠ e.params ∨ (ls.any fun l => !lvRight 4 l) = true) := fun h => h.elim (fun h => h h1) h2
  cases hu : tmAt ls t with
  | none =>
    refine ⟨_, LeL.refl _, (Levels_con o ls t).to (by rw [tmLv_none hu]) _ _ ?_⟩
    intro hz1 hz2; clear hz1 hz2
    exact no 15 (by rw [enAt, if_neg hc, hu])
  | some u =>
    refine ⟨_, LeL.refl _, (Levels_con o ls t).to (by rw [tmLv_some hu]) _ _ ?_⟩
    intro hz1 hz2; clear hz1 hz2
    have he : enAt e t ls = (u, 0) := by rw [enAt, if_neg hc, hu]
    rw [he] at hq
    exact ⟨_, H, Le.refl _, List.Sublist.refl _, hq⟩
set_option maxRecDepth 100000 in
theorem declValue_con (o : Own) (e : En) (ls : List Lv) : Ans Tryz.prog 164 [enX e, .sl o 3 (ls.map lvA)] (.tup [tmX (enValue e ls).1, .i (enValue e ls).2]) := by
  intro H Q hq
  refine con_of_awp (esc := fun _ => false) tab_ok mixed Tryz.func164 rfl (ent Tryz.func164 (by kernel_rfl) rfl) (by kernel_rfl) ?_
  intro hw hn
  by_cases h1 : enRight e = true
  · rw [enValue, if_pos h1] at hq
    refine ⟨_, LeL.refl _, (declRight_con e).yes h1 _ _ ?_⟩
    intro hz1 hz2; clear hz1 hz2
    refine ifB_dec (fun h2 => ?_) (fun h2 => ?_)
    · rw [if_pos h2] at hq
      refine ⟨_, LeL.refl _, declAt_con o e e.value ls _ _ ?_⟩
      intro hz1 hz2; clear hz1 hz2
      exact ⟨_, H, Le.refl _, List.Sublist.refl _, hq⟩
    · rw [if_neg h2] at hq
      exact ⟨.tup [tmX tm0, .i 13], H, Le.tup ⟨le_tm0, Le.refl _, trivial⟩, List.Sublist.refl _, hq⟩
  · rw [enValue, if_neg h1] at hq
    refine ⟨_, LeL.refl _, (declRight_con e).no h1 _ _ ?_⟩
    intro hz1 hz2; clear hz1 hz2
    exact ⟨.tup [tmX tm0, .i 10], H, Le.tup ⟨le_tm0, Le.refl _, trivial⟩, List.Sublist.refl _, hq⟩
end Go.Proofs.YtahdkhklngjmoaaGreatDoor

/-
  decl's Same, Clone, Plain; law 11's sort, num, Great, greatLevels. No condition.
-/
namespace Go.Proofs.YtahdkhklngjmoaaGreatDoor
open Go.RowKit

set_option maxRecDepth 100000 in
theorem declClone_con (e : En) (h1 : e.type.nodes ≤ 1000000) (h2 : e.value.nodes ≤ 1000000) (h3 : e.ctors.length ≤ 1000000) : Ans Tryz.prog 77 [enX e] (enX e) := by
  intro H Q hq
  refine con_of_awp (esc := fun _ => false) tab_ok mixed Tryz.func77 rfl (ent Tryz.func77 (by kernel_rfl) rfl) (by kernel_rfl) ?_
  intro hw hn
  refine ⟨[0, 1, 3, 4, 6, 7, 2, 9, 5, 8, 10, 11, 12, 13, 14], [], by kernel_rfl, by simp, ?_⟩
  refine ⟨_, LeL.refl _, App0_con e.type h1 _ _ ?_⟩
  intro hz1 hz2; clear hz1 hz2
  refine ⟨_, LeL.refl _, App0_con e.value h2 _ _ ?_⟩
  intro hz1 hz2; clear hz1 hz2
  refine ⟨_, LeL.refl _, CloneSts_con .no e.ctors h3 _ _ ?_⟩
  intro hz1 hz2; clear hz1 hz2
  exact ⟨_, H, Le.refl _, List.Sublist.refl _, hq⟩

theorem le_en0 : Le (.agg [.i 0, .i 0, .str [], .i 0, .i 0, .str [], .sl .full 0 [], .sl .full 0 [], .i 0, .i 0, .str [], .sl .full 0 [], .sl .full 0 [], .i 0, .str [], .i 0, .i 0, .i 0, .sl .full 0 []]) (enX en0) :=
  Le.agg ⟨Le.refl _, Le.refl _, Le.refl _, Le.refl _, Le.refl _, Le.refl _, Le.nil _ _, Le.nil _ _, Le.refl _, Le.refl _, Le.refl _, Le.nil _ _, Le.nil _ _, Le.refl _, Le.refl _, Le.refl _, Le.refl _, Le.refl _, Le.nil _ _, trivial⟩
/-! law 11's own -/
set_option maxRecDepth 100000 in
theorem Lengths_some (ss : List (List UInt8)) (H : Heap) (Q : AV → Heap → Prop) (hq : ∀ n : Int, (n ≤ 500 → ∀ s ∈ ss, s.length ≤ 500) → Q (.i n) H) : Con Tryz.prog 83 [stsX ss, .i 500] H Q := by
  refine con_of_awp (esc := fun _ => false) tab_ok mixed Tryz.func83 rfl (ent Tryz.func83 (by kernel_rfl) rfl) (by kernel_rfl) ?_
  intro hw hn
  have hlen : ss.length ≤ 9223372036854775807 := (hw (stsX ss) (by simp)).sts
  have hl : ∀ k (hk : k < ss.length), ss[k].length ≤ 1125899906842624 := fun k hk => by
    have := (hw (stsX ss) (by simp)).elem (x := .str ss[k]) (List.mem_map.2 ⟨_, List.getElem_mem hk, rfl⟩) (.str ss[k]) (by simp [AV.cells])
    exact this.str
  refine ifB_dec (fun h1 => ?_) (fun h1 => ?_)
  · refine ⟨in64_of (by first | omega | (dsimp only; omega)) (by first | omega | (dsimp only; omega)), ?_⟩
    exact ⟨_, H, Le.refl _, List.Sublist.refl _, hq _ fun h => by omega⟩
  · refine ⟨Nat × Int, fun p => ⟨[(0, .g (stsX ss)), (1, .g (.i 500)), (4, .g (.i 0)), (5, .g (.i p.2)), (6, .g (.i p.1))], [], H⟩, fun p => p.1 ≤ ss.length ∧ 0 ≤ p.2 ∧ p.2 ≤ 1125899906843624 ∧ ∀ s ∈ ss.take p.1, (s.length : Int) ≤ p.2, fun p => ss.length - p.1, ⟨(0, 0), ⟨Nat.zero_le _, by decide, by decide, by simp⟩, ?_⟩, ?_⟩
    · (constructor <;> repeat' (first | exact trivial | exact ⟨rfl, rfl⟩ | exact ⟨rfl, LeL.refl _⟩ | exact Le.refl _ | exact List.Sublist.refl _ | (show Le (AV.i _) (AV.i _); rw [List.length_map]; exact Le.refl _) | refine And.intro ?_ ?_))
    · rintro ⟨j, n⟩ ⟨hj, hn0, hn1, hall⟩
      simp only at hj hn0 hn1 hall
      refine ifB_dec (fun h2 => ?_) (fun h2 => ?_)
      · simp only [List.length_map] at h2
        have hlt : j < ss.length := by omega
        refine ifB_dec (fun h3 => ?_) (fun h3 => ?_)
        · simp only at h3
          have := hl j hlt
          refine ⟨j, rfl, _, stAt hlt, ?_⟩
          refine ⟨in64_of (by first | omega | (dsimp only; omega)) (by first | omega | (dsimp only; omega)), ?_⟩
          refine ⟨in64_of (by first | omega | (dsimp only; omega)) (by first | omega | (dsimp only; omega)), ?_⟩
          refine ⟨in64_of (by first | omega | (dsimp only; omega)) (by first | omega | (dsimp only; omega)), ?_⟩
          refine ⟨(j + 1, n + (1 + ss[j].length)), ⟨by simp only; omega, by simp only; omega, by simp only; omega, fun s hs => ?_⟩, by (try dsimp only); omega, ?_⟩
          · simp only at hs ⊢
            rw [List.take_succ_eq_append_getElem hlt, List.mem_append, List.mem_singleton] at hs
            rcases hs with hs | rfl
            · have := hall s hs
              omega
            · omega
          (constructor <;> repeat' (first | exact trivial | exact ⟨rfl, rfl⟩ | exact ⟨rfl, LeL.refl _⟩ | exact Le.refl _ | exact List.Sublist.refl _ | (show Le (AV.i _) (AV.i _); rw [List.length_map]; exact Le.refl _) | refine And.intro ?_ ?_))
        · exact ⟨_, H, Le.refl _, List.Sublist.refl _, hq _ fun h => by simp only at h3; omega⟩
      · simp only [List.length_map] at h2
        have hj' : ss.length = j := by omega
        rw [← hj', List.take_length] at hall
        exact ⟨_, H, Le.refl _, List.Sublist.refl _, hq _ fun h s hs => by have := hall s hs; omega⟩
set_option maxRecDepth 100000 in
theorem Great11_con (e : En) (H : Heap) (Q : AV → Heap → Prop) (hq : ∀ q : Bool, (q = false → e.ctors.length ≤ 20 ∧ e.name.length ≤ 500 ∧ e.type.big ≤ 2500 ∧ e.value.big ≤ 2500 ∧ ∀ s ∈ e.ctors, s.length ≤ 500) → Q (.b q) H) : Con Tryz.prog 63 [enX e] H Q := by
  refine con_of_awp (esc := fun _ => false) tab_ok mixed Tryz.func63 rfl (ent Tryz.func63 (by kernel_rfl) rfl) (by kernel_rfl) ?_
  intro hw hn
  have yes : ∃ r H', Le (.b true) r ∧ List.Sublist H' H ∧ Q r H' := ⟨_, H, Le.refl _, List.Sublist.refl _, hq true nofun⟩
  refine ifB_dec (fun k1 => ?_) (fun k1 => ?_)
  · exact yes
  refine ifB_dec (fun k2 => ?_) (fun k2 => ?_)
  · exact yes
  refine ⟨_, LeL.refl _, tmBig_con 2500 (by decide) _ e.type (Nat.le_refl _) _ _ ?_⟩
  intro hz1 hz2; clear hz1 hz2
  refine ifB_dec (fun k3 => ?_) (fun k3 => ?_)
  · exact yes
  refine ⟨_, LeL.refl _, tmBig_con 2500 (by decide) _ e.value (Nat.le_refl _) _ _ ?_⟩
  intro hz1 hz2; clear hz1 hz2
  refine ifB_dec (fun k4 => ?_) (fun k4 => ?_)
  · exact yes
  refine ⟨_, LeL.refl _, Lengths_some e.ctors _ _ fun n hn5 => ?_⟩
  intro hz1 hz2; clear hz1 hz2
  refine ifB_dec (fun k5 => ?_) (fun k5 => ?_)
  · exact yes
  simp only [List.length_map] at k1
  exact ⟨_, H, Le.refl _, List.Sublist.refl _, hq false fun _ => ⟨by omega, by omega, by omega, by omega, hn5 (by omega)⟩⟩
end Go.Proofs.YtahdkhklngjmoaaGreatDoor

