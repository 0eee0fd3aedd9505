/-
  Texts put together: H1, H2, H3, H4, H5, H6, H7, H8, H9, H10. No condition.
-/
import Derived.Test.YtaldgcnhmnfocaaDoorM9
import Derived.Test.YtaldgcnhmnfocaaDoorM12
/-
  level's made, copied, Num, Max. No condition.
-/
namespace Go.Proofs.YtaldgcnhmnfocaaDoor
open Go.RowKit

set_option maxRecDepth 100000 in
theorem made_of {N : Nat} (hc : ∀ l : Lv, l.nodes ≤ N → Ans Tryd.prog 56 [lvX l] (lvX l)) (k : Int) (o : Own) (ls : List Lv) (hl : Lv.nodesL ls ≤ N) (hlen : ls.length ≤ 1000000) : Ans Tryd.prog 57 [.i k, .sl o 3 (ls.map lvA)] (lvX (.mk k 0 ls)) := by
  intro H Q hq
  refine con_of_awp (esc := fun _ => false) tab_ok mixed Tryd.func57 rfl (ent Tryd.func57 (by kernel_rfl) rfl) (by kernel_rfl) ?_
  intro hw hn
  refine ⟨Option Cap × Nat, fun p => ⟨[(4, .lp 4 0), (5, .lp 5 0), (10, .g (.sl o 3 (ls.map lvA))), (11, .g (.i ls.length)), (12, .g (.i p.2))], [(5, [.i k, .i 0, rowS p.1 3 ((ls.take p.2).map lvA)]), (4, [.i 0, .i 0, .sl .full 0 []])], bufH p.1 H⟩,
    fun p => p.2 ≤ ls.length ∧ (p.1 = none → p.2 = 0), fun p => ls.length - p.2, ⟨(none, 0), ⟨Nat.zero_le _, fun _ => rfl⟩, ?_⟩, ?_⟩
  · refine ⟨⟨⟨rfl, rfl⟩, ⟨rfl, rfl⟩, Le.refl _, le_of_eq ?_, Le.refl _, trivial⟩, ⟨⟨rfl, LeL.refl _⟩, ⟨rfl, LeL.refl _⟩, trivial⟩, List.Sublist.refl _⟩
    show AV.i _ = AV.i _
    rw [List.length_map]
  · rintro ⟨q, j⟩ ⟨hj, hz⟩
    simp only at hj hz
    refine ifB_dec (fun h1 => ?_) (fun h1 => ?_)
    · simp only at h1
      have hlt : j < ls.length := by omega
      have hmem := Lv.nodesL_mem (List.getElem_mem hlt)
      have hsn : (ls.take j).map lvA ++ [lvX ls[j]] = (ls.take (j + 1)).map lvA := by rw [List.take_succ_eq_append_getElem hlt, List.map_append, ← lvA_eq]; rfl
      have hnext : ∀ c' : Cap, Le (.sl (.own c') 3 ((ls.take j).map lvA ++ [lvX ls[j]])) (rowS (some c') 3 ((ls.take (j + 1)).map lvA)) := fun c' => by rw [hsn]; exact Le.refl _
      refine ⟨j, rfl, _, lvAt hlt, ?_⟩
      refine ⟨[0, 1, 2, 3, 4, 5, 6, 7], [], by kernel_rfl, by simp, ?_⟩
      refine ⟨_, LeL.refl _, hc ls[j] (by omega) _ _ ?_⟩
      intro hz1 hz2; clear hz1 hz2
      cases q with
      | none =>
        obtain rfl := hz rfl
        refine ⟨(by show (0 + 1) * (40 + 1) ≤ 140737488355328; decide), fun c hc => ?_⟩
        refine ⟨in64_of (by first | omega | (dsimp only; omega)) (by first | omega | (dsimp only; omega)), ?_⟩
        refine ⟨(some c, 1), ⟨by simp only; omega, nofun⟩, by (try dsimp only); omega, ⟨⟨⟨rfl, rfl⟩, ⟨rfl, rfl⟩, Le.refl _, Le.refl _, Le.refl _, trivial⟩, ⟨⟨rfl, ⟨Le.refl _, Le.refl _, hnext c, trivial⟩⟩, ⟨rfl, LeL.refl _⟩, trivial⟩, List.Sublist.refl _⟩⟩
      | some c0 =>
        refine ⟨?_, _, Heap.Rem.here, fun c hc => ?_⟩
        · simp only [List.length_map, List.length_cons, List.length_nil, List.length_take]
          show _ * (40 + 1) ≤ _
          omega
        · refine ⟨in64_of (by first | omega | (dsimp only; omega)) (by first | omega | (dsimp only; omega)), ?_⟩
          refine ⟨(some c, j + 1), ⟨by simp only; omega, nofun⟩, by (try dsimp only); omega, ⟨⟨⟨rfl, rfl⟩, ⟨rfl, rfl⟩, Le.refl _, Le.refl _, Le.refl _, trivial⟩, ⟨⟨rfl, ⟨Le.refl _, Le.refl _, hnext c, trivial⟩⟩, ⟨rfl, LeL.refl _⟩, trivial⟩, List.Sublist.refl _⟩⟩
    · simp only at h1
      have hj' : ls.length = j := by omega
      subst hj'
      have hfin : Le (.agg [.i k, .i 0, rowS q 3 ((ls.take ls.length).map lvA)]) (lvX (.mk k 0 ls)) := Le.agg ⟨Le.refl _, Le.refl _, Le.trans (rowS_le fun h => by rw [hz h]; rfl) (le_of_eq (by rw [List.take_length]; rfl)), trivial⟩
      exact ⟨_, _, hfin, bufH_sub q _, hq⟩
set_option maxRecDepth 100000 in
theorem copied_con : ∀ (N : Nat) (l : Lv), l.nodes ≤ N → N ≤ 1000000 → Ans Tryd.prog 56 [lvX l] (lvX l) := by
  intro N
  induction N with
  | zero => intro l h; have := l.nodes_pos; omega
  | succ N ih =>
    intro l hN hN1 H Q hq
    have hnd := l.nodes_eq
    have hlen : l.args.length ≤ Lv.nodesL l.args := by
      rw [lvNodes_sum]
      generalize l.args = xs
      induction xs with
      | nil => simp
      | cons a xs ih => have := a.nodes_pos; simp; omega
    refine con_of_awp (esc := fun _ => false) tab_ok mixed Tryd.func56 rfl (ent Tryd.func56 (by kernel_rfl) rfl) (by kernel_rfl) ?_
    intro hw hn
    refine ⟨_, LeL.refl _, made_of (N := N) (fun a ha => ih a ha (by omega)) l.kind _ l.args (by omega) (by omega) _ _ ?_⟩
    intro hz1 hz2; clear hz1 hz2
    exact ⟨_, H, le_of_eq (by cases l; rfl), List.Sublist.refl _, hq⟩
end Go.Proofs.YtaldgcnhmnfocaaDoor

/-
  level.Max of one level; term's fresh, App of nothing. No condition.
-/
namespace Go.Proofs.YtaldgcnhmnfocaaDoor
open Go.RowKit

set_option maxRecDepth 100000 in
theorem Max1_con (o : Own) (l : Lv) (hl : l.nodes ≤ 1000000) : Ans Tryd.prog 45 [.sl o 3 [lvX l]] (lvX l) := by
  intro H Q hq
  refine con_of_awp (esc := fun _ => false) tab_ok mixed Tryd.func45 rfl (ent Tryd.func45 (by kernel_rfl) rfl) (by kernel_rfl) ?_
  intro hw hn
  refine ⟨0, rfl, _, rfl, ?_⟩
  refine ⟨_, LeL.refl _, copied_con _ l hl (Nat.le_refl _) _ _ ?_⟩
  intro hz1 hz2; clear hz1 hz2
  exact ⟨_, H, Le.refl _, List.Sublist.refl _, hq⟩

set_option maxRecDepth 100000 in
set_option maxHeartbeats 1000000 in
theorem fresh_con : ∀ (N : Nat) (t : Tm), t.nodes ≤ N → N ≤ 1000000 → Ans Tryd.prog 34 [tmX t] (tmX t) := by
  intro N
  induction N with
  | zero => intro l h; have := l.nodes_pos; omega
  | succ N ih =>
    intro t hN hN1 H Q hq
    have hnd := t.nodes_eq
    have hll : t.levels.length ≤ Lv.nodesL t.levels := by
      rw [lvNodes_sum]
      generalize t.levels = xs
      induction xs with
      | nil => simp
      | cons a xs ih => have := a.nodes_pos; simp; omega
    have htl : t.args.length ≤ Tm.nodesL t.args := by
      rw [tmNodes_sum]
      generalize t.args = xs
      induction xs with
      | nil => simp
      | cons a xs ih => have := a.nodes_pos; simp; omega
    refine con_of_awp (esc := fun _ => false) tab_ok mixed Tryd.func34 rfl (ent Tryd.func34 (by kernel_rfl) rfl) (by kernel_rfl) ?_
    intro hw hn
    refine ⟨Option Cap × Nat, fun p => ⟨[(1, .lp 1 0), (2, .lp 2 0), (3, .lp 3 0), (16, .g (.sl .no 3 (t.levels.map lvA))), (17, .g (.i t.levels.length)), (18, .g (.i p.2))], [(3, [.i t.kind, .i t.n, .str t.name, rowS p.1 3 ((t.levels.take p.2).map lvA), .sl .full 0 []]), (2, [.i 0, .i 0, .str [], .sl .full 0 [], .sl .full 0 []]), (1, (tmX t).cells)], bufH p.1 H⟩,
      fun p => p.2 ≤ t.levels.length ∧ (p.1 = none → p.2 = 0), fun p => t.levels.length - p.2, ⟨(none, 0), ⟨Nat.zero_le _, fun _ => rfl⟩, ?_⟩, ?_⟩
    · refine ⟨⟨⟨rfl, rfl⟩, ⟨rfl, rfl⟩, ⟨rfl, rfl⟩, Le.refl _, le_of_eq ?_, Le.refl _, trivial⟩, ⟨⟨rfl, LeL.refl _⟩, ⟨rfl, LeL.refl _⟩, ⟨rfl, LeL.refl _⟩, trivial⟩, List.Sublist.refl _⟩
      show AV.i _ = AV.i _
      rw [List.length_map]
    · rintro ⟨q, j⟩ ⟨hj, hz⟩
      simp only at hj hz
      refine ifB_dec (fun h1 => ?_) (fun h1 => ?_)
      · simp only at h1
        have hlt : j < t.levels.length := by omega
        have hmem := Lv.nodesL_mem (List.getElem_mem hlt)
        have hsn : (t.levels.take j).map lvA ++ [lvX t.levels[j]] = (t.levels.take (j + 1)).map lvA := by rw [List.take_succ_eq_append_getElem hlt, List.map_append, ← lvA_eq]; rfl
        have hnext : ∀ c' : Cap, Le (.sl (.own c') 3 ((t.levels.take j).map lvA ++ [lvX t.levels[j]])) (rowS (some c') 3 ((t.levels.take (j + 1)).map lvA)) := fun c' => by rw [hsn]; exact Le.refl _
        refine ⟨j, rfl, _, lvAt hlt, ?_⟩
        refine ⟨[0, 1, 2, 3, 4, 5, 6, 7, 8], [], by kernel_rfl, by simp, ?_⟩
        refine ⟨_, LeL.refl _, Max1_con _ t.levels[j] (by omega) _ _ ?_⟩
        intro hz1 hz2; clear hz1 hz2
        cases q with
        | none =>
          obtain rfl := hz rfl
          refine ⟨(by show (0 + 1) * (40 + 1) ≤ 140737488355328; decide), fun c hc => ?_⟩
          refine ⟨in64_of (by first | omega | (dsimp only; omega)) (by first | omega | (dsimp only; omega)), ?_⟩
          refine ⟨(some c, 1), ⟨by simp only; omega, nofun⟩, by (try dsimp only); omega, ⟨⟨⟨rfl, rfl⟩, ⟨rfl, rfl⟩, ⟨rfl, rfl⟩, Le.refl _, Le.refl _, Le.refl _, trivial⟩, ⟨⟨rfl, ⟨Le.refl _, Le.refl _, Le.refl _, hnext c, Le.refl _, trivial⟩⟩, ⟨rfl, LeL.refl _⟩, ⟨rfl, LeL.refl _⟩, trivial⟩, List.Sublist.refl _⟩⟩
        | some c0 =>
          refine ⟨?_, _, Heap.Rem.here, fun c hc => ?_⟩
          · simp only [List.length_map, List.length_cons, List.length_nil, List.length_take]
            show _ * (40 + 1) ≤ _
            omega
          · refine ⟨in64_of (by first | omega | (dsimp only; omega)) (by first | omega | (dsimp only; omega)), ?_⟩
            refine ⟨(some c, j + 1), ⟨by simp only; omega, nofun⟩, by (try dsimp only); omega, ⟨⟨⟨rfl, rfl⟩, ⟨rfl, rfl⟩, ⟨rfl, rfl⟩, Le.refl _, Le.refl _, Le.refl _, trivial⟩, ⟨⟨rfl, ⟨Le.refl _, Le.refl _, Le.refl _, hnext c, Le.refl _, trivial⟩⟩, ⟨rfl, LeL.refl _⟩, ⟨rfl, LeL.refl _⟩, trivial⟩, List.Sublist.refl _⟩⟩
      · simp only at h1
        have hj' : t.levels.length = j := by omega
        subst hj'
        have hlv : Le (rowS q 3 ((t.levels.take t.levels.length).map lvA)) (.sl .no 3 (t.levels.map lvA)) := Le.trans (rowS_le fun h => by rw [hz h]; rfl) (le_of_eq (by rw [List.take_length]))
        refine ⟨Option Cap × Nat, fun p => ⟨[(2, .lp 2 0), (3, .lp 3 0), (32, .g (.sl .no 5 (t.args.map tmA))), (33, .g (.i t.args.length)), (34, .g (.i p.2))], [(3, [.i t.kind, .i t.n, .str t.name, .sl .no 3 (t.levels.map lvA), rowS p.1 5 ((t.args.take p.2).map tmA)]), (2, [.i 0, .i 0, .str [], .sl .full 0 [], .sl .full 0 []]), (1, (tmX t).cells)], bufH p.1 H⟩,
          fun p => p.2 ≤ t.args.length ∧ (p.1 = none → p.2 = 0), fun p => t.args.length - p.2, ⟨(none, 0), ⟨Nat.zero_le _, fun _ => rfl⟩, ?_⟩, ?_⟩
        · refine ⟨⟨⟨rfl, rfl⟩, ⟨rfl, rfl⟩, Le.refl _, le_of_eq ?_, Le.refl _, trivial⟩, ⟨⟨rfl, ⟨Le.refl _, Le.refl _, Le.refl _, hlv, Le.refl _, trivial⟩⟩, ⟨rfl, LeL.refl _⟩, ⟨rfl, LeL.refl _⟩, trivial⟩, bufH_sub q _⟩
          show AV.i _ = AV.i _
          rw [List.length_map]
        · rintro ⟨q, j⟩ ⟨hj, hz⟩
          simp only at hj hz
          refine ifB_dec (fun h1 => ?_) (fun h1 => ?_)
          · simp only at h1
            have hlt : j < t.args.length := by omega
            have hmem := Tm.nodesL_mem (List.getElem_mem hlt)
            have hsn : (t.args.take j).map tmA ++ [tmX t.args[j]] = (t.args.take (j + 1)).map tmA := by rw [List.take_succ_eq_append_getElem hlt, List.map_append, ← tmA_eq]; rfl
            have hnext : ∀ c' : Cap, Le (.sl (.own c') 5 ((t.args.take j).map tmA ++ [tmX t.args[j]])) (rowS (some c') 5 ((t.args.take (j + 1)).map tmA)) := fun c' => by rw [hsn]; exact Le.refl _
            refine ⟨j, rfl, _, tmAt' hlt, ?_⟩
            refine ⟨[0, 1, 2, 3, 4, 5, 6, 7], [], by kernel_rfl, by simp, ?_⟩
            refine ⟨_, LeL.refl _, ih t.args[j] (by omega) (by omega) _ _ ?_⟩
            intro hz1 hz2; clear hz1 hz2
            cases q with
            | none =>
              obtain rfl := hz rfl
              refine ⟨(by show (0 + 1) * (80 + 1) ≤ 140737488355328; decide), fun c hc => ?_⟩
              refine ⟨in64_of (by first | omega | (dsimp only; omega)) (by first | omega | (dsimp only; omega)), ?_⟩
              refine ⟨(some c, 1), ⟨by simp only; omega, nofun⟩, by (try dsimp only); omega, ⟨⟨⟨rfl, rfl⟩, ⟨rfl, rfl⟩, Le.refl _, Le.refl _, Le.refl _, trivial⟩, ⟨⟨rfl, ⟨Le.refl _, Le.refl _, Le.refl _, Le.refl _, hnext c, trivial⟩⟩, ⟨rfl, LeL.refl _⟩, ⟨rfl, LeL.refl _⟩, trivial⟩, List.Sublist.refl _⟩⟩
            | some c0 =>
              refine ⟨?_, _, Heap.Rem.here, fun c hc => ?_⟩
              · simp only [List.length_map, List.length_cons, List.length_nil, List.length_take]
                show _ * (80 + 1) ≤ _
                omega
              · refine ⟨in64_of (by first | omega | (dsimp only; omega)) (by first | omega | (dsimp only; omega)), ?_⟩
                refine ⟨(some c, j + 1), ⟨by simp only; omega, nofun⟩, by (try dsimp only); omega, ⟨⟨⟨rfl, rfl⟩, ⟨rfl, rfl⟩, Le.refl _, Le.refl _, Le.refl _, trivial⟩, ⟨⟨rfl, ⟨Le.refl _, Le.refl _, Le.refl _, Le.refl _, hnext c, trivial⟩⟩, ⟨rfl, LeL.refl _⟩, ⟨rfl, LeL.refl _⟩, trivial⟩, List.Sublist.refl _⟩⟩
          · simp only at h1
            have hj' : t.args.length = j := by omega
            subst hj'
            have hfin : Le (.agg [.i t.kind, .i t.n, .str t.name, .sl .no 3 (t.levels.map lvA), rowS q 5 ((t.args.take t.args.length).map tmA)]) (tmX t) := Le.agg ⟨Le.refl _, Le.refl _, Le.refl _, Le.refl _, Le.trans (rowS_le fun h => by rw [hz h]; rfl) (le_of_eq (by rw [List.take_length])), trivial⟩
            exact ⟨_, _, hfin, bufH_sub q _, hq⟩
end Go.Proofs.YtaldgcnhmnfocaaDoor

/-
  term's App of nothing; slices.Clone and Equal over texts. No condition.
-/
namespace Go.Proofs.YtaldgcnhmnfocaaDoor
open Go.RowKit

set_option maxRecDepth 100000 in
theorem App0_con (t : Tm) (hl : t.nodes ≤ 1000000) : Ans Tryd.prog 26 [tmX t, .sl .full 0 []] (tmX t) := by
  intro H Q hq
  refine con_of_awp (esc := fun _ => false) tab_ok mixed Tryd.func26 rfl (ent Tryd.func26 (by kernel_rfl) rfl) (by kernel_rfl) ?_
  intro hw hn
  refine ⟨_, LeL.refl _, fresh_con _ t hl (Nat.le_refl _) _ _ ?_⟩
  intro hz1 hz2; clear hz1 hz2
  refine ⟨Unit, fun _ => ⟨[(4, .lp 4 0), (5, .lp 5 0), (10, .g (.sl .full 0 [])), (11, .g (.i 0)), (12, .g (.i 0))], [(5, (tmX t).cells), (4, [.i 0, .i 0, .str [], .sl .full 0 [], .sl .full 0 []]), (2, (tmX t).cells)], H⟩, fun _ => True, fun _ => 0, ⟨(), trivial, ?_⟩, ?_⟩
  · exact ⟨⟨⟨rfl, rfl⟩, ⟨rfl, rfl⟩, Le.refl _, Le.refl _, Le.refl _, trivial⟩, ⟨⟨rfl, LeL.refl _⟩, ⟨rfl, LeL.refl _⟩, ⟨rfl, LeL.refl _⟩, trivial⟩, List.Sublist.refl _⟩
  · intro u hu
    exact ⟨_, H, Le.refl _, List.Sublist.refl _, hq⟩

end Go.Proofs.YtaldgcnhmnfocaaDoor

/-
  slices.Equal over texts; level's inst, grown, Inst. No condition.
-/
namespace Go.Proofs.YtaldgcnhmnfocaaDoor
open Go.RowKit

end Go.Proofs.YtaldgcnhmnfocaaDoor

/-
  level's inst, grown, Inst. No condition.
-/
namespace Go.Proofs.YtaldgcnhmnfocaaDoor
open Go.RowKit

theorem lvInst_eq (bys : List Lv) (l : Lv) : lvInst bys l = if l.kind = 2 then bys.getD l.n.toNat (.mk 0 0 []) else .mk l.kind l.n (lvInstL bys l.args) := by cases l; rfl
theorem lvInstL_map (bys : List Lv) : ∀ ls : List Lv, lvInstL bys ls = ls.map (lvInst bys)
  | [] => rfl
  | l :: ls => by rw [lvInstL, lvInstL_map bys ls]; rfl
theorem lvLen_nodes (xs : List Lv) : xs.length ≤ Lv.nodesL xs := by
  rw [lvNodes_sum]
  induction xs with
  | nil => simp
  | cons a xs ih => have := a.nodes_pos; simp; omega
theorem lvFit_num {n : Int} {l : Lv} (h : lvFit n l = true) (h2 : l.kind = 2) : 0 ≤ l.n ∧ l.n < n := by
  rw [lvFit_parts, Bool.and_eq_true] at h
  have := h.1
  unfold lvNode at this
  simp [h2] at this
  omega

end Go.Proofs.YtaldgcnhmnfocaaDoor

/-
  level's grown, Inst. No condition.
-/
namespace Go.Proofs.YtaldgcnhmnfocaaDoor
open Go.RowKit

theorem lvGrown_eq (bys : List Lv) (l : Lv) : lvGrown bys l = if l.kind = 2 then min (bys.getD l.n.toNat (.mk 0 0 [])).nodes 65 else 1 + lvGrownL bys l.args := by cases l; rfl
theorem lvGrownL_snoc (bys : List Lv) {ls : List Lv} {k : Nat} (h : k < ls.length) : lvGrownL bys (ls.take (k + 1)) = lvGrownL bys (ls.take k) + lvGrown bys ls[k] := by
  induction ls generalizing k with
  | nil => simp at h
  | cons a ls ih =>
    cases k with
    | zero => simp [lvGrownL]
    | succ k => simp [lvGrownL, ih (by simpa using h)]; omega
mutual
theorem lvGrown_le (bys : List Lv) : ∀ l : Lv, lvGrown bys l ≤ 65 * l.nodes
  | .mk k m xs => by
    have := lvGrownL_le bys xs
    simp only [lvGrown, Lv.nodes]
    split <;> omega
theorem lvGrownL_le (bys : List Lv) : ∀ ls : List Lv, lvGrownL bys ls ≤ 65 * Lv.nodesL ls
  | [] => by simp [lvGrownL]
  | l :: ls => by
    have := lvGrown_le bys l
    have := lvGrownL_le bys ls
    simp only [lvGrownL, Lv.nodesL]; omega
end

end Go.Proofs.YtaldgcnhmnfocaaDoor

/-
  A row that a loop appends to, in one way whether there is room or not; states that fit. No condition.
-/
namespace Go.Proofs.YtaldgcnhmnfocaaDoor
open Go.RowKit

/-- whose room a row is that one may append to: nobody's yet, or one's own -/
def ownQ (q : Option Cap) : Own :=
  match q with
  | none => .full
  | some c => .own c
theorem appK_own {s : St} {dst : Option Tmp} {q : Option Cap} {size bytes : Nat} {xs ys : List AV} {K : St → Prop} {H0 : Heap} (hH : s.H = bufH q H0) (hb : (xs.length + ys.length) * (bytes + 1) ≤ 140737488355328) (h0 : ys ≠ [])
    (h : ∀ c : Cap, c.b ∉ H0.keys → K ⟨s.e.put dst (.g (.sl (.own c) size (xs ++ ys))), s.L, (c.b, .cap c) :: H0⟩) : appK s dst (ownQ q) size size bytes xs ys K := by
  obtain ⟨e, L, H⟩ := s
  simp only at hH
  subst hH
  refine ⟨hb, ?_⟩
  cases ys with
  | nil => exact absurd rfl h0
  | cons y ys =>
    show (match ownQ q with
      | .no => False
      | .full => _
      | .own c0 => _)
    cases q with
    | none => exact h
    | some c0 =>
      show (bif Nat.beq size size then _ else False)
      rw [Nat.beq_refl]
      exact ⟨H0, Heap.Rem.here, h⟩
theorem own_of {q : Option Cap} {H0 HH : Heap} {b : Bool} {R1 : Cap → Prop} {R : Cap → Heap → Prop} (hH : HH = bufH q H0) (hb : b = true) (hR : ∀ c, R c HH → R1 c) (h : ∀ c : Cap, c.b ∉ H0.keys → R c H0) :
    (match ownQ q with
      | .no => False
      | .full => ∀ c : Cap, c.b ∉ HH.keys → R1 c
      | .own c0 => bif b then (∃ H0, Heap.Rem (c0.b, .cap c0) HH H0 ∧ ∀ c : Cap, c.b ∉ H0.keys → R c H0) else False) := by
  subst hH
  subst hb
  cases q with
  | none => exact fun c hc => hR c (h c hc)
  | some c0 => exact ⟨H0, Heap.Rem.here, h⟩
theorem ntrue {q : Bool} (h : ¬ q = true) : q = false := by cases q; rfl; exact absurd rfl h
theorem Ans.yes {P : Program} {f : FuncId} {args : List AV} {q : Bool} (h : Ans P f args (.b q)) (e : q = true) : Ans P f args (.b true) := e ▸ h
theorem Ans.no {P : Program} {f : FuncId} {args : List AV} {q : Bool} (h : Ans P f args (.b q)) (e : ¬ q = true) : Ans P f args (.b false) := ntrue e ▸ h
theorem Ans.to {P : Program} {f : FuncId} {args : List AV} {r r' : AV} (h : Ans P f args r) (e : r = r') : Ans P f args r' := e ▸ h
theorem ownQ_le (q : Option Cap) (s : Nat) (xs : List AV) : Le (.sl (ownQ q) s xs) (.sl .no s xs) := Le.own _ _ _

/-! level.Inst -/
/-- a level with others in place of its parameters; false: it is none, or one of the others -/
def lvIn (bys : List Lv) (l : Lv) : Lv × Bool := if lvInstOk bys l = true then (lvInst bys l, true) else (lv0, false)
theorem lvRight_both {n : Int} {l : Lv} (h : lvRight n l = true) : l.nodes ≤ 64 ∧ lvFit n l = true := by
  unfold lvRight at h
  simp only [Bool.and_eq_true, decide_eq_true_eq] at h
  exact ⟨h.1.2, h.2⟩

end Go.Proofs.YtaldgcnhmnfocaaDoor

/-
  Entries, plain; the reference's SameEntry, decl's span, empty, wrong. No condition.
-/
namespace Go.Proofs.YtaldgcnhmnfocaaDoor
open Go.RowKit

/-- an entry -/
structure En where
  kind : Int
  params : Int
  name : List UInt8
  type : Tm
  value : Tm
  height : Int
  family : List UInt8
  fixed : Int
  index : Int
  fields : Int
  ctors : List (List UInt8)
def enX (e : En) : AV := .agg [.i e.kind, .i e.params, .str e.name, .i e.type.kind, .i e.type.n, .str e.type.name, .sl .no 3 (e.type.levels.map lvA), .sl .no 5 (e.type.args.map tmA), .i e.value.kind, .i e.value.n, .str e.value.name, .sl .no 3 (e.value.levels.map lvA), .sl .no 5 (e.value.args.map tmA), .i e.height, .str e.family, .i e.fixed, .i e.index, .i e.fields, .sl .no 1 (e.ctors.map .str)]
def en0 : En := ⟨0, 0, [], tm0, tm0, 0, [], 0, 0, 0, []⟩
def spanB (n a b : Int) : Bool := decide (a ≤ n) && decide (n ≤ b)
def enValued (e : En) : Bool :=
  if 2 ≤ e.kind ∧ e.kind ≤ 4 then tmRight e.params 0 e.value
  else if e.kind = 6 then tmEq e.value tm0 || tmRight (min (e.params + 1) 4) 0 e.value
  else tmEq e.value tm0
def enNumbered (e : En) : Bool :=
  if e.kind = 6 ∨ e.kind = 7 then decide (e.height = 0) && (nameOk e.family && (spanB e.fixed 0 32 && (spanB e.index 0 32 && spanB e.fields 0 32)))
  else if e.kind = 5 then decide (e.height = 0) && (decide (e.family = []) && (spanB e.fixed 0 16 && (decide (e.index = 0) && decide (e.fields = 0))))
  else if e.kind = 2 then spanB e.height 1 1048576 && (decide (e.family = []) && (decide (e.fixed = 0) && (decide (e.index = 0) && decide (e.fields = 0))))
  else decide (e.height = 0) && (decide (e.family = []) && (decide (e.fixed = 0) && (decide (e.index = 0) && decide (e.fields = 0))))
def enListed (e : En) : Bool := if e.kind = 5 ∨ e.kind = 7 then decide (e.ctors.length ≤ 8) && !(e.ctors.any fun s => !nameOk s) else decide (e.ctors.length = 0)
def enRight (e : En) : Bool := spanB e.kind 1 7 && (nameOk e.name && (spanB e.params 0 4 && (tmRight e.params 0 e.type && (enValued e && (enNumbered e && enListed e)))))
/-- an entry's term, at levels: a term, an error's number -/
def enAt (e : En) (t : Tm) (ls : List Lv) : Tm × Int :=
  if (ls.length : Int) ≠ e.params ∨ (ls.any fun l => !lvRight 4 l) = true then (tm0, 16)
  else match tmAt ls t with
    | some u => (u, 0)
    | none => (tm0, 15)
def enType (e : En) (ls : List Lv) : Tm × Int := if enRight e = true then enAt e e.type ls else (tm0, 10)
def enValue (e : En) (ls : List Lv) : Tm × Int := if enRight e = true then (if e.kind = 2 then enAt e e.value ls else (tm0, 13)) else (tm0, 10)
def enOf (d : Dc) (h : Int) : En := ⟨d.kind, d.params, d.name, d.type, d.value, h, [], 0, 0, 0, []⟩
def enPlain (d : Dc) (h : Int) : En × Int :=
  if formed d = true ∧ d.kind ≠ 5 then (if d.kind = 2 then (if spanB h 1 1048576 = true then (enOf d h, 0) else (en0, 12)) else (enOf d 0, 0)) else (en0, 10)
def enEq (a b : En) : Bool :=
  decide (a.kind = b.kind) && (decide (a.params = b.params) && (decide (a.name = b.name) && (decide (a.height = b.height) && (decide (a.family = b.family) && (decide (a.fixed = b.fixed) && (decide (a.index = b.index) && (decide (a.fields = b.fields) && (tmEq a.type b.type && (tmEq a.value b.value && decide (a.ctors = b.ctors))))))))))
theorem enEq_iff (a b : En) : enEq a b = true ↔ a = b := by
  obtain ⟨a1, a2, a3, a4, a5, a6, a7, a8, a9, a10, a11⟩ := a
  obtain ⟨b1, b2, b3, b4, b5, b6, b7, b8, b9, b10, b11⟩ := b
  simp only [enEq, Bool.and_eq_true, decide_eq_true_eq, tmEq_iff, En.mk.injEq]
  constructor
  · rintro ⟨h1, h2, h3, h4, h5, h6, h7, h8, h9, h10, h11⟩
    exact ⟨h1, h2, h3, h9, h10, h4, h5, h6, h7, h8, h11⟩
  · rintro ⟨h1, h2, h3, h9, h10, h4, h5, h6, h7, h8, h11⟩
    exact ⟨h1, h2, h3, h4, h5, h6, h7, h8, h9, h10, h11⟩


/-! the functions of decl that only ask -/
end Go.Proofs.YtaldgcnhmnfocaaDoor

/-
  term.levels, Levels; decl's at, Type, Value. No condition.
-/
namespace Go.Proofs.YtaldgcnhmnfocaaDoor
open Go.RowKit

theorem tmInst_eq (bys : List Lv) (t : Tm) : tmInst bys t = if t.levels.all (lvInstOk bys) then (tmInstL bys t.args).map fun bs => .mk t.kind t.n t.name (lvInstL bys t.levels) bs else none := by cases t; rw [tmInst]; rfl
theorem tmInstL_snoc {bys : List Lv} : ∀ {ts us : List Tm} {k : Nat} {u : Tm} (h : k < ts.length), tmInstL bys (ts.take k) = some us → tmInst bys ts[k] = some u → tmInstL bys (ts.take (k + 1)) = some (us ++ [u])
  | t :: ts, us, 0, u, h, h1, h2 => by
    simp only [List.take_zero, tmInstL, Option.some.injEq] at h1
    subst h1
    simp only [List.getElem_cons_zero] at h2
    simp [tmInstL, h2]
  | t :: ts, us, k + 1, u, h, h1, h2 => by
    simp only [List.take_succ_cons, tmInstL] at h1 ⊢
    cases ht : tmInst bys t with
    | none => rw [ht] at h1; cases h1
    | some v =>
      rw [ht] at h1
      simp only [Option.map_eq_some_iff] at h1
      obtain ⟨vs, h3, rfl⟩ := h1
      simp [tmInstL_snoc (by simpa using h) h3 (by simpa using h2)]
theorem tmInstL_no {bys : List Lv} : ∀ {ts : List Tm} {k : Nat} (h : k < ts.length), tmInst bys ts[k] = none → tmInstL bys ts = none
  | t :: ts, 0, h, h2 => by simp only [List.getElem_cons_zero] at h2; simp [tmInstL, h2]
  | t :: ts, k + 1, h, h2 => by
    simp only [tmInstL]
    cases ht : tmInst bys t with
    | none => rfl
    | some v => simp [tmInstL_no (by simpa using h) (by simpa using h2)]
theorem tmInstL_len {bys : List Lv} : ∀ {ts us : List Tm}, tmInstL bys ts = some us → us.length = ts.length
  | [], us, h => by simp only [tmInstL, Option.some.injEq] at h; subst h; rfl
  | t :: ts, us, h => by
    simp only [tmInstL] at h
    cases ht : tmInst bys t with
    | none => rw [ht] at h; cases h
    | some v =>
      rw [ht] at h
      simp only [Option.map_eq_some_iff] at h
      obtain ⟨vs, h3, rfl⟩ := h
      simp [tmInstL_len h3]
theorem tmLen_nodes (xs : List Tm) : xs.length ≤ Tm.nodesL xs := by
  rw [tmNodes_sum]
  induction xs with
  | nil => simp
  | cons a xs ih => have := a.nodes_pos; simp; omega
/-- a term with levels in place of its parameters; false: one is none -/
def tmIn (bys : List Lv) (t : Tm) : Tm × Bool :=
  match tmInst bys t with
  | some u => (u, true)
  | none => (tm0, false)
theorem tmIn_some {bys : List Lv} {t u : Tm} (h : tmInst bys t = some u) : tmIn bys t = (u, true) := by unfold tmIn; rw [h]
theorem tmIn_none {bys : List Lv} {t : Tm} (h : tmInst bys t = none) : tmIn bys t = (tm0, false) := by unfold tmIn; rw [h]



/-- a term at levels; false: there is none -/
def tmLv (bys : List Lv) (t : Tm) : Tm × Bool :=
  match tmAt bys t with
  | some u => (u, true)
  | none => (tm0, false)
theorem tmLv_some {bys : List Lv} {t u : Tm} (h : tmAt bys t = some u) : tmLv bys t = (u, true) := by unfold tmLv; rw [h]
theorem tmLv_none {bys : List Lv} {t : Tm} (h : tmAt bys t = none) : tmLv bys t = (tm0, false) := by unfold tmLv; rw [h]
theorem tmRight_nodes {n v : Int} {t : Tm} (h : tmRight n v t = true) : t.nodes ≤ 2000 := by
  unfold tmRight at h
  simp only [Bool.and_eq_true, decide_eq_true_eq] at h
  exact h.1.2


end Go.Proofs.YtaldgcnhmnfocaaDoor

/-
  decl's Same, Clone, Plain; law 11's sort, num, Great, greatLevels. No condition.
-/
namespace Go.Proofs.YtaldgcnhmnfocaaDoor
open Go.RowKit

def sameWords (a b : En) : Bool := decide (a.name = b.name) && (decide (a.family = b.family) && decide (a.ctors = b.ctors))
def sameNums (a b : En) : Bool := decide ([a.kind, a.params, a.height, a.fixed, a.index, a.fields] = [b.kind, b.params, b.height, b.fixed, b.index, b.fields])
theorem enEq_split (a b : En) : enEq a b = (sameWords a b && (sameNums a b && (tmEq a.type b.type && tmEq a.value b.value))) := by
  rw [Bool.eq_iff_iff]
  simp only [enEq, sameWords, sameNums, Bool.and_eq_true, decide_eq_true_eq, List.cons.injEq, and_true]
  constructor
  · rintro ⟨h1, h2, h3, h4, h5, h6, h7, h8, h9, h10, h11⟩
    exact ⟨⟨h3, h5, h11⟩, ⟨h1, h2, h4, h6, h7, h8⟩, h9, h10⟩
  · rintro ⟨⟨h3, h5, h11⟩, ⟨h1, h2, h4, h6, h7, h8⟩, h9, h10⟩
    exact ⟨h1, h2, h3, h4, h5, h6, h7, h8, h9, h10, h11⟩

theorem le_en0 : Le (.agg [.i 0, .i 0, .str [], .i 0, .i 0, .str [], .sl .full 0 [], .sl .full 0 [], .i 0, .i 0, .str [], .sl .full 0 [], .sl .full 0 [], .i 0, .str [], .i 0, .i 0, .i 0, .sl .full 0 []]) (enX en0) :=
  Le.agg ⟨Le.refl _, Le.refl _, Le.refl _, Le.refl _, Le.refl _, Le.refl _, Le.nil _ _, Le.nil _ _, Le.refl _, Le.refl _, Le.refl _, Le.nil _ _, Le.nil _ _, Le.refl _, Le.refl _, Le.refl _, Le.refl _, Le.refl _, Le.nil _ _, trivial⟩
theorem le_enOf (d : Dc) (h : Int) : Le (.agg [.i d.kind, .i d.params, .str d.name, .i d.type.kind, .i d.type.n, .str d.type.name, .sl .no 3 (d.type.levels.map lvA), .sl .no 5 (d.type.args.map tmA), .i d.value.kind, .i d.value.n, .str d.value.name, .sl .no 3 (d.value.levels.map lvA), .sl .no 5 (d.value.args.map tmA), .i h, .str [], .i 0, .i 0, .i 0, .sl .full 0 []]) (enX (enOf d h)) :=
  Le.agg ⟨Le.refl _, Le.refl _, Le.refl _, Le.refl _, Le.refl _, Le.refl _, Le.refl _, Le.refl _, Le.refl _, Le.refl _, Le.refl _, Le.refl _, Le.refl _, Le.refl _, Le.refl _, Le.refl _, Le.refl _, Le.refl _, Le.nil _ _, trivial⟩
/-- what a well-formed declaration that is no family has -/
theorem formed_parts {d : Dc} (h : formed d = true) : tmRight d.params 0 d.type = true ∧ (d.kind ≠ 5 → d.fixed = 0 ∧ d.ctors = [] ∧ if 2 ≤ d.kind ∧ d.kind ≤ 4 then tmRight d.params 0 d.value = true else d.value = tm0) ∧ 1 ≤ d.kind ∧ d.kind ≤ 5 ∧ nameOk d.name = true := by
  unfold formed at h
  simp only [Bool.and_eq_true, decide_eq_true_eq] at h
  refine ⟨h.1.2, fun h5 => ?_, h.1.1.1.1, h.1.1.1.2, h.1.1.2⟩
  have h2 := h.2
  rw [if_neg h5] at h2
  split at h2
  · rename_i hz
    refine ⟨hz.1, List.eq_nil_of_length_eq_zero hz.2, ?_⟩
    split at h2
    · rw [if_pos (by assumption)]; exact h2
    · rw [if_neg (by assumption)]; exact (tmEq_iff _ _).1 h2
  · cases h2
theorem plain_nodes {d : Dc} (h : formed d = true) (h5 : d.kind ≠ 5) : d.type.nodes ≤ 2000 ∧ d.value.nodes ≤ 2000 := by
  obtain ⟨h1, h2, _⟩ := formed_parts h
  refine ⟨tmRight_nodes h1, ?_⟩
  have := (h2 h5).2.2
  split at this
  · exact tmRight_nodes this
  · rw [this]; decide

/-! law 11's own -/
def tmSort (l : Lv) : Tm := .mk 2 0 [] [l] []
def lvNum (n : Int) : Lv := .mk 1 n []
theorem le_lv1 (l : Lv) : Le (.sl .full 3 [lvX l]) (.sl .no 3 ([l].map lvA)) := Le.trans (Le.own _ _ _) (le_of_eq (by show AV.sl _ _ _ = AV.sl _ _ [lvA l]; rw [lvA_eq]))
theorem le_sort (l : Lv) : Le (.agg [.i 2, .i 0, .str [], .sl .full 3 [lvX l], .sl .full 0 []]) (tmX (tmSort l)) := Le.agg ⟨Le.refl _, Le.refl _, Le.refl _, le_lv1 l, Le.nil _ _, trivial⟩
theorem le_num (n : Int) : Le (.agg [.i 1, .i n, .sl .full 0 []]) (lvX (lvNum n)) := Le.agg ⟨Le.refl _, Le.refl _, Le.nil _ _, trivial⟩
end Go.Proofs.YtaldgcnhmnfocaaDoor
