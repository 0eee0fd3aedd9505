/-
  Texts put together: E7, E8, E9, E10, E11, E12, E13. No condition.
-/
import Derived.Test.YtahdkhklngjmoaaGreatDoorM5
import Derived.Test.YtahdkhklngjmoaaGreatDoorM4
import Derived.Test.YtahdkhklngjmoaaGreatDoorM6
/-
  The program's terms: names, shapes, Nodes, node, all, Right. No condition.
-/
namespace Go.Proofs.YtahdkhklngjmoaaGreatDoor
open Go.RowKit

set_option maxRecDepth 100000 in
theorem nameRight_con (l : List UInt8) : Ans Tryz.prog 93 [.str l] (.b (nameOk l)) := by
  intro H Q hq M w vs _ hI hr
  simp only [repT] at hr
  obtain ⟨c, cs, rfl, h1, rfl⟩ := hr
  simp only [rep] at h1
  obtain ⟨rfl, hl⟩ := h1
  rw [ent Tryz.func93 (by kernel_rfl) rfl]
  refine Calls.mono (nameRight w l hl) ?_
  rintro e w' ⟨rfl, hB⟩
  refine ⟨_, rfl, M, .b (nameOk l), H, ⟨hB.os, hB.tape, hB.output, hB.size, fun k hk _ => hB.block k hk, Mem.le.refl _, fun _ _ _ h => Or.inl h⟩, ?_, fun b hb => Or.inl hb, ?_, hq⟩
  · refine hI.evo0 ⟨hB.os, hB.tape, hB.output, hB.size, fun k hk _ => hB.block k hk, Mem.le.refl _, fun _ _ _ h => Or.inl h⟩ fun b o v hv => ?_
    have := hI.mem b o v hv
    rw [hB.cell (World.block_lt_of_cell? w _ this)]
    exact this
  · show rep M (.v (.bool _)) _
    simp only [rep]
    exact ⟨trivial, rfl⟩

/-- a shape -/
def shX (s : Int × Int × Int) : AV := .agg [.i s.1, .i s.2.1, .i s.2.2]
def shapesL : List (Int × Int × Int) := [(0, 0, 0), (0, 0, -1), (0, 1, -1), (0, 0, -1), (2, 0, -1), (2, 0, 1), (2, 0, 1), (3, 0, 2)]
set_option maxRecDepth 100000 in
theorem shapes_con : Ans Tryz.prog 172 [] (.sl .no 3 (shapesL.map shX)) := by
  intro H Q hq
  refine con_of_awp (esc := fun _ => false) tab_ok mixed Tryz.func172 rfl (ent Tryz.func172 (by kernel_rfl) rfl) (by kernel_rfl) ?_
  intro hw hn
  refine ⟨_, H, ?_, List.Sublist.refl _, hq⟩
  exact Le.own _ _ _

set_option maxRecDepth 100000 in
theorem inner_con (s : Int × Int × Int) (i vars : Int) (hv : in64 (vars + 1)) : Ans Tryz.prog 151 [shX s, .i i, .i vars] (.i (if i = s.2.2 then vars + 1 else vars)) := by
  intro H Q hq
  refine con_of_awp (esc := fun _ => false) tab_ok mixed Tryz.func151 rfl (ent Tryz.func151 (by kernel_rfl) rfl) (by kernel_rfl) ?_
  intro hw hn
  have fin : ∀ q : Int, q = (if i = s.2.2 then vars + 1 else vars) → ∃ r H', Le (.i q) r ∧ List.Sublist H' H ∧ Q r H' := fun q h => ⟨_, H, ret_i h, List.Sublist.refl _, hq⟩
  refine ifB_dec (fun h1 => ?_) (fun h1 => ?_)
  · refine ⟨hv, ?_⟩
    exact fin _ (by simp [h1])
  · exact fin _ (by simp [h1])

set_option maxRecDepth 100000 in
theorem shaped_con (k : Int) : Ans Tryz.prog 148 [.i k] (.tup [shX (shapeOf k), .b (decide (1 ≤ k) && decide (k ≤ 7))]) := by
  intro H Q hq
  refine con_of_awp (esc := fun _ => false) tab_ok mixed Tryz.func148 rfl (ent Tryz.func148 (by kernel_rfl) rfl) (by kernel_rfl) ?_
  intro hw hn
  refine ifB_dec (fun h1 => ?_) (fun h1 => ?_)
  · refine ⟨_, H, ?_, List.Sublist.refl _, hq⟩
    have e : shapeOf k = (0, 0, 0) := by unfold shapeOf; rw [if_neg (by omega), if_neg (by omega), if_neg (by omega), if_neg (by omega), if_neg (by omega), if_neg (by omega)]
    rw [e, show (decide (1 ≤ k) && decide (k ≤ 7)) = false by simp; omega]
    exact Le.refl _
  · refine ifB_dec (fun h2 => ?_) (fun h2 => ?_)
    · refine ⟨_, H, ?_, List.Sublist.refl _, hq⟩
      have e : shapeOf k = (0, 0, 0) := by unfold shapeOf; rw [if_neg (by omega), if_neg (by omega), if_neg (by omega), if_neg (by omega), if_neg (by omega), if_neg (by omega)]
      rw [e, show (decide (1 ≤ k) && decide (k ≤ 7)) = false by simp; omega]
      exact Le.refl _
    · have hk : k = 1 ∨ k = 2 ∨ k = 3 ∨ k = 4 ∨ k = 5 ∨ k = 6 ∨ k = 7 := by omega
      refine ⟨_, LeL.refl _, shapes_con _ _ ?_⟩
      intro hz1 hz2; clear hz1 hz2
      rcases hk with rfl | rfl | rfl | rfl | rfl | rfl | rfl
      · exact ⟨1, rfl, _, rfl, ⟨_, H, Le.refl _, List.Sublist.refl _, hq⟩⟩
      · exact ⟨2, rfl, _, rfl, ⟨_, H, Le.refl _, List.Sublist.refl _, hq⟩⟩
      · exact ⟨3, rfl, _, rfl, ⟨_, H, Le.refl _, List.Sublist.refl _, hq⟩⟩
      · exact ⟨4, rfl, _, rfl, ⟨_, H, Le.refl _, List.Sublist.refl _, hq⟩⟩
      · exact ⟨5, rfl, _, rfl, ⟨_, H, Le.refl _, List.Sublist.refl _, hq⟩⟩
      · exact ⟨6, rfl, _, rfl, ⟨_, H, Le.refl _, List.Sublist.refl _, hq⟩⟩
      · exact ⟨7, rfl, _, rfl, ⟨_, H, Le.refl _, List.Sublist.refl _, hq⟩⟩

set_option maxRecDepth 100000 in
theorem under_con : ∀ (N : Nat) (l : Lv) (n : Int) (b : Nat) (H H' : Heap) (Q : AV → Heap → Prop), l.nodes ≤ N → 0 ≤ n → n ≤ 1000000 → (b, .cells [.i n]) ∈ H → H.upd b (.cells [.i (left n l.nodes)]) = H' → Q (.tup []) H' → Con Tryz.prog 130 [lvX l, .ptr b 0] H Q := by
  intro N
  induction N with
  | zero => intro l n b H H' Q h; have := l.nodes_pos; omega
  | succ N ih =>
    intro l n b H H' Q hN h0 hm hin hH hq
    subst hH
    refine con_of_awp (esc := fun _ => false) tab_ok mixed Tryz.func130 rfl (ent Tryz.func130 (by kernel_rfl) rfl) (by kernel_rfl) ?_
    intro hw hn
    have hlen := (hw (lvX l) (by simp)).args
    have hnd := l.nodes_eq
    refine ⟨_, hin, in64_of (by omega) (by omega), _, _, Heap.at_upd _ hin hn, Nat.le_refl _, ?_⟩
    refine ⟨Nat × Int, fun p => ⟨[(1, .g (.ptr b 0)), (12, .g (.sl .no 3 (l.args.map lvA))), (13, .g (.i l.args.length)), (14, .g (.i p.1))], [], H.upd b (.cells [.i p.2])⟩,
      fun p => p.1 ≤ l.args.length ∧ p.2 = left (n - 1) (Lv.nodesL (l.args.take p.1)), fun p => l.args.length - p.1, ⟨(0, n - 1), ⟨Nat.zero_le _, by simp [left, Lv.nodesL]; omega⟩, ?_⟩, ?_⟩
    · (constructor <;> repeat' (first | exact trivial | exact ⟨rfl, rfl⟩ | exact ⟨rfl, LeL.refl _⟩ | exact Le.refl _ | exact List.Sublist.refl _ | (show Le (AV.i _) (AV.i _); rw [List.length_map]; exact Le.refl _) | refine And.intro ?_ ?_))
    · rintro ⟨k, m⟩ ⟨hk, hm2⟩
      simp only at hk hm2
      have hin2 : (b, AObj.cells [.i m]) ∈ H.upd b (.cells [.i m]) := Heap.mem_upd hin
      have hle := nodesL_le l.args (k + 1)
      have hle2 := nodesL_le l.args k
      refine ifB_dec (fun h1 => ?_) (fun h1 => ?_)
      · have hlt : k < l.args.length := by omega
        have hs := nodesL_snoc hlt
        refine ⟨k, rfl, _, lvAt hlt, ?_⟩
        refine ⟨_, hin2, ?_⟩
        refine ifB_dec (fun h2 => ?_) (fun h2 => ?_)
        · refine ⟨_, _, Le.refl _, List.Sublist.refl _, ?_⟩
          have : left n l.nodes = m := by unfold left at *; omega
          rw [← this]; exact hq
        · refine ⟨_, LeL.refl _, ?_⟩
          have hmem := Lv.nodesL_mem (List.getElem_mem hlt)
          refine ih _ m b _ _ _ (by omega) (by omega) (by unfold left at hm2; omega) hin2 rfl ?_
          intro hz1 hz2; clear hz1 hz2
          refine ⟨in64_of (by first | omega | (dsimp only; omega)) (by first | omega | (dsimp only; omega)), ?_⟩
          refine ⟨(k + 1, left m l.args[k].nodes), ⟨by simp only; omega, by unfold left at *; simp only; omega⟩, by dsimp only; omega, ⟨?_, ?_, sub_eq (Heap.upd_upd H b _ _).symm⟩⟩
          · exact ⟨Le.refl _, Le.refl _, Le.refl _, Le.refl _, trivial⟩
          · exact trivial
      · refine ⟨_, _, Le.refl _, List.Sublist.refl _, ?_⟩
        have hk' : k = l.args.length := by omega
        have : left n l.nodes = m := by
          rw [hm2, hk', List.take_length]
          unfold left
          omega
        rw [← this]; exact hq

theorem nodesTL_le : ∀ (ls : List Tm) (k : Nat), Tm.nodesL (ls.take k) ≤ Tm.nodesL ls := by
  intro ls
  induction ls with
  | nil => intro k; simp [Tm.nodesL]
  | cons a ls ih => intro k; cases k with
    | zero => simp [Tm.nodesL]
    | succ k => simp [Tm.nodesL, ih k]

set_option maxRecDepth 100000 in
theorem tmCount_con : ∀ (N : Nat) (l : Tm) (n : Int) (b : Nat) (H H' : Heap) (Q : AV → Heap → Prop), l.nodes ≤ N → 0 ≤ n → n ≤ 1000000 → (b, .cells [.i n]) ∈ H → H.upd b (.cells [.i (left n l.nodes)]) = H' → Q (.tup []) H' → Con Tryz.prog 105 [tmX l, .ptr b 0] H Q := by
  intro N
  induction N with
  | zero => intro l n b H H' Q h; have := l.nodes_pos; omega
  | succ N ih =>
    intro l n b H H' Q hN h0 hm hin hH hq
    subst hH
    refine con_of_awp (esc := fun _ => false) tab_ok mixed Tryz.func105 rfl (ent Tryz.func105 (by kernel_rfl) rfl) (by kernel_rfl) ?_
    intro hw hn
    have hlen := (hw (tmX l) (by simp)).targs
    have hlenl := (hw (tmX l) (by simp)).tlevels
    have hnd := l.nodes_eq
    refine ⟨_, hin, in64_of (by omega) (by omega), _, _, Heap.at_upd _ hin hn, Nat.le_refl _, ?_⟩
    refine ⟨Nat × Int, fun p => ⟨[(1, .g (.ptr b 0)), (2, .lp 2 0), (14, .g (.sl .no 3 (l.levels.map lvA))), (15, .g (.i l.levels.length)), (16, .g (.i p.1))], [(2, (tmX l).cells)], H.upd b (.cells [.i p.2])⟩,
      fun p => p.1 ≤ l.levels.length ∧ p.2 = left (n - 1) (Lv.nodesL (l.levels.take p.1)), fun p => l.levels.length - p.1, ⟨(0, n - 1), ⟨Nat.zero_le _, by simp [left, Lv.nodesL]; omega⟩, ?_⟩, ?_⟩
    · (constructor <;> repeat' (first | exact trivial | exact ⟨rfl, rfl⟩ | exact ⟨rfl, LeL.refl _⟩ | exact Le.refl _ | exact List.Sublist.refl _ | (show Le (AV.i _) (AV.i _); rw [List.length_map]; exact Le.refl _) | refine And.intro ?_ ?_))
    · rintro ⟨k, m⟩ ⟨hk, hm2⟩
      simp only at hk hm2
      have hin2 : (b, AObj.cells [.i m]) ∈ H.upd b (.cells [.i m]) := Heap.mem_upd hin
      have hle := nodesL_le l.levels (k + 1)
      have hle2 := nodesL_le l.levels k
      refine ifB_dec (fun h1 => ?_) (fun h1 => ?_)
      · have hlt : k < l.levels.length := by omega
        have hs := nodesL_snoc hlt
        refine ⟨k, rfl, _, lvAt hlt, ?_⟩
        refine ⟨_, hin2, ?_⟩
        refine ifB_dec (fun h2 => ?_) (fun h2 => ?_)
        · refine ⟨_, _, Le.refl _, List.Sublist.refl _, ?_⟩
          have : left n l.nodes = m := by unfold left at *; omega
          rw [← this]; exact hq
        · refine ⟨_, LeL.refl _, ?_⟩
          have hmem := Lv.nodesL_mem (List.getElem_mem hlt)
          refine under_con _ _ m b _ _ _ (Nat.le_refl _) (by omega) (by unfold left at hm2; omega) hin2 rfl ?_
          intro hz1 hz2; clear hz1 hz2
          refine ⟨in64_of (by first | omega | (dsimp only; omega)) (by first | omega | (dsimp only; omega)), ?_⟩
          refine ⟨(k + 1, left m l.levels[k].nodes), ⟨by simp only; omega, by unfold left at *; simp only; omega⟩, by dsimp only; omega, ⟨?_, ?_, sub_eq (Heap.upd_upd H b _ _).symm⟩⟩
          · exact ⟨Le.refl _, ⟨rfl, rfl⟩, Le.refl _, Le.refl _, Le.refl _, trivial⟩
          · exact ⟨⟨rfl, LeL.refl _⟩, trivial⟩
      · have hk' : k = l.levels.length := by omega
        rw [hk', List.take_length] at hm2
        refine ⟨Nat × Int, fun p => ⟨[(1, .g (.ptr b 0)), (29, .g (.sl .no 5 (l.args.map tmA))), (30, .g (.i l.args.length)), (31, .g (.i p.1))], [], H.upd b (.cells [.i p.2])⟩,
          fun p => p.1 ≤ l.args.length ∧ p.2 = left (n - 1) (Lv.nodesL l.levels + Tm.nodesL (l.args.take p.1)), fun p => l.args.length - p.1, ⟨(0, m), ⟨Nat.zero_le _, by simpa [Tm.nodesL] using hm2⟩, ?_⟩, ?_⟩
        · (constructor <;> repeat' (first | exact trivial | exact ⟨rfl, rfl⟩ | exact ⟨rfl, LeL.refl _⟩ | exact Le.refl _ | exact List.Sublist.refl _ | (show Le (AV.i _) (AV.i _); rw [List.length_map]; exact Le.refl _) | refine And.intro ?_ ?_))
        · rintro ⟨j, m⟩ ⟨hj, hm2⟩
          simp only at hj hm2
          have hin2 : (b, AObj.cells [.i m]) ∈ H.upd b (.cells [.i m]) := Heap.mem_upd hin
          have hle := nodesTL_le l.args (j + 1)
          have hle2 := nodesTL_le l.args j
          refine ifB_dec (fun h1 => ?_) (fun h1 => ?_)
          · have hlt : j < l.args.length := by omega
            have hs := nodesTL_snoc hlt
            refine ⟨j, rfl, _, tmAt' hlt, ?_⟩
            refine ⟨_, hin2, ?_⟩
            refine ifB_dec (fun h2 => ?_) (fun h2 => ?_)
            · refine ⟨_, _, Le.refl _, List.Sublist.refl _, ?_⟩
              have : left n l.nodes = m := by unfold left at *; omega
              rw [← this]; exact hq
            · refine ⟨_, LeL.refl _, ?_⟩
              have hmem := Tm.nodesL_mem (List.getElem_mem hlt)
              refine ih _ m b _ _ _ (by omega) (by omega) (by unfold left at hm2; omega) hin2 rfl ?_
              intro hz1 hz2; clear hz1 hz2
              refine ⟨in64_of (by first | omega | (dsimp only; omega)) (by first | omega | (dsimp only; omega)), ?_⟩
              refine ⟨(j + 1, left m l.args[j].nodes), ⟨by simp only; omega, by unfold left at *; simp only; omega⟩, by dsimp only; omega, ⟨?_, ?_, sub_eq (Heap.upd_upd H b _ _).symm⟩⟩
              · exact ⟨Le.refl _, Le.refl _, Le.refl _, Le.refl _, trivial⟩
              · exact trivial
          · refine ⟨_, _, Le.refl _, List.Sublist.refl _, ?_⟩
            have hj' : j = l.args.length := by omega
            have : left n l.nodes = m := by
              rw [hm2, hj', List.take_length]
              unfold left
              omega
            rw [← this]; exact hq

set_option maxRecDepth 100000 in
theorem tmNodes_con (l : Tm) : Ans Tryz.prog 82 [tmX l] (.i (min l.nodes 2001 : Nat)) := by
  intro H Q hq
  refine con_of_awp (esc := ([3].contains ·)) tab_ok mixed Tryz.func82 rfl (ent Tryz.func82 (by kernel_rfl) rfl) (by kernel_rfl) ?_
  intro hw hn b hb
  refine ⟨_, _, .here, Nat.le_refl _, ?_⟩
  refine ⟨_, LeL.refl _, ?_⟩
  have hb' : b ∉ H.keys := hb
  have e : Heap.upd ((b, AObj.cells [.i 2000]) :: H) b (AObj.cells [.i (left 2000 l.nodes)]) = (b, .cells [.i (left 2000 l.nodes)]) :: H := by
    show (if b = b then _ else _) :: Heap.upd H b _ = _
    rw [if_pos rfl, Heap.upd_none hb']
  refine tmCount_con l.nodes l 2000 b _ _ _ (Nat.le_refl _) (by decide) (by decide) (List.mem_cons_self) e ?_
  intro hz1 hz2; clear hz1 hz2
  refine ⟨_, List.mem_cons_self, in64_of (by unfold left; omega) (by unfold left; omega), ?_⟩
  refine ⟨_, H, ret_i ?_, List.sublist_cons_self _ _, hq⟩
  unfold left; omega

set_option maxRecDepth 100000 in
theorem tmNode_con (l : Tm) (s : Int × Int × Int) (vars : Int) : Ans Tryz.prog 149 [tmX l, shX s, .i vars] (.b (tmNd vars l.kind l.n l.name l.levels.length s.2.1)) := by
  intro H Q hq
  refine con_of_awp (esc := fun _ => false) tab_ok mixed Tryz.func149 rfl (ent Tryz.func149 (by kernel_rfl) rfl) (by kernel_rfl) ?_
  intro hw hn
  have fin : ∀ q : Bool, q = tmNd vars l.kind l.n l.name l.levels.length s.2.1 → ∃ r H', Le (.b q) r ∧ List.Sublist H' H ∧ Q r H' := fun q h => ⟨_, H, ret_b h, List.Sublist.refl _, hq⟩
  refine ifB_dec (fun h1 => ?_) (fun h1 => ?_)
  · refine ifB_dec (fun h2 => ?_) (fun h2 => ?_)
    · refine ifB_dec (fun h3 => ?_) (fun h3 => ?_)
      · refine ifB_dec (fun h4 => ?_) (fun h4 => ?_)
        · refine ifB_dec (fun h5 => ?_) (fun h5 => ?_)
          · exact fin _ (by simp at h5; simp [tmNd, h1, h2, h3, h4, h5])
          · exact fin _ (by simp at h5; simp [tmNd, h1, h2, h3, h4, h5])
        · exact fin _ (by simp [tmNd, h1, h2, h3, h4])
      · exact fin _ (by simp [tmNd, h1, h2, h3])
    · exact fin _ (by simp [tmNd, h1, h2])
  · refine ifB_dec (fun h2 => ?_) (fun h2 => ?_)
    · refine ifB_dec (fun h3 => ?_) (fun h3 => ?_)
      · refine ⟨_, LeL.refl _, nameRight_con _ _ _ ?_⟩
        intro hz1 hz2; clear hz1 hz2
        cases hg : nameOk l.name with
        | true =>
          refine ifB_dec (fun h4 => ?_) (fun h4 => ?_)
          · exact fin _ (by simp at h4; simp [tmNd, h2, h3, hg]; omega)
          · exact fin _ (by simp at h4; simp [tmNd, h2, h3, hg]; omega)
        | false => exact fin _ (by simp [tmNd, h2, h3, hg])
      · exact fin _ (by simp [tmNd, h2, h3])
    · refine ifB_dec (fun h3 => ?_) (fun h3 => ?_)
      · refine ifB_dec (fun h4 => ?_) (fun h4 => ?_)
        · refine ifB_dec (fun h5 => ?_) (fun h5 => ?_)
          · exact fin _ (by simp at h5; simp [tmNd, h1, h2, h3, h4, h5])
          · exact fin _ (by simp at h5; simp [tmNd, h1, h2, h3, h4, h5])
        · exact fin _ (by simp [tmNd, h1, h2, h3, h4])
      · exact fin _ (by simp [tmNd, h1, h2, h3])
end Go.Proofs.YtahdkhklngjmoaaGreatDoor

/-
  The program's terms: all, Right, alike, Same. No condition.
-/
namespace Go.Proofs.YtahdkhklngjmoaaGreatDoor
open Go.RowKit

theorem tmFit_eq (n : Int) (t : Tm) (vars : Int) : tmFit n t vars = (tmNode vars t.kind t.n t.name t.levels.length t.args.length && lvRightL n t.levels && tmFitL n t.kind t.args 0 vars) := by cases t; rfl
theorem tmFitL_at {n k : Int} {ts : List Tm} {j : Nat} (h : j < ts.length) (vars : Int) : tmFitL n k (ts.drop j) j vars = (tmFit n ts[j] (if tmBind k j then vars + 1 else vars) && tmFitL n k (ts.drop (j + 1)) (j + 1) vars) := by
  rw [List.drop_eq_getElem_cons h]; rfl

set_option maxRecDepth 100000 in
set_option maxHeartbeats 1000000 in
theorem tmAll_con (n : Int) : ∀ (N : Nat) (l : Tm) (vars : Int), l.nodes ≤ N → -1 ≤ vars → vars + N ≤ 4611686018427387904 → Ans Tryz.prog 118 [tmX l, .i n, .i vars] (.b (tmFit n l vars)) := by
  intro N
  induction N with
  | zero => intro l n h; have := l.nodes_pos; omega
  | succ N ih =>
    intro l vars hN hv0 hv H Q hq
    refine con_of_awp (esc := fun _ => false) tab_ok mixed Tryz.func118 rfl (ent Tryz.func118 (by kernel_rfl) rfl) (by kernel_rfl) ?_
    intro hw hn
    have hlena := (hw (tmX l) (by simp)).targs
    have hlenl := (hw (tmX l) (by simp)).tlevels
    have hnd := l.nodes_eq
    have hE : tmFit n l vars = (((decide (1 ≤ l.kind) && decide (l.kind ≤ 7)) && (decide ((l.args.length : Int) = (shapeOf l.kind).1) && tmNd vars l.kind l.n l.name l.levels.length (shapeOf l.kind).2.1)) && lvRightL n l.levels && tmFitL n l.kind l.args 0 vars) := by
      rw [tmFit_eq, shape_node]
    have fin : ∀ q : Bool, q = tmFit n l vars → ∃ r H', Le (.b q) r ∧ List.Sublist H' H ∧ Q r H' := fun q h => ⟨_, H, ret_b h, List.Sublist.refl _, hq⟩
    refine ⟨_, LeL.refl _, shaped_con _ _ _ ?_⟩
    intro hz1 hz2; clear hz1 hz2
    cases hs : (decide (1 ≤ l.kind) && decide (l.kind ≤ 7)) with
    | false => exact fin _ (by rw [hE, hs]; simp)
    | true =>
      refine ifB_dec (fun h1 => ?_) (fun h1 => ?_)
      · simp only [List.length_map] at h1
        refine ⟨_, LeL.refl _, tmNode_con _ _ _ _ _ ?_⟩
        intro hz1 hz2; clear hz1 hz2
        cases hg : tmNd vars l.kind l.n l.name l.levels.length (shapeOf l.kind).2.1 with
        | false => exact fin _ (by rw [hE, hg]; simp)
        | true =>
          refine ⟨Nat, fun k => ⟨[(1, .g (.i n)), (2, .g (.i vars)), (3, .lp 3 0), (6, .g (.b false)), (7, .lp 7 0), (37, .g (.sl .no 3 (l.levels.map lvA))), (38, .g (.i l.levels.length)), (39, .g (.i k))], [(7, (shX (shapeOf l.kind)).cells), (3, (tmX l).cells)], H⟩,
            fun k => k ≤ l.levels.length ∧ (l.levels.take k).all (lvRight n) = true, fun k => l.levels.length - k, ⟨0, ⟨Nat.zero_le _, rfl⟩, ?_⟩, ?_⟩
          · (constructor <;> repeat' (first | exact trivial | exact ⟨rfl, rfl⟩ | exact ⟨rfl, LeL.refl _⟩ | exact Le.refl _ | exact List.Sublist.refl _ | (show Le (AV.i _) (AV.i _); rw [List.length_map]; exact Le.refl _) | refine And.intro ?_ ?_))
          · rintro k ⟨hk, hall⟩
            refine ifB_dec (fun h2 => ?_) (fun h2 => ?_)
            · have hlt : k < l.levels.length := by omega
              refine ⟨k, rfl, _, lvAt hlt, ?_⟩
              refine ⟨_, LeL.refl _, lvRight_con _ _ _ _ ?_⟩
              intro hz1 hz2; clear hz1 hz2
              cases hr : lvRight n l.levels[k] with
              | false => exact fin _ (by rw [hE]; unfold lvRightL; rw [all_no hlt hr]; simp)
              | true =>
                refine ⟨in64_of (by first | omega | (dsimp only; omega)) (by first | omega | (dsimp only; omega)), ?_⟩
                refine ⟨k + 1, ⟨by omega, all_take hlt hall hr⟩, by (try dsimp only); omega, ?_⟩
                (constructor <;> repeat' (first | exact trivial | exact ⟨rfl, rfl⟩ | exact ⟨rfl, LeL.refl _⟩ | exact Le.refl _ | exact List.Sublist.refl _ | (show Le (AV.i _) (AV.i _); rw [List.length_map]; exact Le.refl _) | refine And.intro ?_ ?_))
            · have hk' : k = l.levels.length := by omega
              rw [hk', List.take_length] at hall
              have hE2 : tmFit n l vars = tmFitL n l.kind l.args 0 vars := by rw [hE, hs, hg]; unfold lvRightL; rw [hall]; simp [h1]
              refine ⟨Nat, fun k => ⟨[(1, .g (.i n)), (2, .g (.i vars)), (6, .g (.b false)), (7, .lp 7 0), (49, .g (.sl .no 5 (l.args.map tmA))), (50, .g (.i l.args.length)), (51, .g (.i k))], [(7, (shX (shapeOf l.kind)).cells), (3, (tmX l).cells)], H⟩,
                fun k => k ≤ l.args.length ∧ tmFitL n l.kind l.args 0 vars = tmFitL n l.kind (l.args.drop k) k vars, fun k => l.args.length - k, ⟨0, ⟨Nat.zero_le _, rfl⟩, ?_⟩, ?_⟩
              · (constructor <;> repeat' (first | exact trivial | exact ⟨rfl, rfl⟩ | exact ⟨rfl, LeL.refl _⟩ | exact Le.refl _ | exact List.Sublist.refl _ | (show Le (AV.i _) (AV.i _); rw [List.length_map]; exact Le.refl _) | refine And.intro ?_ ?_))
              · rintro j ⟨hj, hfit⟩
                refine ifB_dec (fun h3 => ?_) (fun h3 => ?_)
                · have hlt : j < l.args.length := by omega
                  have hmem := Tm.nodesL_mem (List.getElem_mem hlt)
                  have hpos := l.args[j].nodes_pos
                  refine ⟨j, rfl, _, tmAt' hlt, ?_⟩
                  refine ⟨[0, 1, 2, 3, 4, 5, 6, 7], [], by kernel_rfl, by simp, ?_⟩
                  refine ⟨_, LeL.refl _, inner_con _ _ _ (in64_of (by omega) (by omega)) _ _ ?_⟩
                  intro hz1 hz2; clear hz1 hz2
                  refine ⟨_, LeL.refl _, ?_⟩
                  rw [tmFitL_at hlt] at hfit
                  simp only [shape_bind l.kind j hs]
                  refine ih _ _ (by omega) (by split <;> omega) (by split <;> omega) _ _ ?_
                  intro hz1 hz2; clear hz1 hz2
                  cases hr : tmFit n l.args[j] (if tmBind l.kind j = true then vars + 1 else vars) with
                  | false => exact fin _ (by rw [hE2, hfit, hr]; simp)
                  | true =>
                    rw [hr, Bool.true_and] at hfit
                    refine ⟨in64_of (by first | omega | (dsimp only; omega)) (by first | omega | (dsimp only; omega)), ?_⟩
                    refine ⟨j + 1, ⟨by omega, hfit⟩, by (try dsimp only); omega, ?_⟩
                    (constructor <;> repeat' (first | exact trivial | exact ⟨rfl, rfl⟩ | exact ⟨rfl, LeL.refl _⟩ | exact Le.refl _ | exact List.Sublist.refl _ | (show Le (AV.i _) (AV.i _); rw [List.length_map]; exact Le.refl _) | refine And.intro ?_ ?_))
                · have hj' : j = l.args.length := by omega
                  exact fin _ (by rw [hE2, hfit, hj', List.drop_length]; rfl)
      · simp only [List.length_map] at h1
        exact fin _ (by rw [hE]; simp [h1])

set_option maxRecDepth 100000 in
theorem tmRight_con (n vars : Int) (l : Tm) : Ans Tryz.prog 94 [tmX l, .i n, .i vars] (.b (tmRight n vars l)) := by
  intro H Q hq
  refine con_of_awp (esc := fun _ => false) tab_ok mixed Tryz.func94 rfl (ent Tryz.func94 (by kernel_rfl) rfl) (by kernel_rfl) ?_
  intro hw hn
  have fin : ∀ q : Bool, q = tmRight n vars l → ∃ r H', Le (.b q) r ∧ List.Sublist H' H ∧ Q r H' := fun q h => ⟨_, H, ret_b h, List.Sublist.refl _, hq⟩
  refine ifB_dec (fun h1 => ?_) (fun h1 => ?_)
  · refine ifB_dec (fun h2 => ?_) (fun h2 => ?_)
    · refine ifB_dec (fun h3 => ?_) (fun h3 => ?_)
      · refine ⟨_, LeL.refl _, tmNodes_con _ _ _ ?_⟩
        intro hz1 hz2; clear hz1 hz2
        refine ifB_dec (fun h4 => ?_) (fun h4 => ?_)
        · have h5 : l.nodes ≤ 2000 := by omega
          refine ⟨_, LeL.refl _, tmAll_con n _ _ _ (Nat.le_refl _) (by omega) (by omega) _ _ ?_⟩
          intro hz1 hz2; clear hz1 hz2
          exact fin _ (by simp [tmRight, h1, h2, h3, h5])
        · have h5 : ¬ l.nodes ≤ 2000 := by omega
          exact fin _ (by simp [tmRight, h5])
      · exact fin _ (by simp [tmRight, h3])
    · exact fin _ (by simp [tmRight, h2])
  · exact fin _ (by simp [tmRight, h1])

set_option maxRecDepth 100000 in
theorem eqLv_con {g : FuncId} (xs ys : List Lv) (hg : ∀ a ∈ xs, ∀ b ∈ ys, Ans Tryz.prog g [lvX a, lvX b] (.b (lvEq a b))) : Ans Tryz.prog 175 [.sl .no 3 (xs.map lvA), .sl .no 3 (ys.map lvA), .fn (.func g) []] (.b (lvEqL xs ys)) := by
  intro H Q hq
  refine con_of_awp (esc := fun _ => false) tab_ok mixed Tryz.func175 rfl (ent Tryz.func175 (by kernel_rfl) rfl) (by kernel_rfl) ?_
  intro hw hn
  have hlen : xs.length ≤ 9223372036854775807 := by
    have := Wf.len (hw (.sl .no 3 (xs.map lvA)) (by simp))
    simpa using this
  have fin : ∀ q : Bool, q = lvEqL xs ys → ∃ r H', Le (.b q) r ∧ List.Sublist H' H ∧ Q r H' := fun q h => ⟨_, H, ret_b h, List.Sublist.refl _, hq⟩
  refine ifB_dec (fun h1 => ?_) (fun h1 => ?_)
  · simp only [List.length_map] at h1
    refine ⟨Nat, fun k => ⟨[(1, .g (.sl .no 3 (ys.map lvA))), (2, .g (.fn (.func g) [])), (6, .g (.b false)), (15, .g (.sl .no 3 (xs.map lvA))), (16, .g (.i xs.length)), (17, .g (.i k))], [], H⟩, fun k => k ≤ xs.length ∧ xs.take k = ys.take k, fun k => xs.length - k, ⟨0, ⟨Nat.zero_le _, rfl⟩, ?_⟩, ?_⟩
    · (constructor <;> repeat' (first | exact trivial | exact ⟨rfl, rfl⟩ | exact ⟨rfl, LeL.refl _⟩ | exact Le.refl _ | exact List.Sublist.refl _ | (show Le (AV.i _) (AV.i _); rw [List.length_map]; exact Le.refl _) | refine And.intro ?_ ?_))
    · rintro k ⟨hk, hpre⟩
      refine ifB_dec (fun h => ?_) (fun h => ?_)
      · have hlt : k < xs.length := by omega
        have hlt' : k < ys.length := by omega
        refine ⟨k, rfl, _, lvAt hlt, ?_⟩
        refine ⟨k, rfl, _, lvAt hlt', ?_⟩
        refine ⟨_, LeL.refl _, hg _ (List.getElem_mem hlt) _ (List.getElem_mem hlt') _ _ ?_⟩
        intro hz1 hz2; clear hz1 hz2
        cases hh : lvEq xs[k] ys[k] with
        | true =>
          refine ⟨in64_of (by first | omega | (dsimp only; omega)) (by first | omega | (dsimp only; omega)), ?_⟩
          refine ⟨k + 1, ⟨by omega, take_next hlt hlt' hpre ((lvEq_iff _ _).1 hh)⟩, by (try dsimp only); omega, ?_⟩
          (constructor <;> repeat' (first | exact trivial | exact ⟨rfl, rfl⟩ | exact ⟨rfl, LeL.refl _⟩ | exact Le.refl _ | exact List.Sublist.refl _ | (show Le (AV.i _) (AV.i _); rw [List.length_map]; exact Le.refl _) | refine And.intro ?_ ?_))
        | false => exact fin _ (by rw [lvEqL_at hlt hlt' hh])
      · have hk' : k = xs.length := by omega
        rw [hk', List.take_length, show xs.length = ys.length by omega, List.take_length] at hpre
        exact fin _ (by rw [(lvEqL_iff _ _).2 hpre])
  · exact fin _ (by rw [lvEqL_len (by simp only [List.length_map] at h1; omega)])
set_option maxRecDepth 100000 in
theorem eqTm_con {g : FuncId} (xs ys : List Tm) (hg : ∀ a ∈ xs, ∀ b ∈ ys, Ans Tryz.prog g [tmX a, tmX b] (.b (tmEq a b))) : Ans Tryz.prog 177 [.sl .no 5 (xs.map tmA), .sl .no 5 (ys.map tmA), .fn (.func g) []] (.b (tmEqL xs ys)) := by
  intro H Q hq
  refine con_of_awp (esc := fun _ => false) tab_ok mixed Tryz.func177 rfl (ent Tryz.func177 (by kernel_rfl) rfl) (by kernel_rfl) ?_
  intro hw hn
  have hlen : xs.length ≤ 9223372036854775807 := by
    have := Wf.len (hw (.sl .no 5 (xs.map tmA)) (by simp))
    simpa using this
  have fin : ∀ q : Bool, q = tmEqL xs ys → ∃ r H', Le (.b q) r ∧ List.Sublist H' H ∧ Q r H' := fun q h => ⟨_, H, ret_b h, List.Sublist.refl _, hq⟩
  refine ifB_dec (fun h1 => ?_) (fun h1 => ?_)
  · simp only [List.length_map] at h1
    refine ⟨Nat, fun k => ⟨[(1, .g (.sl .no 5 (ys.map tmA))), (2, .g (.fn (.func g) [])), (6, .g (.b false)), (15, .g (.sl .no 5 (xs.map tmA))), (16, .g (.i xs.length)), (17, .g (.i k))], [], H⟩, fun k => k ≤ xs.length ∧ xs.take k = ys.take k, fun k => xs.length - k, ⟨0, ⟨Nat.zero_le _, rfl⟩, ?_⟩, ?_⟩
    · (constructor <;> repeat' (first | exact trivial | exact ⟨rfl, rfl⟩ | exact ⟨rfl, LeL.refl _⟩ | exact Le.refl _ | exact List.Sublist.refl _ | (show Le (AV.i _) (AV.i _); rw [List.length_map]; exact Le.refl _) | refine And.intro ?_ ?_))
    · rintro k ⟨hk, hpre⟩
      refine ifB_dec (fun h => ?_) (fun h => ?_)
      · have hlt : k < xs.length := by omega
        have hlt' : k < ys.length := by omega
        refine ⟨k, rfl, _, tmAt' hlt, ?_⟩
        refine ⟨k, rfl, _, tmAt' hlt', ?_⟩
        refine ⟨_, LeL.refl _, hg _ (List.getElem_mem hlt) _ (List.getElem_mem hlt') _ _ ?_⟩
        intro hz1 hz2; clear hz1 hz2
        cases hh : tmEq xs[k] ys[k] with
        | true =>
          refine ⟨in64_of (by first | omega | (dsimp only; omega)) (by first | omega | (dsimp only; omega)), ?_⟩
          refine ⟨k + 1, ⟨by omega, take_next hlt hlt' hpre ((tmEq_iff _ _).1 hh)⟩, by (try dsimp only); omega, ?_⟩
          (constructor <;> repeat' (first | exact trivial | exact ⟨rfl, rfl⟩ | exact ⟨rfl, LeL.refl _⟩ | exact Le.refl _ | exact List.Sublist.refl _ | (show Le (AV.i _) (AV.i _); rw [List.length_map]; exact Le.refl _) | refine And.intro ?_ ?_))
        | false => exact fin _ (by rw [tmEqL_at hlt hlt' hh])
      · have hk' : k = xs.length := by omega
        rw [hk', List.take_length, show xs.length = ys.length by omega, List.take_length] at hpre
        exact fin _ (by rw [(tmEqL_iff _ _).2 hpre])
  · exact fin _ (by rw [tmEqL_len (by simp only [List.length_map] at h1; omega)])

set_option maxRecDepth 100000 in
theorem alike_con : ∀ (N : Nat) (a b : Lv), a.nodes ≤ N → Ans Tryz.prog 176 [lvX a, lvX b] (.b (lvEq a b)) := by
  intro N
  induction N with
  | zero => intro a b h; have := a.nodes_pos; omega
  | succ N ih =>
    intro a b hN H Q hq
    refine con_of_awp (esc := fun _ => false) tab_ok mixed Tryz.func176 rfl (ent Tryz.func176 (by kernel_rfl) rfl) (by kernel_rfl) ?_
    intro hw hn
    have hnd := a.nodes_eq
    have fin : ∀ q : Bool, q = lvEq a b → ∃ r H', Le (.b q) r ∧ List.Sublist H' H ∧ Q r H' := fun q h => ⟨_, H, ret_b h, List.Sublist.refl _, hq⟩
    refine ifB_dec (fun h1 => ?_) (fun h1 => ?_)
    · refine ifB_dec (fun h2 => ?_) (fun h2 => ?_)
      · refine ⟨_, LeL.refl _, eqLv_con _ _ (fun x hx y _ => ih x y (by have := Lv.nodesL_mem hx; omega)) _ _ ?_⟩
        intro hz1 hz2; clear hz1 hz2
        exact fin _ (by rw [lvEq_parts]; simp [h1, h2])
      · exact fin _ (by rw [lvEq_parts]; simp [h2])
    · exact fin _ (by rw [lvEq_parts]; simp [h1])

set_option maxRecDepth 100000 in
theorem tmSame_con : ∀ (N : Nat) (a b : Tm), a.nodes ≤ N → Ans Tryz.prog 152 [tmX a, tmX b] (.b (tmEq a b)) := by
  intro N
  induction N with
  | zero => intro a b h; have := a.nodes_pos; omega
  | succ N ih =>
    intro a b hN H Q hq
    refine con_of_awp (esc := fun _ => false) tab_ok mixed Tryz.func152 rfl (ent Tryz.func152 (by kernel_rfl) rfl) (by kernel_rfl) ?_
    intro hw hn
    have hnd := a.nodes_eq
    have fin : ∀ q : Bool, q = tmEq a b → ∃ r H', Le (.b q) r ∧ List.Sublist H' H ∧ Q r H' := fun q h => ⟨_, H, ret_b h, List.Sublist.refl _, hq⟩
    refine ifB_dec (fun h1 => ?_) (fun h1 => ?_)
    · refine ifB_dec (fun h2 => ?_) (fun h2 => ?_)
      · refine ifB_dec (fun h3 => ?_) (fun h3 => ?_)
        · refine ⟨_, LeL.refl _, eqLv_con _ _ (fun x hx y _ => alike_con _ x y (Nat.le_refl _)) _ _ ?_⟩
          intro hz1 hz2; clear hz1 hz2
          cases h4 : lvEqL a.levels b.levels with
          | true =>
            refine ⟨_, LeL.refl _, eqTm_con _ _ (fun x hx y _ => ih x y (by have := Tm.nodesL_mem hx; omega)) _ _ ?_⟩
            intro hz1 hz2; clear hz1 hz2
            exact fin _ (by rw [tmEq_parts]; simp [h1, h2, h3, h4])
          | false => exact fin _ (by rw [tmEq_parts]; simp [h4])
        · exact fin _ (by rw [tmEq_parts]; simp [h3])
      · exact fin _ (by rw [tmEq_parts]; simp [h2])
    · exact fin _ (by rw [tmEq_parts]; simp [h1])

def tm0 : Tm := .mk 0 0 [] [] []
end Go.Proofs.YtahdkhklngjmoaaGreatDoor

/-
  Bytes that are put behind one another: buffers; wire's put, Nums, texts, Texts. No condition.
-/
namespace Go.Proofs.YtahdkhklngjmoaaGreatDoor
open Go.RowKit

theorem le_of_eq {x y : AV} (h : x = y) : Le x y := by rw [h]; exact Le.refl _
/-- a buffer: nothing yet, or a row that one may append to -/
def bufS (q : Option Cap) (xs : List UInt8) : AV :=
  match q with
  | none => .sl .full 0 []
  | some c => .sl (.own c) 1 (xs.map byteV)
/-- its right lies among the objects; what else there is -/
def BufIn (q : Option Cap) (H H0 : Heap) : Prop :=
  match q with
  | none => H = H0
  | some c => Heap.Rem (c.b, .cap c) H H0
def bufH (q : Option Cap) (H0 : Heap) : Heap :=
  match q with
  | none => H0
  | some c => (c.b, .cap c) :: H0
theorem BufIn.here (q : Option Cap) (H0 : Heap) : BufIn q (bufH q H0) H0 := by
  cases q
  · exact rfl
  · exact Heap.Rem.here

theorem put_bytes {n : Nat} (h : n ≤ 9223372036854775807) : AV.v (.int .u8 (IntKind.u8.wrap (bits .or .i64 (bits .and .i64 (n : Int) 127) 128))) = byteV (UInt8.ofNat (n % 128 + 128)) := by
  unfold byteV
  rw [IntKind.wrap_u8, put_val n h]
theorem put_last {n : Nat} (h : n < 128) : AV.v (.int .u8 (IntKind.u8.wrap (n : Int))) = byteV (UInt8.ofNat n) := by
  unfold byteV
  rw [IntKind.wrap_u8]
  have : (UInt8.ofNat n).toNat = n := by simp; omega
  rw [this, show (n : Int) % 256 = n by omega]
theorem fdiv128 (n : Nat) : Int.fdiv (n : Int) 128 = ((n / 128 : Nat) : Int) := by
  rw [Int.fdiv_eq_ediv_of_nonneg _ (by decide)]; rfl

set_option maxRecDepth 100000 in
theorem wput_con (n : Nat) (xs : List UInt8) (q : Option Cap) (H H0 : Heap) (Q : AV → Heap → Prop) (hn1 : n ≤ 9223372036854775807) (hx : q = none → xs = []) (hr : BufIn q H H0) (hlen : xs.length ≤ 1099511627776)
    (hq : ∀ c : Cap, c.b ∉ H0.keys → Q (.sl (.own c) 1 ((xs ++ enc n).map byteV)) ((c.b, .cap c) :: H0)) : Con Tryz.prog 160 [bufS q xs, .i n] H Q := by
  refine con_of_awp (esc := fun _ => false) tab_ok mixed Tryz.func160 rfl (ent Tryz.func160 (by kernel_rfl) rfl) (by kernel_rfl) ?_
  intro hw hn
  have h9 := enc_le n hn1
  refine ⟨Option Cap × List UInt8 × Nat × Heap, fun p => ⟨[(0, .g (bufS p.1 p.2.1)), (1, .g (.i p.2.2.1)), (4, .g (.sl .full 0 []))], [], p.2.2.2⟩,
    fun p => (p.1 = none → p.2.1 = []) ∧ BufIn p.1 p.2.2.2 H0 ∧ p.2.1 ++ enc p.2.2.1 = xs ++ enc n ∧ p.2.2.1 ≤ n, fun p => p.2.2.1, ⟨(q, xs, n, H), ⟨hx, hr, rfl, Nat.le_refl _⟩, ?_⟩, ?_⟩
  · (constructor <;> repeat' (first | exact trivial | exact ⟨rfl, rfl⟩ | exact ⟨rfl, LeL.refl _⟩ | exact Le.refl _ | exact List.Sublist.refl _ | (show Le (AV.i _) (AV.i _); rw [List.length_map]; exact Le.refl _) | refine And.intro ?_ ?_))
  · rintro ⟨q, ys, m, H1⟩ ⟨hx, hr, he, hm⟩
    simp only at hx hr he hm
    have hl : ys.length + (enc m).length = xs.length + (enc n).length := by rw [← List.length_append, he, List.length_append]
    have hp := enc_pos m
    refine ifB_dec (fun h1 => ?_) (fun h1 => ?_)
    · simp only at h1
      have h128 : 128 ≤ m := by omega
      rw [enc_ge h128] at he
      have hnext : ∀ c : Cap, Le (.sl (.own c) 1 (ys.map byteV ++ [.v (.int .u8 (IntKind.u8.wrap (bits .or .i64 (bits .and .i64 (m : Int) 127) 128)))])) (bufS (some c) (ys ++ [UInt8.ofNat (m % 128 + 128)])) := fun c => by
        rw [put_bytes (by omega)]
        exact le_of_eq (by simp [bufS])
      cases q with
      | none =>
        obtain rfl := hx rfl
        refine ⟨(by (first | refine Or.inl ?_ | skip); show (0 + 1) * (1 + 1) ≤ _; omega), fun c hc => ?_⟩
        refine ⟨by decide, ?_⟩
        refine ⟨(some c, [UInt8.ofNat (m % 128 + 128)], m / 128, (c.b, .cap c) :: H1), ⟨nofun, ?_, ?_, ?_⟩, ?_, ⟨⟨hnext c, ?_, Le.refl _, trivial⟩, trivial, List.Sublist.refl _⟩⟩
        · obtain rfl : H1 = H0 := hr
          exact Heap.Rem.here
        · simpa using he
        · simp only; omega
        · simp only; omega
        · exact le_of_eq (congrArg AV.i (fdiv128 m))
      | some c0 =>
        refine ⟨?_, H0, hr, fun c hc => ?_⟩
        · simp only [List.length_map, List.length_cons, List.length_nil]; omega
        · refine ⟨by decide, ?_⟩
          refine ⟨(some c, ys ++ [UInt8.ofNat (m % 128 + 128)], m / 128, (c.b, .cap c) :: H0), ⟨nofun, Heap.Rem.here, ?_, ?_⟩, ?_, ⟨⟨hnext c, ?_, Le.refl _, trivial⟩, trivial, List.Sublist.refl _⟩⟩
          · simpa using he
          · simp only; omega
          · simp only; omega
          · exact le_of_eq (congrArg AV.i (fdiv128 m))
    · simp only at h1
      have h128 : m < 128 := by omega
      rw [enc_lt h128] at he
      have hlast : ∀ c : Cap, Le (.sl (.own c) 1 (ys.map byteV ++ [.v (.int .u8 (IntKind.u8.wrap (m : Int)))])) (.sl (.own c) 1 ((xs ++ enc n).map byteV)) := fun c => by
        rw [put_last h128, ← he]
        exact le_of_eq (by simp)
      cases q with
      | none =>
        obtain rfl := hx rfl
        refine ⟨(by (first | refine Or.inl ?_ | skip); show (0 + 1) * (1 + 1) ≤ _; omega), fun c hc => ?_⟩
        obtain rfl : H1 = H0 := hr
        exact ⟨_, _, hlast c, List.Sublist.refl _, hq c hc⟩
      | some c0 =>
        refine ⟨?_, H0, hr, fun c hc => ?_⟩
        · simp only [List.length_map, List.length_cons, List.length_nil]; omega
        · exact ⟨_, _, hlast c, List.Sublist.refl _, hq c hc⟩

set_option maxRecDepth 100000 in
theorem wright_con (n : Int) : Ans Tryz.prog 159 [.i n] (.b (decide (0 ≤ n) && decide (n ≤ 1099511627776))) := by
  intro H Q hq
  refine con_of_awp (esc := fun _ => false) tab_ok mixed Tryz.func159 rfl (ent Tryz.func159 (by kernel_rfl) rfl) (by kernel_rfl) ?_
  intro hw hn
  have fin : ∀ q : Bool, q = (decide (0 ≤ n) && decide (n ≤ 1099511627776)) → ∃ r H', Le (.b q) r ∧ List.Sublist H' H ∧ Q r H' := fun q h => ⟨_, H, ret_b h, List.Sublist.refl _, hq⟩
  refine ifB_dec (fun h1 => ?_) (fun h1 => ?_)
  · refine ifB_dec (fun h2 => ?_) (fun h2 => ?_)
    · exact fin _ (by simp [h1, h2])
    · exact fin _ (by simp [h1, h2])
  · exact fin _ (by simp [h1])

def encs (ns : List Nat) : List UInt8 := (ns.map enc).flatten
theorem encs_snoc {ns : List Nat} {k : Nat} (h : k < ns.length) : encs (ns.take (k + 1)) = encs (ns.take k) ++ enc ns[k] := by
  unfold encs
  rw [List.take_succ_eq_append_getElem h, List.map_append, List.flatten_append]; simp
theorem encs_len : ∀ (ns : List Nat), (∀ n ∈ ns, n ≤ 1099511627776) → (encs ns).length ≤ 6 * ns.length
  | [], _ => by simp [encs]
  | n :: ns, h => by
    have h1 := enc_le6 n (h n (by simp))
    have h2 := encs_len ns fun m hm => h m (List.mem_cons_of_mem _ hm)
    simp only [encs, List.map_cons, List.flatten_cons, List.length_append, List.length_cons] at *
    omega
def nI (n : Nat) : AV := .i n
theorem nAt {ls : List Nat} {k : Nat} (h : k < ls.length) : (ls.map nI)[k]? = some (.i ls[k]) := by simp [h, nI]

set_option maxRecDepth 100000 in
theorem Nums_con (o : Own) (ns : List Nat) (H : Heap) (Q : AV → Heap → Prop) (h40 : ∀ n ∈ ns, n ≤ 1099511627776) (hlen : ns.length ≤ 1000000)
    (hq : ∀ q : Option Cap, (q = none → encs ns = []) → (∀ c, q = some c → c.b ∉ H.keys) → Q (.tup [bufS q (encs ns), .b true]) (bufH q H)) : Con Tryz.prog 127 [.sl o 1 (ns.map nI)] H Q := by
  refine con_of_awp (esc := fun _ => false) tab_ok mixed Tryz.func127 rfl (ent Tryz.func127 (by kernel_rfl) rfl) (by kernel_rfl) ?_
  intro hw hn
  refine ⟨Option Cap × Nat, fun p => ⟨[(2, .g (.sl .full 0 [])), (3, .g (.b false)), (4, .g (bufS p.1 (encs (ns.take p.2)))), (7, .g (.sl o 1 (ns.map nI))), (8, .g (.i ns.length)), (9, .g (.i p.2))], [], bufH p.1 H⟩,
    fun p => (p.1 = none → encs (ns.take p.2) = []) ∧ (∀ c, p.1 = some c → c.b ∉ H.keys) ∧ p.2 ≤ ns.length, fun p => ns.length - p.2, ⟨(none, 0), ⟨fun _ => rfl, nofun, Nat.zero_le _⟩, ?_⟩, ?_⟩
  · (constructor <;> repeat' (first | exact trivial | exact ⟨rfl, rfl⟩ | exact ⟨rfl, LeL.refl _⟩ | exact Le.refl _ | exact List.Sublist.refl _ | (show Le (AV.i _) (AV.i _); rw [List.length_map]; exact Le.refl _) | refine And.intro ?_ ?_))
  · rintro ⟨q, k⟩ ⟨hx, hc, hk⟩
    simp only at hx hc hk
    refine ifB_dec (fun h1 => ?_) (fun h1 => ?_)
    · have hlt : k < ns.length := by omega
      have hle := h40 _ (List.getElem_mem hlt)
      refine ⟨k, rfl, _, nAt hlt, ?_⟩
      refine ⟨_, LeL.refl _, wright_con _ _ _ ?_⟩
      intro hz1 hz2; clear hz1 hz2
      rw [show (decide (0 ≤ (ns[k] : Int)) && decide ((ns[k] : Int) ≤ 1099511627776)) = true by simp; omega]
      refine ⟨_, LeL.refl _, ?_⟩
      have hl := encs_len (ns.take k) fun m hm => h40 m (List.mem_of_mem_take hm)
      rw [List.length_take] at hl
      refine wput_con ns[k] (encs (ns.take k)) q _ H _ (by omega) hx (BufIn.here q H) (by omega) fun c hcb => ?_
      intro hz1 hz2; clear hz1 hz2
      refine ⟨in64_of (by first | omega | (dsimp only; omega)) (by first | omega | (dsimp only; omega)), ?_⟩
      refine ⟨(some c, k + 1), ⟨fun h => (by cases h), fun c' h => (by cases h; exact hcb), (by omega)⟩, by (try dsimp only); omega, ⟨⟨Le.refl _, Le.refl _, ?_, Le.refl _, Le.refl _, Le.refl _, trivial⟩, trivial, List.Sublist.refl _⟩⟩
      rw [encs_snoc hlt]
      exact Le.refl _
    · have hk' : k = ns.length := by omega
      rw [hk', List.take_length] at hx
      refine ⟨_, _, Le.refl _, List.Sublist.refl _, ?_⟩
      rw [hk', List.take_length]
      exact hq q hx hc
end Go.Proofs.YtahdkhklngjmoaaGreatDoor

/-
  wire's texts, Texts; pack's put, leaf, putLevel, Level. No condition.
-/
namespace Go.Proofs.YtahdkhklngjmoaaGreatDoor
open Go.RowKit

theorem ifNil_or {ys : List AV} {A B : Prop} (h1 : ys = [] → A) (h2 : ys ≠ [] → B) : ifNil ys A B := by
  cases ys with
  | nil => exact h1 rfl
  | cons y ys => exact h2 (by simp)
/-- the bytes of texts -/
def stB (s : List UInt8) : List UInt8 := enc s.length ++ s
def stsB (ss : List (List UInt8)) : List UInt8 := (ss.map stB).flatten
theorem stsB_snoc {ns : List (List UInt8)} {k : Nat} (h : k < ns.length) : stsB (ns.take (k + 1)) = stsB (ns.take k) ++ stB ns[k] := by
  unfold stsB
  rw [List.take_succ_eq_append_getElem h, List.map_append, List.flatten_append]; simp
theorem stsB_le (ns : List (List UInt8)) (k : Nat) : (stsB (ns.take k)).length ≤ (stsB ns).length := by
  have : stsB ns = stsB (ns.take k) ++ stsB (ns.drop k) := by
    unfold stsB
    rw [← List.flatten_append, ← List.map_append, List.take_append_drop]
  rw [this, List.length_append]; omega

set_option maxRecDepth 100000 in
theorem texts_con (ss : List (List UInt8)) (o : Own) (q : Option Cap) (xs : List UInt8) (H H0 : Heap) (Q : AV → Heap → Prop) (hx : q = none → xs = []) (hr : BufIn q H H0) (hlen : xs.length + (stsB ss).length ≤ 1099511627776) (hne : ss ≠ [])
    (hq : ∀ c : Cap, c.b ∉ H0.keys → Q (.sl (.own c) 1 ((xs ++ stsB ss).map byteV)) ((c.b, .cap c) :: H0)) : Con Tryz.prog 128 [bufS q xs, .sl o 1 (ss.map .str)] H Q := by
  refine con_of_awp (esc := fun _ => false) tab_ok mixed Tryz.func128 rfl (ent Tryz.func128 (by kernel_rfl) rfl) (by kernel_rfl) ?_
  intro hw hn
  have hl0 : ss.length ≤ 9223372036854775807 := by
    have := Wf.len (hw (.sl o 1 (ss.map .str)) (by simp))
    simpa using this
  refine ⟨Option Cap × Nat × Heap, fun p => ⟨[(0, .g (bufS p.1 (xs ++ stsB (ss.take p.2.1)))), (4, .g (.sl .full 0 [])), (7, .g (.sl o 1 (ss.map .str))), (8, .g (.i ss.length)), (9, .g (.i p.2.1))], [], p.2.2⟩,
    fun p => (p.1 = none → xs ++ stsB (ss.take p.2.1) = []) ∧ BufIn p.1 p.2.2 H0 ∧ p.2.1 ≤ ss.length ∧ (p.1 = none → p.2.1 = 0) ∧ (∀ c, p.1 = some c → p.2.1 ≠ 0 → c.b ∉ H0.keys ∧ p.2.2 = (c.b, .cap c) :: H0), fun p => ss.length - p.2.1,
    ⟨(q, 0, H), ⟨fun h => by simp [stsB, hx h], hr, Nat.zero_le _, fun _ => rfl, fun c h hh => absurd rfl hh⟩, ?_⟩, ?_⟩
  · refine ⟨⟨le_of_eq (by simp [stsB]), Le.refl _, Le.refl _, ?_, Le.refl _, trivial⟩, trivial, List.Sublist.refl _⟩
    simp only [List.length_map]; exact Le.refl _
  · rintro ⟨q, k, H1⟩ ⟨hx, hr, hk, hz, hc⟩
    simp only at hx hr hk hz hc
    refine ifB_dec (fun h1 => ?_) (fun h1 => ?_)
    · simp only at h1
      have hlt : k < ss.length := by omega
      have hs := stsB_snoc hlt
      have hle := stsB_le ss (k + 1)
      have hle0 := stsB_le ss k
      have hst : (stB ss[k]).length = (enc ss[k].length).length + ss[k].length := by unfold stB; rw [List.length_append]
      rw [hs, List.length_append] at hle
      refine ⟨k, rfl, _, stAt hlt, ?_⟩
      refine ⟨_, LeL.refl _, ?_⟩
      refine wput_con ss[k].length (xs ++ stsB (ss.take k)) q H1 H0 _ (by omega) hx hr (by rw [List.length_append]; omega) fun c hcb => ?_
      intro hz1 hz2; clear hz1 hz2
      refine ⟨?_, ifNil_or (fun h => ?_) (fun h => ?_)⟩
      · simp only [List.length_map, List.length_append]
        (first | refine Or.inl ?_ | skip)
        show _ * (1 + 1) ≤ _
        omega
      · have h0 : ss[k] = [] := by simpa using h
        refine ⟨by constructor <;> simp only <;> omega, ?_⟩
        refine ⟨(some c, k + 1, (c.b, .cap c) :: H0), ⟨nofun, Heap.Rem.here, (by simp only; omega), nofun, fun c' h _ => by cases h; exact ⟨hcb, rfl⟩⟩, by (try dsimp only); omega, ⟨⟨?_, Le.refl _, Le.refl _, Le.refl _, Le.refl _, trivial⟩, trivial, List.Sublist.refl _⟩⟩
        refine le_of_eq ?_
        show AV.sl _ _ _ = AV.sl _ _ _
        rw [hs]
        unfold stB
        rw [h0]
        simp
      · refine ⟨_, Heap.Rem.here, fun c' hc' => ?_⟩
        refine ⟨by constructor <;> simp only <;> omega, ?_⟩
        refine ⟨(some c', k + 1, (c'.b, .cap c') :: H0), ⟨nofun, Heap.Rem.here, (by simp only; omega), nofun, fun c'' h _ => by cases h; exact ⟨hc', rfl⟩⟩, by (try dsimp only); omega, ⟨⟨?_, Le.refl _, Le.refl _, Le.refl _, Le.refl _, trivial⟩, trivial, List.Sublist.refl _⟩⟩
        refine le_of_eq ?_
        show AV.sl _ _ _ = AV.sl _ _ _
        rw [hs]
        unfold stB
        simp
    · simp only at h1
      have hk' : k = ss.length := by omega
      subst hk'
      have h0 : ss.length ≠ 0 := fun h => hne (List.eq_nil_of_length_eq_zero h)
      cases q with
      | none => exact absurd (hz rfl) h0
      | some c =>
        obtain ⟨h2, rfl⟩ := hc c rfl h0
        refine ⟨_, _, le_of_eq ?_, List.Sublist.refl _, hq c h2⟩
        show AV.sl _ _ _ = AV.sl _ _ _
        rw [List.take_length]

set_option maxRecDepth 100000 in
theorem Texts_con (s : List UInt8) (o : Own) (H : Heap) (Q : AV → Heap → Prop) (hlen : s.length ≤ 1000000)
    (hq : ∀ c : Cap, c.b ∉ H.keys → Q (.sl (.own c) 1 ((stB s).map byteV)) ((c.b, .cap c) :: H)) : Con Tryz.prog 103 [.sl o 1 [.str s]] H Q := by
  refine con_of_awp (esc := fun _ => false) tab_ok mixed Tryz.func103 rfl (ent Tryz.func103 (by kernel_rfl) rfl) (by kernel_rfl) ?_
  intro hw hn
  refine ⟨_, LeL.refl _, ?_⟩
  have h9 := enc_le6 s.length (by omega)
  refine texts_con [s] o none [] H H _ (fun _ => rfl) rfl (by simp [stsB, stB]; omega) (by simp) fun c hc => ?_
  intro hz1 hz2; clear hz1 hz2
  refine ⟨_, _, ?_, List.Sublist.refl _, hq c hc⟩
  exact le_of_eq (by show AV.sl _ _ _ = AV.sl _ _ _; simp [stsB])

set_option maxRecDepth 100000 in
theorem pput_con (ns : List Nat) (o : Own) (q : Option Cap) (xs : List UInt8) (H H0 : Heap) (Q : AV → Heap → Prop) (h40 : ∀ n ∈ ns, n ≤ 1099511627776) (hl : ns.length ≤ 1000) (hne : ns ≠ []) (hx : q = none → xs = []) (hr : BufIn q H H0) (hlen : xs.length ≤ 1099511627776)
    (hq : ∀ c : Cap, c.b ∉ H0.keys → Q (.sl (.own c) 1 ((xs ++ encs ns).map byteV)) ((c.b, .cap c) :: H0)) : Con Tryz.prog 102 [bufS q xs, .sl o 1 (ns.map nI)] H Q := by
  refine con_of_awp (esc := fun _ => false) tab_ok mixed Tryz.func102 rfl (ent Tryz.func102 (by kernel_rfl) rfl) (by kernel_rfl) ?_
  intro hw hn
  have hel := encs_len ns h40
  have hpos : encs ns ≠ [] := by
    cases ns with
    | nil => exact absurd rfl hne
    | cons n ns =>
      intro h
      have := enc_pos n
      have h2 : (encs (n :: ns)).length = (enc n).length + (encs ns).length := by simp [encs]
      rw [h, List.length_nil] at h2
      omega
  refine ⟨_, LeL.refl _, ?_⟩
  refine Nums_con o ns H _ h40 (by omega) fun q1 hq1 hf1 => ?_
  intro hz1 hz2; clear hz1 hz2
  cases q1 with
  | none => exact absurd (hq1 rfl) hpos
  | some c1 =>
    cases q with
    | none =>
      obtain rfl := hx rfl
      obtain rfl : H = H0 := hr
      refine ⟨?_, ifNil_or (fun h => absurd (by simpa using h) hpos) (fun h => fun c hc => ?_)⟩
      · simp only [List.length_map, List.length_nil]
        (first | refine Or.inl ?_ | skip)
        show _ * (1 + 1) ≤ _
        omega
      · refine ⟨_, (c.b, .cap c) :: H, Le.refl _, List.Sublist.cons_cons _ (List.sublist_cons_self _ _), ?_⟩
        have hc2 : c.b ∉ c1.b :: H.keys := hc
        simpa [bufS, retAV] using hq c fun hh => hc2 (List.mem_cons_of_mem _ hh)
    | some c0 =>
      refine ⟨?_, ifNil_or (fun h => absurd (by simpa using h) hpos) (fun h => ⟨_, Heap.Rem.there hr, fun c hc => ?_⟩)⟩
      · simp only [List.length_map]
        (first | refine Or.inl ?_ | skip)
        show _ * (1 + 1) ≤ _
        omega
      · refine ⟨_, (c.b, .cap c) :: H0, Le.refl _, List.Sublist.cons_cons _ (List.sublist_cons_self _ _), ?_⟩
        have hc2 : c.b ∉ c1.b :: H0.keys := hc
        simpa [bufS, retAV] using hq c fun hh => hc2 (List.mem_cons_of_mem _ hh)

/-! levels and terms as bytes -/
mutual
def lvB : Lv → List UInt8
  | .mk k n xs => enc k.toNat ++ (if k = 1 ∨ k = 2 then enc n.toNat else []) ++ lvBL xs
def lvBL : List Lv → List UInt8
  | [] => []
  | l :: ls => lvB l ++ lvBL ls
end
theorem lvB_eq (l : Lv) : lvB l = enc l.kind.toNat ++ (if l.kind = 1 ∨ l.kind = 2 then enc l.n.toNat else []) ++ lvBL l.args := by cases l; rfl
theorem lvBL_snoc {ls : List Lv} {k : Nat} (h : k < ls.length) : lvBL (ls.take (k + 1)) = lvBL (ls.take k) ++ lvB ls[k] := by
  induction ls generalizing k with
  | nil => simp at h
  | cons a ls ih =>
    cases k with
    | zero => simp [lvBL]
    | succ k => simp [lvBL, ih (by simpa using h)]
/-- what a node that is right says -/
theorem lvNode_in {n k m : Int} {len : Nat} (hn : n ≤ 4) (h : lvNode n k m len = true) : 1 ≤ k ∧ k ≤ 5 ∧ 0 ≤ m ∧ m ≤ 100 := by
  unfold lvNode at h
  by_cases h1 : k = 1
  · simp [h1] at h; omega
  · by_cases h2 : k = 2
    · simp [h2] at h; omega
    · by_cases h3 : k = 3
      · simp [h3] at h; omega
      · by_cases h4 : k = 4 ∨ k = 5
        · simp [h1, h2, h3, h4] at h; omega
        · simp [h1, h2, h3, h4] at h
theorem lvFit_arg {n : Int} {l a : Lv} (h : lvFit n l = true) (ha : a ∈ l.args) : lvFit n a = true := by
  rw [lvFit_parts, Bool.and_eq_true] at h
  exact List.all_eq_true.1 h.2 a ha
theorem lvFit_in {n : Int} {l : Lv} (hn : n ≤ 4) (h : lvFit n l = true) : 1 ≤ l.kind ∧ l.kind ≤ 5 ∧ 0 ≤ l.n ∧ l.n ≤ 100 := by
  rw [lvFit_parts, Bool.and_eq_true] at h
  exact lvNode_in hn h.1
mutual
theorem lvB_len {n : Int} (hn : n ≤ 4) : ∀ l : Lv, lvFit n l = true → (lvB l).length ≤ 12 * l.nodes
  | .mk k m xs, h => by
    have h1 := lvFit_in hn h
    have h2 := lvBL_len hn xs (fun a ha => lvFit_arg h ha)
    have e1 := enc_le6 k.toNat (by simp only [Lv.kind] at h1; omega)
    have e2 := enc_le6 m.toNat (by simp only [Lv.n] at h1; omega)
    simp only [lvB, Lv.nodes, List.length_append]
    split <;> (try simp only [List.length_nil]) <;> omega
theorem lvBL_len {n : Int} (hn : n ≤ 4) : ∀ ls : List Lv, (∀ l ∈ ls, lvFit n l = true) → (lvBL ls).length ≤ 12 * Lv.nodesL ls
  | [], _ => by simp [lvBL]
  | l :: ls, h => by
    have h1 := lvB_len hn l (h l (by simp))
    have h2 := lvBL_len hn ls fun a ha => h a (List.mem_cons_of_mem _ ha)
    simp only [lvBL, Lv.nodesL, List.length_append]
    omega
end

set_option maxRecDepth 100000 in
theorem leaf_con (k : Int) : Ans Tryz.prog 129 [.i k] (.b (decide (k = 1 ∨ k = 2))) := by
  intro H Q hq
  refine con_of_awp (esc := fun _ => false) tab_ok mixed Tryz.func129 rfl (ent Tryz.func129 (by kernel_rfl) rfl) (by kernel_rfl) ?_
  intro hw hn
  have fin : ∀ q : Bool, q = decide (k = 1 ∨ k = 2) → ∃ r H', Le (.b q) r ∧ List.Sublist H' H ∧ Q r H' := fun q h => ⟨_, H, ret_b h, List.Sublist.refl _, hq⟩
  refine ifB_dec (fun h1 => ?_) (fun h1 => ?_)
  · exact fin _ (by simp [h1])
  · refine ifB_dec (fun h2 => ?_) (fun h2 => ?_)
    · exact fin _ (by simp [h2])
    · exact fin _ (by simp [h1, h2])

set_option maxRecDepth 100000 in
theorem putLevel_con (n : Int) (hn4 : n ≤ 4) : ∀ (N : Nat) (l : Lv) (q : Option Cap) (xs : List UInt8) (H H0 : Heap) (Q : AV → Heap → Prop), l.nodes ≤ N → lvFit n l = true → (q = none → xs = []) → BufIn q H H0 → xs.length + 12 * l.nodes ≤ 1099511627776 →
    (∀ c : Cap, c.b ∉ H0.keys → Q (.sl (.own c) 1 ((xs ++ lvB l).map byteV)) ((c.b, .cap c) :: H0)) → Con Tryz.prog 104 [bufS q xs, lvX l] H Q := by
  intro N
  induction N with
  | zero => intro l _ _ _ _ _ h; have := l.nodes_pos; omega
  | succ N ih =>
    intro l q xs H H0 Q hN hfit hx hr hlen hq
    refine con_of_awp (esc := fun _ => false) tab_ok mixed Tryz.func104 rfl (ent Tryz.func104 (by kernel_rfl) rfl) (by kernel_rfl) ?_
    intro hw hn
    have hnd := l.nodes_eq
    have hla := (hw (lvX l) (by simp)).args
    have hin := lvFit_in hn4 hfit
    obtain ⟨K, hK⟩ : ∃ K : Nat, l.kind = (K : Int) := ⟨l.kind.toNat, by omega⟩
    obtain ⟨M, hM⟩ : ∃ M : Nat, l.n = (M : Int) := ⟨l.n.toNat, by omega⟩
    have eK := enc_le6 K (by omega)
    have eM := enc_le6 M (by omega)
    have hblen := lvBL_len hn4 l.args fun a ha => lvFit_arg hfit ha
    have hbpre : ∀ k, (lvBL (l.args.take k)).length ≤ (lvBL l.args).length := fun k => by
      have : lvBL l.args = lvBL (l.args.take k) ++ lvBL (l.args.drop k) := by
        have : ∀ us bs : List Lv, lvBL (us ++ bs) = lvBL us ++ lvBL bs := fun us bs => by
          induction us with
          | nil => rfl
          | cons a us ih => simp [lvBL, ih]
        rw [← this, List.take_append_drop]
      rw [this, List.length_append]; omega
    have fin : ∀ (ys : List UInt8) (c : Cap), ys ++ lvBL l.args = xs ++ lvB l → c.b ∉ H0.keys → ∃ r H', Le (bufS (some c) (ys ++ lvBL (l.args.take l.args.length))) r ∧ List.Sublist H' ((c.b, .cap c) :: H0) ∧ Q r H' := fun ys c he hc => by
      refine ⟨_, _, le_of_eq ?_, List.Sublist.refl _, hq c hc⟩
      show AV.sl _ _ _ = AV.sl _ _ _
      rw [List.take_length, he]
    refine ⟨[bufS q xs, .sl .full 1 ([K].map nI)], ⟨Le.refl _, le_of_eq (show AV.sl .full 1 [.i l.kind] = .sl .full 1 ([K].map nI) by rw [hK]; rfl), trivial⟩, ?_⟩
    refine pput_con [K] .full q xs H H0 _ (by simp; omega) (by simp) (by simp) hx hr (by omega) fun c hc => ?_
    intro hz1 hz2; clear hz1 hz2
    have eKs : encs [K] = enc K := by simp [encs]
    have eMs : encs [M] = enc M := by simp [encs]
    refine ⟨_, LeL.refl _, leaf_con _ _ _ ?_⟩
    intro hz1 hz2; clear hz1 hz2
    by_cases hlf : l.kind = 1 ∨ l.kind = 2
    · rw [decide_eq_true hlf]
      refine ⟨[bufS (some c) (xs ++ encs [K]), .sl .full 1 ([M].map nI)], ⟨Le.refl _, le_of_eq (show AV.sl .full 1 [.i l.n] = .sl .full 1 ([M].map nI) by rw [hM]; rfl), trivial⟩, ?_⟩
      refine pput_con [M] .full (some c) (xs ++ encs [K]) _ H0 _ (by simp; omega) (by simp) (by simp) nofun Heap.Rem.here (by rw [eKs, List.length_append]; omega) fun c' hc' => ?_
      intro hz1 hz2; clear hz1 hz2
      refine ⟨Cap × Nat, fun p => ⟨[(0, .g (bufS (some p.1) ((xs ++ encs [K] ++ encs [M]) ++ lvBL (l.args.take p.2)))), (4, .g (.sl .full 0 [])), (21, .g (.sl .no 3 (l.args.map lvA))), (22, .g (.i l.args.length)), (23, .g (.i p.2))], [], (p.1.b, .cap p.1) :: H0⟩,
        fun p => p.1.b ∉ H0.keys ∧ p.2 ≤ l.args.length, fun p => l.args.length - p.2, ⟨(c', 0), ⟨hc', Nat.zero_le _⟩, ?_⟩, ?_⟩
      · refine ⟨⟨le_of_eq (by simp [bufS, lvBL]), Le.refl _, Le.refl _, ?_, Le.refl _, trivial⟩, trivial, List.Sublist.refl _⟩
        simp only [List.length_map]; exact Le.refl _
      · rintro ⟨c, k⟩ ⟨hc, hk⟩
        simp only at hc hk
        refine ifB_dec (fun h1 => ?_) (fun h1 => ?_)
        · simp only at h1
          have hlt : k < l.args.length := by omega
          have hmem := Lv.nodesL_mem (List.getElem_mem hlt)
          refine ⟨k, rfl, _, lvAt hlt, ?_⟩
          refine ⟨_, LeL.refl _, ?_⟩
          have hs := lvBL_snoc hlt
          have hp := hbpre (k + 1)
          have hb1 := lvB_len hn4 _ (lvFit_arg hfit (List.getElem_mem hlt))
          have hp0 := nodesL_le l.args (k + 1)
          have hp1 := nodesL_snoc hlt
          have hp2 := lvBL_len hn4 (l.args.take k) fun a ha => lvFit_arg hfit (List.mem_of_mem_take ha)
          refine ih l.args[k] (some c) ((xs ++ encs [K] ++ encs [M]) ++ lvBL (l.args.take k)) _ H0 _ (by omega) (lvFit_arg hfit (List.getElem_mem hlt)) nofun Heap.Rem.here (by simp only [List.length_append, eKs]; (try simp only [eMs]); omega) fun c' hc' => ?_
          intro hz1 hz2; clear hz1 hz2
          refine ⟨by constructor <;> simp only <;> omega, ?_⟩
          refine ⟨(c', k + 1), ⟨hc', by simp only; omega⟩, by (try dsimp only); omega, ⟨⟨?_, Le.refl _, Le.refl _, Le.refl _, Le.refl _, trivial⟩, trivial, List.Sublist.refl _⟩⟩
          refine le_of_eq ?_
          show AV.sl _ _ _ = AV.sl _ _ _
          rw [hs]
          simp
        · simp only at h1
          have hk' : k = l.args.length := by omega
          subst hk'
          exact fin (xs ++ encs [K] ++ encs [M]) c (by rw [lvB_eq, if_pos hlf, hK, hM]; simp [encs]) hc
    · rw [decide_eq_false hlf]
      refine ⟨Cap × Nat, fun p => ⟨[(0, .g (bufS (some p.1) ((xs ++ encs [K]) ++ lvBL (l.args.take p.2)))), (4, .g (.sl .full 0 [])), (21, .g (.sl .no 3 (l.args.map lvA))), (22, .g (.i l.args.length)), (23, .g (.i p.2))], [], (p.1.b, .cap p.1) :: H0⟩,
        fun p => p.1.b ∉ H0.keys ∧ p.2 ≤ l.args.length, fun p => l.args.length - p.2, ⟨(c, 0), ⟨hc, Nat.zero_le _⟩, ?_⟩, ?_⟩
      · refine ⟨⟨le_of_eq (by simp [bufS, lvBL]), Le.refl _, Le.refl _, ?_, Le.refl _, trivial⟩, trivial, List.Sublist.refl _⟩
        simp only [List.length_map]; exact Le.refl _
      · rintro ⟨c, k⟩ ⟨hc, hk⟩
        simp only at hc hk
        refine ifB_dec (fun h1 => ?_) (fun h1 => ?_)
        · simp only at h1
          have hlt : k < l.args.length := by omega
          have hmem := Lv.nodesL_mem (List.getElem_mem hlt)
          refine ⟨k, rfl, _, lvAt hlt, ?_⟩
          refine ⟨_, LeL.refl _, ?_⟩
          have hs := lvBL_snoc hlt
          have hp := hbpre (k + 1)
          have hb1 := lvB_len hn4 _ (lvFit_arg hfit (List.getElem_mem hlt))
          have hp0 := nodesL_le l.args (k + 1)
          have hp1 := nodesL_snoc hlt
          have hp2 := lvBL_len hn4 (l.args.take k) fun a ha => lvFit_arg hfit (List.mem_of_mem_take ha)
          refine ih l.args[k] (some c) ((xs ++ encs [K]) ++ lvBL (l.args.take k)) _ H0 _ (by omega) (lvFit_arg hfit (List.getElem_mem hlt)) nofun Heap.Rem.here (by simp only [List.length_append, eKs]; (try simp only [eMs]); omega) fun c' hc' => ?_
          intro hz1 hz2; clear hz1 hz2
          refine ⟨by constructor <;> simp only <;> omega, ?_⟩
          refine ⟨(c', k + 1), ⟨hc', by simp only; omega⟩, by (try dsimp only); omega, ⟨⟨?_, Le.refl _, Le.refl _, Le.refl _, Le.refl _, trivial⟩, trivial, List.Sublist.refl _⟩⟩
          refine le_of_eq ?_
          show AV.sl _ _ _ = AV.sl _ _ _
          rw [hs]
          simp
        · simp only at h1
          have hk' : k = l.args.length := by omega
          subst hk'
          exact fin (xs ++ encs [K]) c (by rw [lvB_eq, if_neg hlf, hK]; simp [encs]) hc

end Go.Proofs.YtahdkhklngjmoaaGreatDoor

/-
  slices.ContainsFunc and IndexFunc; pack's near, right. No condition.
-/
namespace Go.Proofs.YtahdkhklngjmoaaGreatDoor
open Go.RowKit

theorem any_take {α : Type} {f : α → Bool} {xs : List α} {k : Nat} (h : k < xs.length) (h1 : (xs.take k).any f = false) (h2 : f xs[k] = false) : (xs.take (k + 1)).any f = false := by
  rw [List.take_succ_eq_append_getElem h, List.any_append, h1]; simp [h2]
theorem any_yes {α : Type} {f : α → Bool} {xs : List α} {k : Nat} (h : k < xs.length) (h2 : f xs[k] = true) : xs.any f = true := List.any_eq_true.2 ⟨xs[k], List.getElem_mem h, h2⟩
set_option maxRecDepth 100000 in
theorem anyTmI {g : FuncId} {caps : List AV} {p : Tm → Bool} (xs : List Tm) (H : Heap) (hg : ∀ a ∈ xs, ∀ Q : AV → Heap → Prop, Q (.b (p a)) H → Con Tryz.prog g ([tmX a] ++ caps) H Q) (Q : AV → Heap → Prop) (hyes : ∀ k : Nat, xs.any p = true → Q (.i k) H) (hno : xs.any p = false → Q (.i (-1)) H) :
    Con Tryz.prog 158 [.sl .no 5 (xs.map tmA), .fn (.func g) caps] H Q := by
  refine con_of_awp (esc := fun _ => false) tab_ok mixed Tryz.func158 rfl (ent Tryz.func158 (by kernel_rfl) rfl) (by kernel_rfl) ?_
  intro hw hn
  have hlen : xs.length ≤ 9223372036854775807 := by
    have := Wf.len (hw (.sl .no 5 (xs.map tmA)) (by simp))
    simpa using this
  refine ⟨Nat, fun k => ⟨[(0, .g (.sl .no 5 (xs.map tmA))), (1, .g (.fn (.func g) caps)), (4, .g (.i 0)), (7, .g (.i xs.length)), (8, .g (.i k))], [], H⟩, fun k => k ≤ xs.length ∧ (xs.take k).any p = false, fun k => xs.length - k, ⟨0, ⟨Nat.zero_le _, rfl⟩, ?_⟩, ?_⟩
  · (constructor <;> repeat' (first | exact trivial | exact ⟨rfl, rfl⟩ | exact ⟨rfl, LeL.refl _⟩ | exact Le.refl _ | exact List.Sublist.refl _ | (show Le (AV.i _) (AV.i _); rw [List.length_map]; exact Le.refl _) | refine And.intro ?_ ?_))
  · rintro k ⟨hk, hpre⟩
    refine ifB_dec (fun h => ?_) (fun h => ?_)
    · have hlt : k < xs.length := by omega
      refine ⟨k, rfl, _, tmAt' hlt, ?_⟩
      refine ⟨_, LeL.refl _, hg _ (List.getElem_mem hlt) _ ?_⟩
      intro hz1 hz2; clear hz1 hz2
      cases hh : p xs[k] with
      | true => exact ⟨_, H, Le.refl _, List.Sublist.refl _, hyes k (any_yes hlt hh)⟩
      | false =>
        refine ⟨in64_of (by first | omega | (dsimp only; omega)) (by first | omega | (dsimp only; omega)), ?_⟩
        refine ⟨k + 1, ⟨by omega, any_take hlt hpre hh⟩, by (try dsimp only); omega, ?_⟩
        (constructor <;> repeat' (first | exact trivial | exact ⟨rfl, rfl⟩ | exact ⟨rfl, LeL.refl _⟩ | exact Le.refl _ | exact List.Sublist.refl _ | (show Le (AV.i _) (AV.i _); rw [List.length_map]; exact Le.refl _) | refine And.intro ?_ ?_))
    · have hk' : k = xs.length := by omega
      rw [hk', List.take_length] at hpre
      exact ⟨_, H, Le.refl _, List.Sublist.refl _, hno hpre⟩
set_option maxRecDepth 100000 in
theorem anyTm {g : FuncId} {caps : List AV} {p : Tm → Bool} (xs : List Tm) (H : Heap) (hg : ∀ a ∈ xs, ∀ Q : AV → Heap → Prop, Q (.b (p a)) H → Con Tryz.prog g ([tmX a] ++ caps) H Q) (Q : AV → Heap → Prop) (hq : Q (.b (xs.any p)) H) : Con Tryz.prog 126 [.sl .no 5 (xs.map tmA), .fn (.func g) caps] H Q := by
  refine con_of_awp (esc := fun _ => false) tab_ok mixed Tryz.func126 rfl (ent Tryz.func126 (by kernel_rfl) rfl) (by kernel_rfl) ?_
  intro hw hn
  have fin : ∀ q : Bool, q = xs.any p → ∃ r H', Le (.b q) r ∧ List.Sublist H' H ∧ Q r H' := fun q h => ⟨_, H, ret_b h, List.Sublist.refl _, hq⟩
  refine ⟨_, LeL.refl _, ?_⟩
  refine anyTmI xs H hg _ (fun k h => ?_) (fun h => ?_)
  · intro hz1 hz2; clear hz1 hz2
    exact fin _ (by rw [h])
  · intro hz1 hz2; clear hz1 hz2
    exact fin _ (by rw [h])
set_option maxRecDepth 100000 in
theorem anyLvI {g : FuncId} {caps : List AV} {p : Lv → Bool} (xs : List Lv) (H : Heap) (hg : ∀ a ∈ xs, ∀ Q : AV → Heap → Prop, Q (.b (p a)) H → Con Tryz.prog g ([lvX a] ++ caps) H Q) (Q : AV → Heap → Prop) (hyes : ∀ k : Nat, xs.any p = true → Q (.i k) H) (hno : xs.any p = false → Q (.i (-1)) H) :
    Con Tryz.prog 197 [.sl .no 3 (xs.map lvA), .fn (.func g) caps] H Q := by
  refine con_of_awp (esc := fun _ => false) tab_ok mixed Tryz.func197 rfl (ent Tryz.func197 (by kernel_rfl) rfl) (by kernel_rfl) ?_
  intro hw hn
  have hlen : xs.length ≤ 9223372036854775807 := by
    have := Wf.len (hw (.sl .no 3 (xs.map lvA)) (by simp))
    simpa using this
  refine ⟨Nat, fun k => ⟨[(0, .g (.sl .no 3 (xs.map lvA))), (1, .g (.fn (.func g) caps)), (4, .g (.i 0)), (7, .g (.i xs.length)), (8, .g (.i k))], [], H⟩, fun k => k ≤ xs.length ∧ (xs.take k).any p = false, fun k => xs.length - k, ⟨0, ⟨Nat.zero_le _, rfl⟩, ?_⟩, ?_⟩
  · (constructor <;> repeat' (first | exact trivial | exact ⟨rfl, rfl⟩ | exact ⟨rfl, LeL.refl _⟩ | exact Le.refl _ | exact List.Sublist.refl _ | (show Le (AV.i _) (AV.i _); rw [List.length_map]; exact Le.refl _) | refine And.intro ?_ ?_))
  · rintro k ⟨hk, hpre⟩
    refine ifB_dec (fun h => ?_) (fun h => ?_)
    · have hlt : k < xs.length := by omega
      refine ⟨k, rfl, _, lvAt hlt, ?_⟩
      refine ⟨_, LeL.refl _, hg _ (List.getElem_mem hlt) _ ?_⟩
      intro hz1 hz2; clear hz1 hz2
      cases hh : p xs[k] with
      | true => exact ⟨_, H, Le.refl _, List.Sublist.refl _, hyes k (any_yes hlt hh)⟩
      | false =>
        refine ⟨in64_of (by first | omega | (dsimp only; omega)) (by first | omega | (dsimp only; omega)), ?_⟩
        refine ⟨k + 1, ⟨by omega, any_take hlt hpre hh⟩, by (try dsimp only); omega, ?_⟩
        (constructor <;> repeat' (first | exact trivial | exact ⟨rfl, rfl⟩ | exact ⟨rfl, LeL.refl _⟩ | exact Le.refl _ | exact List.Sublist.refl _ | (show Le (AV.i _) (AV.i _); rw [List.length_map]; exact Le.refl _) | refine And.intro ?_ ?_))
    · have hk' : k = xs.length := by omega
      rw [hk', List.take_length] at hpre
      exact ⟨_, H, Le.refl _, List.Sublist.refl _, hno hpre⟩
set_option maxRecDepth 100000 in
theorem anyLv {g : FuncId} {caps : List AV} {p : Lv → Bool} (xs : List Lv) (H : Heap) (hg : ∀ a ∈ xs, ∀ Q : AV → Heap → Prop, Q (.b (p a)) H → Con Tryz.prog g ([lvX a] ++ caps) H Q) (Q : AV → Heap → Prop) (hq : Q (.b (xs.any p)) H) : Con Tryz.prog 188 [.sl .no 3 (xs.map lvA), .fn (.func g) caps] H Q := by
  refine con_of_awp (esc := fun _ => false) tab_ok mixed Tryz.func188 rfl (ent Tryz.func188 (by kernel_rfl) rfl) (by kernel_rfl) ?_
  intro hw hn
  have fin : ∀ q : Bool, q = xs.any p → ∃ r H', Le (.b q) r ∧ List.Sublist H' H ∧ Q r H' := fun q h => ⟨_, H, ret_b h, List.Sublist.refl _, hq⟩
  refine ⟨_, LeL.refl _, ?_⟩
  refine anyLvI xs H hg _ (fun k h => ?_) (fun h => ?_)
  · intro hz1 hz2; clear hz1 hz2
    exact fin _ (by rw [h])
  · intro hz1 hz2; clear hz1 hz2
    exact fin _ (by rw [h])
set_option maxRecDepth 100000 in
theorem anyStI {g : FuncId} {caps : List AV} {p : (List UInt8) → Bool} (xs : List (List UInt8)) (H : Heap) (hg : ∀ a ∈ xs, ∀ Q : AV → Heap → Prop, Q (.b (p a)) H → Con Tryz.prog g ([.str a] ++ caps) H Q) (Q : AV → Heap → Prop) (hyes : ∀ k : Nat, xs.any p = true → Q (.i k) H) (hno : xs.any p = false → Q (.i (-1)) H) :
    Con Tryz.prog 153 [.sl .no 1 (xs.map .str), .fn (.func g) caps] H Q := by
  refine con_of_awp (esc := fun _ => false) tab_ok mixed Tryz.func153 rfl (ent Tryz.func153 (by kernel_rfl) rfl) (by kernel_rfl) ?_
  intro hw hn
  have hlen : xs.length ≤ 9223372036854775807 := by
    have := Wf.len (hw (.sl .no 1 (xs.map .str)) (by simp))
    simpa using this
  refine ⟨Nat, fun k => ⟨[(0, .g (.sl .no 1 (xs.map .str))), (1, .g (.fn (.func g) caps)), (4, .g (.i 0)), (7, .g (.i xs.length)), (8, .g (.i k))], [], H⟩, fun k => k ≤ xs.length ∧ (xs.take k).any p = false, fun k => xs.length - k, ⟨0, ⟨Nat.zero_le _, rfl⟩, ?_⟩, ?_⟩
  · (constructor <;> repeat' (first | exact trivial | exact ⟨rfl, rfl⟩ | exact ⟨rfl, LeL.refl _⟩ | exact Le.refl _ | exact List.Sublist.refl _ | (show Le (AV.i _) (AV.i _); rw [List.length_map]; exact Le.refl _) | refine And.intro ?_ ?_))
  · rintro k ⟨hk, hpre⟩
    refine ifB_dec (fun h => ?_) (fun h => ?_)
    · have hlt : k < xs.length := by omega
      refine ⟨k, rfl, _, stAt hlt, ?_⟩
      refine ⟨_, LeL.refl _, hg _ (List.getElem_mem hlt) _ ?_⟩
      intro hz1 hz2; clear hz1 hz2
      cases hh : p xs[k] with
      | true => exact ⟨_, H, Le.refl _, List.Sublist.refl _, hyes k (any_yes hlt hh)⟩
      | false =>
        refine ⟨in64_of (by first | omega | (dsimp only; omega)) (by first | omega | (dsimp only; omega)), ?_⟩
        refine ⟨k + 1, ⟨by omega, any_take hlt hpre hh⟩, by (try dsimp only); omega, ?_⟩
        (constructor <;> repeat' (first | exact trivial | exact ⟨rfl, rfl⟩ | exact ⟨rfl, LeL.refl _⟩ | exact Le.refl _ | exact List.Sublist.refl _ | (show Le (AV.i _) (AV.i _); rw [List.length_map]; exact Le.refl _) | refine And.intro ?_ ?_))
    · have hk' : k = xs.length := by omega
      rw [hk', List.take_length] at hpre
      exact ⟨_, H, Le.refl _, List.Sublist.refl _, hno hpre⟩
set_option maxRecDepth 100000 in
theorem anySt {g : FuncId} {caps : List AV} {p : (List UInt8) → Bool} (xs : List (List UInt8)) (H : Heap) (hg : ∀ a ∈ xs, ∀ Q : AV → Heap → Prop, Q (.b (p a)) H → Con Tryz.prog g ([.str a] ++ caps) H Q) (Q : AV → Heap → Prop) (hq : Q (.b (xs.any p)) H) : Con Tryz.prog 121 [.sl .no 1 (xs.map .str), .fn (.func g) caps] H Q := by
  refine con_of_awp (esc := fun _ => false) tab_ok mixed Tryz.func121 rfl (ent Tryz.func121 (by kernel_rfl) rfl) (by kernel_rfl) ?_
  intro hw hn
  have fin : ∀ q : Bool, q = xs.any p → ∃ r H', Le (.b q) r ∧ List.Sublist H' H ∧ Q r H' := fun q h => ⟨_, H, ret_b h, List.Sublist.refl _, hq⟩
  refine ⟨_, LeL.refl _, ?_⟩
  refine anyStI xs H hg _ (fun k h => ?_) (fun h => ?_)
  · intro hz1 hz2; clear hz1 hz2
    exact fin _ (by rw [h])
  · intro hz1 hz2; clear hz1 hz2
    exact fin _ (by rw [h])

/-! pack's near, right -/
mutual
def tmNear : Tm → Bool
  | .mk k n _ _ xs => (decide (k ≠ 1) || decide (n < 1099511627776)) && tmNearL xs
def tmNearL : List Tm → Bool
  | [] => true
  | t :: ts => tmNear t && tmNearL ts
end
theorem tmNearL_all : ∀ ts : List Tm, tmNearL ts = !(ts.any fun t => !tmNear t)
  | [] => rfl
  | t :: ts => by rw [tmNearL, tmNearL_all ts]; simp
theorem tmNear_eq (t : Tm) : tmNear t = ((decide (t.kind ≠ 1) || decide (t.n < 1099511627776)) && !(t.args.any fun t => !tmNear t)) := by cases t; rw [tmNear, tmNearL_all]; rfl

set_option maxRecDepth 100000 in
theorem near_con : ∀ (N : Nat) (l : Tm), l.nodes ≤ N → Ans Tryz.prog 101 [tmX l] (.b (tmNear l)) := by
  intro N
  induction N with
  | zero => intro l h; have := l.nodes_pos; omega
  | succ N ih =>
    have inner : ∀ l : Tm, l.nodes ≤ N → Ans Tryz.prog 125 [tmX l] (.b (!tmNear l)) := by
      intro l hN H Q hq
      refine con_of_awp (esc := fun _ => false) tab_ok mixed Tryz.func125 rfl (ent Tryz.func125 (by kernel_rfl) rfl) (by kernel_rfl) ?_
      intro hw hn
      refine ⟨_, LeL.refl _, ih l hN _ _ ?_⟩
      intro hz1 hz2; clear hz1 hz2
      exact ⟨_, H, Le.refl _, List.Sublist.refl _, hq⟩
    intro l hN H Q hq
    refine con_of_awp (esc := fun _ => false) tab_ok mixed Tryz.func101 rfl (ent Tryz.func101 (by kernel_rfl) rfl) (by kernel_rfl) ?_
    intro hw hn
    have hnd := l.nodes_eq
    have fin : ∀ q : Bool, q = tmNear l → ∃ r H', Le (.b q) r ∧ List.Sublist H' H ∧ Q r H' := fun q h => ⟨_, H, ret_b h, List.Sublist.refl _, hq⟩
    have hmain : (decide (l.kind ≠ 1) || decide (l.n < 1099511627776)) = true → tmNear l = !(l.args.any fun t => !tmNear t) := fun h => by rw [tmNear_eq, h, Bool.true_and]
    refine ifB_dec (fun h1 => ?_) (fun h1 => ?_)
    · refine ifB_dec (fun h2 => ?_) (fun h2 => ?_)
      · refine ⟨_, LeL.refl _, anyTm (p := fun t => !tmNear t) l.args _ (fun a ha Q hQ => inner a (by have := Tm.nodesL_mem ha; omega) _ Q hQ) _ ?_⟩
        intro hz1 hz2; clear hz1 hz2
        exact fin _ (hmain (by simp [h2])).symm
      · exact fin _ (by rw [tmNear_eq]; simp [h1, h2])
    · refine ⟨_, LeL.refl _, anyTm (p := fun t => !tmNear t) l.args _ (fun a ha Q hQ => inner a (by have := Tm.nodesL_mem ha; omega) _ Q hQ) _ ?_⟩
      intro hz1 hz2; clear hz1 hz2
      exact fin _ (hmain (by simp [h1])).symm

def packOk (t : Tm) : Bool := tmRight 4 1099511627776 t && tmNear t
set_option maxRecDepth 100000 in
theorem packRight_con (l : Tm) : Ans Tryz.prog 79 [tmX l] (.b (packOk l)) := by
  intro H Q hq
  refine con_of_awp (esc := fun _ => false) tab_ok mixed Tryz.func79 rfl (ent Tryz.func79 (by kernel_rfl) rfl) (by kernel_rfl) ?_
  intro hw hn
  have fin : ∀ q : Bool, q = packOk l → ∃ r H', Le (.b q) r ∧ List.Sublist H' H ∧ Q r H' := fun q h => ⟨_, H, ret_b h, List.Sublist.refl _, hq⟩
  refine ⟨_, LeL.refl _, tmRight_con _ _ _ _ _ ?_⟩
  intro hz1 hz2; clear hz1 hz2
  cases hg : tmRight 4 1099511627776 l with
  | true =>
    refine ⟨_, LeL.refl _, near_con _ _ (Nat.le_refl _) _ _ ?_⟩
    intro hz1 hz2; clear hz1 hz2
    exact fin _ (by simp [packOk, hg])
  | false => exact fin _ (by simp [packOk, hg])
end Go.Proofs.YtahdkhklngjmoaaGreatDoor

/-
  pack's putTerm, Term. No condition.
-/
namespace Go.Proofs.YtahdkhklngjmoaaGreatDoor
open Go.RowKit

theorem lvBL_append : ∀ us bs : List Lv, lvBL (us ++ bs) = lvBL us ++ lvBL bs := fun us bs => by
  induction us with
  | nil => rfl
  | cons a us ih => simp [lvBL, ih]
theorem lvBL_pre (ls : List Lv) (k : Nat) : (lvBL (ls.take k)).length ≤ (lvBL ls).length := by
  have : lvBL ls = lvBL (ls.take k) ++ lvBL (ls.drop k) := by rw [← lvBL_append, List.take_append_drop]
  rw [this, List.length_append]; omega
mutual
def tmB : Tm → List UInt8
  | .mk k n nm ls xs => enc k.toNat ++ (if k = 1 then enc n.toNat else if k = 3 then stB nm ++ enc ls.length else []) ++ lvBL ls ++ tmBL xs
def tmBL : List Tm → List UInt8
  | [] => []
  | l :: ls => tmB l ++ tmBL ls
end
def tmHd (l : Tm) : List UInt8 := if l.kind = 1 then enc l.n.toNat else if l.kind = 3 then stB l.name ++ enc l.levels.length else []
theorem tmB_eq (l : Tm) : tmB l = enc l.kind.toNat ++ tmHd l ++ lvBL l.levels ++ tmBL l.args := by cases l; rfl
theorem tmBL_append : ∀ us bs : List Tm, tmBL (us ++ bs) = tmBL us ++ tmBL bs := fun us bs => by
  induction us with
  | nil => rfl
  | cons a us ih => simp [tmBL, ih]
theorem tmBL_snoc {ls : List Tm} {k : Nat} (h : k < ls.length) : tmBL (ls.take (k + 1)) = tmBL (ls.take k) ++ tmB ls[k] := by
  rw [List.take_succ_eq_append_getElem h, tmBL_append]; simp [tmBL]

/-- what the bytes of a term ask of it -/
structure Pok (l : Tm) : Prop where
  kind : 1 ≤ l.kind ∧ l.kind ≤ 7
  num : l.kind = 1 → 0 ≤ l.n ∧ l.n ≤ 1099511627776
  name : l.name.length ≤ 40
  lv : ∀ x ∈ l.levels, lvFit 4 x = true
  few : l.levels.length ≤ 4
mutual
def PokAll : Tm → Prop
  | .mk k n nm ls xs => Pok (.mk k n nm ls xs) ∧ PokAllL xs
def PokAllL : List Tm → Prop
  | [] => True
  | t :: ts => PokAll t ∧ PokAllL ts
end
theorem PokAllL_mem : ∀ {ts : List Tm} {a : Tm}, PokAllL ts → a ∈ ts → PokAll a
  | t :: ts, a, h, ha => by
    rcases List.mem_cons.1 ha with rfl | ha
    · exact h.1
    · exact PokAllL_mem h.2 ha
theorem PokAll.pok {l : Tm} (h : PokAll l) : Pok l := by cases l; exact h.1
theorem PokAll.arg {l a : Tm} (h : PokAll l) (ha : a ∈ l.args) : PokAll a := by cases l; exact PokAllL_mem h.2 ha
theorem tmHd_len {l : Tm} (h : Pok l) : (tmHd l).length ≤ 52 := by
  unfold tmHd
  have h1 := h.name
  have h2 := h.few
  have e2 := enc_le6 l.name.length (by omega)
  have e3 := enc_le6 l.levels.length (by omega)
  split
  · have := h.num (by assumption)
    have e1 := enc_le6 l.n.toNat (by omega)
    omega
  · split
    · unfold stB; simp only [List.length_append]; omega
    · simp
mutual
theorem tmB_len : ∀ l : Tm, PokAll l → (tmB l).length ≤ 64 * l.nodes
  | .mk k n nm ls xs, h => by
    have hp := h.pok
    have h1 := tmHd_len hp
    have h2 := lvBL_len (n := 4) (by decide) ls hp.lv
    have h3 := tmBL_len xs fun a ha => h.arg ha
    have e1 := enc_le6 k.toNat (by have := hp.kind; simp only [Tm.kind] at this; omega)
    rw [tmB_eq]
    simp only [Tm.kind, Tm.levels, Tm.args, List.length_append]
    simp only [Tm.nodes]
    omega
theorem tmBL_len : ∀ ls : List Tm, (∀ l ∈ ls, PokAll l) → (tmBL ls).length ≤ 64 * Tm.nodesL ls
  | [], _ => by simp [tmBL]
  | l :: ls, h => by
    have h1 := tmB_len l (h l (by simp))
    have h2 := tmBL_len ls fun a ha => h a (List.mem_cons_of_mem _ ha)
    simp only [tmBL, Tm.nodesL, List.length_append]
    omega
end

set_option maxRecDepth 100000 in
set_option maxHeartbeats 1000000 in
theorem putTerm_con : ∀ (N : Nat) (l : Tm) (q : Option Cap) (xs : List UInt8) (H H0 : Heap) (Q : AV → Heap → Prop), l.nodes ≤ N → PokAll l → (q = none → xs = []) → BufIn q H H0 → xs.length + 64 * l.nodes ≤ 1099511627776 →
    (∀ c : Cap, c.b ∉ H0.keys → Q (.sl (.own c) 1 ((xs ++ tmB l).map byteV)) ((c.b, .cap c) :: H0)) → Con Tryz.prog 80 [bufS q xs, tmX l] H Q := by
  intro N
  induction N with
  | zero => intro l _ _ _ _ _ h; have := l.nodes_pos; omega
  | succ N ih =>
    intro l q xs H H0 Q hN hpk hx hr hlen hq
    refine con_of_awp (esc := fun _ => false) tab_ok mixed Tryz.func80 rfl (ent Tryz.func80 (by kernel_rfl) rfl) (by kernel_rfl) ?_
    intro hw hn
    have hnd := l.nodes_eq
    have hla := (hw (tmX l) (by simp)).targs
    have hp := hpk.pok
    have hkind := hp.kind
    have hfew := hp.few
    have hnm := hp.name
    obtain ⟨K, hK⟩ : ∃ K : Nat, l.kind = (K : Int) := ⟨l.kind.toNat, by omega⟩
    have eK := enc_le6 K (by omega)
    have hhd := tmHd_len hp
    have hb1 := lvBL_len (n := 4) (by decide) l.levels hp.lv
    have hb2 := tmBL_len l.args fun a ha => hpk.arg ha
    have eKs : encs [K] = enc K := by simp [encs]
    have fin : ∀ (ys : List UInt8) (c : Cap), ys ++ lvBL (l.levels.take l.levels.length) ++ tmBL l.args = xs ++ tmB l → c.b ∉ H0.keys → ∃ r H', Le (bufS (some c) (ys ++ lvBL (l.levels.take l.levels.length) ++ tmBL (l.args.take l.args.length))) r ∧ List.Sublist H' ((c.b, .cap c) :: H0) ∧ Q r H' := fun ys c he hc => by
      refine ⟨_, _, le_of_eq ?_, List.Sublist.refl _, hq c hc⟩
      show AV.sl _ _ _ = AV.sl _ _ _
      rw [List.take_length (l := l.args), he]
    refine ⟨[bufS q xs, .sl .full 1 ([K].map nI)], ⟨Le.refl _, le_of_eq (show AV.sl .full 1 [.i l.kind] = .sl .full 1 ([K].map nI) by rw [hK]; rfl), trivial⟩, ?_⟩
    refine pput_con [K] .full q xs H H0 _ (by simp; omega) (by simp) (by simp) hx hr (by omega) fun c hc => ?_
    intro hz1 hz2; clear hz1 hz2
    refine ifB_dec (fun k1 => ?_) (fun k1 => ?_)
    · have hnn := hp.num k1
      obtain ⟨M, hM⟩ : ∃ M : Nat, l.n = (M : Int) := ⟨l.n.toNat, by omega⟩
      have eM := enc_le6 M (by omega)
      have eMs : encs [M] = enc M := by simp [encs]
      refine ⟨[bufS (some c) (xs ++ encs [K]), .sl .full 1 ([M].map nI)], ⟨Le.refl _, le_of_eq (show AV.sl .full 1 [.i l.n] = .sl .full 1 ([M].map nI) by rw [hM]; rfl), trivial⟩, ?_⟩
      refine pput_con [M] .full (some c) (xs ++ encs [K]) _ H0 _ (by simp; omega) (by simp) (by simp) nofun Heap.Rem.here (by rw [eKs, List.length_append]; omega) fun c' hc' => ?_
      intro hz1 hz2; clear hz1 hz2
      have hys : (xs ++ encs [K] ++ encs [M]).length ≤ xs.length + 6 + 52 := by simp only [eKs, eMs, List.length_append]; omega
      refine ⟨Cap × Nat, fun p => ⟨[(0, .g (bufS (some p.1) (xs ++ encs [K] ++ encs [M] ++ lvBL (l.levels.take p.2)))), (3, .lp 3 0), (4, .g (.sl .full 0 [])), (38, .g (.sl .no 3 (l.levels.map lvA))), (39, .g (.i l.levels.length)), (40, .g (.i p.2))], [(3, (tmX l).cells)], (p.1.b, .cap p.1) :: H0⟩,
        fun p => p.1.b ∉ H0.keys ∧ p.2 ≤ l.levels.length, fun p => l.levels.length - p.2, ⟨(c', 0), ⟨hc', Nat.zero_le _⟩, ?_⟩, ?_⟩
      · refine ⟨⟨le_of_eq (by simp [bufS, lvBL]), ⟨rfl, rfl⟩, Le.refl _, Le.refl _, ?_, Le.refl _, trivial⟩, ⟨⟨rfl, LeL.refl _⟩, trivial⟩, List.Sublist.refl _⟩
        simp only [List.length_map]; exact Le.refl _
      · rintro ⟨c, k⟩ ⟨hc, hk⟩
        simp only at hc hk
        refine ifB_dec (fun h1 => ?_) (fun h1 => ?_)
        · simp only at h1
          have hlt : k < l.levels.length := by omega
          refine ⟨k, rfl, _, lvAt hlt, ?_⟩
          refine ⟨_, LeL.refl _, ?_⟩
          have hs := lvBL_snoc hlt
          have hp0 := lvBL_pre l.levels k
          have hp2 := Lv.nodesL_mem (List.getElem_mem hlt)
          have hp3 := nodesL_snoc hlt
          have hp4 := nodesL_le l.levels (k + 1)
          have hp5 := lvBL_len (n := 4) (by decide) (l.levels.take k) fun a ha => hp.lv a (List.mem_of_mem_take ha)
          refine putLevel_con 4 (by decide) _ l.levels[k] (some c) (xs ++ encs [K] ++ encs [M] ++ lvBL (l.levels.take k)) _ H0 _ (Nat.le_refl _) (hp.lv _ (List.getElem_mem hlt)) nofun Heap.Rem.here (by rw [List.length_append]; omega) fun c' hc' => ?_
          intro hz1 hz2; clear hz1 hz2
          refine ⟨by constructor <;> simp only <;> omega, ?_⟩
          refine ⟨(c', k + 1), ⟨hc', by simp only; omega⟩, by (try dsimp only); omega, ⟨⟨?_, ⟨rfl, rfl⟩, Le.refl _, Le.refl _, Le.refl _, Le.refl _, trivial⟩, ⟨⟨rfl, LeL.refl _⟩, trivial⟩, List.Sublist.refl _⟩⟩
          refine le_of_eq ?_
          show AV.sl _ _ _ = AV.sl _ _ _
          rw [hs]
          simp
        · simp only at h1
          have hk' : k = l.levels.length := by omega
          subst hk'
          refine ⟨Cap × Nat, fun p => ⟨[(0, .g (bufS (some p.1) (xs ++ encs [K] ++ encs [M] ++ lvBL (l.levels.take l.levels.length) ++ tmBL (l.args.take p.2)))), (4, .g (.sl .full 0 [])), (49, .g (.sl .no 5 (l.args.map tmA))), (50, .g (.i l.args.length)), (51, .g (.i p.2))], [], (p.1.b, .cap p.1) :: H0⟩,
            fun p => p.1.b ∉ H0.keys ∧ p.2 ≤ l.args.length, fun p => l.args.length - p.2, ⟨(c, 0), ⟨hc, Nat.zero_le _⟩, ?_⟩, ?_⟩
          · refine ⟨⟨le_of_eq (by simp [bufS, tmBL]), Le.refl _, Le.refl _, ?_, Le.refl _, trivial⟩, trivial, List.Sublist.refl _⟩
            simp only [List.length_map]; exact Le.refl _
          · rintro ⟨c, k⟩ ⟨hc, hk⟩
            simp only at hc hk
            refine ifB_dec (fun h1 => ?_) (fun h1 => ?_)
            · simp only at h1
              have hlt : k < l.args.length := by omega
              refine ⟨k, rfl, _, tmAt' hlt, ?_⟩
              refine ⟨_, LeL.refl _, ?_⟩
              have hs := tmBL_snoc hlt
              have hp2 := Tm.nodesL_mem (List.getElem_mem hlt)
              have hp3 := nodesTL_snoc hlt
              have hp4 := nodesTL_le l.args (k + 1)
              have hp5 := tmBL_len (l.args.take k) fun a ha => hpk.arg (List.mem_of_mem_take ha)
              refine ih l.args[k] (some c) (xs ++ encs [K] ++ encs [M] ++ lvBL (l.levels.take l.levels.length) ++ tmBL (l.args.take k)) _ H0 _ (by omega) (hpk.arg (List.getElem_mem hlt)) nofun Heap.Rem.here (by rw [List.take_length, List.length_append, List.length_append]; omega) fun c' hc' => ?_
              intro hz1 hz2; clear hz1 hz2
              refine ⟨by constructor <;> simp only <;> omega, ?_⟩
              refine ⟨(c', k + 1), ⟨hc', by simp only; omega⟩, by (try dsimp only); omega, ⟨⟨?_, Le.refl _, Le.refl _, Le.refl _, Le.refl _, trivial⟩, trivial, List.Sublist.refl _⟩⟩
              refine le_of_eq ?_
              show AV.sl _ _ _ = AV.sl _ _ _
              rw [hs]
              simp
            · simp only at h1
              have hk' : k = l.args.length := by omega
              subst hk'
              exact fin (xs ++ encs [K] ++ encs [M]) c (by rw [tmB_eq]; unfold tmHd; rw [if_pos k1, hK, hM, List.take_length]; simp [encs]) hc
    · refine ifB_dec (fun k2 => ?_) (fun k2 => ?_)
      · refine ⟨_, LeL.refl _, ?_⟩
        refine Texts_con l.name _ _ _ (by omega) fun c1 hc1 => ?_
        intro hz1 hz2; clear hz1 hz2
        have eS : (stB l.name).length = (enc l.name.length).length + l.name.length := by unfold stB; rw [List.length_append]
        have eL := enc_le6 l.name.length (by omega)
        have eV := enc_le6 l.levels.length (by omega)
        have eVs : encs [l.levels.length] = enc l.levels.length := by simp [encs]
        have hpos := enc_pos l.name.length
        refine ⟨?_, ifNil_or (fun h => ?_) (fun h => ⟨_, Heap.Rem.there Heap.Rem.here, fun c2 hc2 => ?_⟩)⟩
        · simp only [List.length_map, List.length_append, eKs]
          (first | refine Or.inl ?_ | skip)
          show _ * (1 + 1) ≤ _
          omega
        · have h3 : (stB l.name).length = 0 := by simpa using congrArg List.length h
          omega
        · have hc2' : c2.b ∉ c1.b :: H0.keys := hc2
          refine ⟨[bufS (some c2) (xs ++ encs [K] ++ stB l.name), .sl .full 1 ([l.levels.length].map nI)], ⟨le_of_eq (by show AV.sl _ _ _ = AV.sl _ _ _; simp), le_of_eq (by show AV.sl .full 1 [AV.i (l.levels.map lvA).length] = AV.sl .full 1 ([l.levels.length].map nI); simp [nI]), trivial⟩, ?_⟩
          refine pput_con [l.levels.length] .full (some c2) (xs ++ encs [K] ++ stB l.name) _ ((c1.b, .cap c1) :: H0) _ (by simp; omega) (by simp) (by simp) nofun Heap.Rem.here (by rw [eKs, List.length_append, List.length_append]; omega) fun c3 hc3 => ?_
          intro hz1 hz2; clear hz1 hz2
          have hc3' : c3.b ∉ c1.b :: H0.keys := hc3
          have hc4 : c3.b ∉ H0.keys := fun h => hc3' (List.mem_cons_of_mem _ h)
          have hys : (xs ++ encs [K] ++ stB l.name ++ encs [l.levels.length]).length ≤ xs.length + 6 + 52 := by simp only [eKs, eVs, List.length_append]; omega
          refine ⟨Cap × Nat, fun p => ⟨[(0, .g (bufS (some p.1) (xs ++ encs [K] ++ stB l.name ++ encs [l.levels.length] ++ lvBL (l.levels.take p.2)))), (3, .lp 3 0), (4, .g (.sl .full 0 [])), (38, .g (.sl .no 3 (l.levels.map lvA))), (39, .g (.i l.levels.length)), (40, .g (.i p.2))], [(3, (tmX l).cells)], (p.1.b, .cap p.1) :: H0⟩,
            fun p => p.1.b ∉ H0.keys ∧ p.2 ≤ l.levels.length, fun p => l.levels.length - p.2, ⟨(c3, 0), ⟨hc4, Nat.zero_le _⟩, ?_⟩, ?_⟩
          · refine ⟨⟨le_of_eq (by simp [bufS, lvBL]), ⟨rfl, rfl⟩, Le.refl _, Le.refl _, ?_, Le.refl _, trivial⟩, ⟨⟨rfl, LeL.refl _⟩, trivial⟩, List.Sublist.cons_cons _ (List.sublist_cons_self _ _)⟩
            simp only [List.length_map]; exact Le.refl _
          · rintro ⟨c, k⟩ ⟨hc, hk⟩
            simp only at hc hk
            refine ifB_dec (fun h1 => ?_) (fun h1 => ?_)
            · simp only at h1
              have hlt : k < l.levels.length := by omega
              refine ⟨k, rfl, _, lvAt hlt, ?_⟩
              refine ⟨_, LeL.refl _, ?_⟩
              have hs := lvBL_snoc hlt
              have hp0 := lvBL_pre l.levels k
              have hp2 := Lv.nodesL_mem (List.getElem_mem hlt)
              have hp3 := nodesL_snoc hlt
              have hp4 := nodesL_le l.levels (k + 1)
              have hp5 := lvBL_len (n := 4) (by decide) (l.levels.take k) fun a ha => hp.lv a (List.mem_of_mem_take ha)
              refine putLevel_con 4 (by decide) _ l.levels[k] (some c) (xs ++ encs [K] ++ stB l.name ++ encs [l.levels.length] ++ lvBL (l.levels.take k)) _ H0 _ (Nat.le_refl _) (hp.lv _ (List.getElem_mem hlt)) nofun Heap.Rem.here (by rw [List.length_append]; omega) fun c' hc' => ?_
              intro hz1 hz2; clear hz1 hz2
              refine ⟨by constructor <;> simp only <;> omega, ?_⟩
              refine ⟨(c', k + 1), ⟨hc', by simp only; omega⟩, by (try dsimp only); omega, ⟨⟨?_, ⟨rfl, rfl⟩, Le.refl _, Le.refl _, Le.refl _, Le.refl _, trivial⟩, ⟨⟨rfl, LeL.refl _⟩, trivial⟩, List.Sublist.refl _⟩⟩
              refine le_of_eq ?_
              show AV.sl _ _ _ = AV.sl _ _ _
              rw [hs]
              simp
            · simp only at h1
              have hk' : k = l.levels.length := by omega
              subst hk'
              refine ⟨Cap × Nat, fun p => ⟨[(0, .g (bufS (some p.1) (xs ++ encs [K] ++ stB l.name ++ encs [l.levels.length] ++ lvBL (l.levels.take l.levels.length) ++ tmBL (l.args.take p.2)))), (4, .g (.sl .full 0 [])), (49, .g (.sl .no 5 (l.args.map tmA))), (50, .g (.i l.args.length)), (51, .g (.i p.2))], [], (p.1.b, .cap p.1) :: H0⟩,
                fun p => p.1.b ∉ H0.keys ∧ p.2 ≤ l.args.length, fun p => l.args.length - p.2, ⟨(c, 0), ⟨hc, Nat.zero_le _⟩, ?_⟩, ?_⟩
              · refine ⟨⟨le_of_eq (by simp [bufS, tmBL]), Le.refl _, Le.refl _, ?_, Le.refl _, trivial⟩, trivial, List.Sublist.refl _⟩
                simp only [List.length_map]; exact Le.refl _
              · rintro ⟨c, k⟩ ⟨hc, hk⟩
                simp only at hc hk
                refine ifB_dec (fun h1 => ?_) (fun h1 => ?_)
                · simp only at h1
                  have hlt : k < l.args.length := by omega
                  refine ⟨k, rfl, _, tmAt' hlt, ?_⟩
                  refine ⟨_, LeL.refl _, ?_⟩
                  have hs := tmBL_snoc hlt
                  have hp2 := Tm.nodesL_mem (List.getElem_mem hlt)
                  have hp3 := nodesTL_snoc hlt
                  have hp4 := nodesTL_le l.args (k + 1)
                  have hp5 := tmBL_len (l.args.take k) fun a ha => hpk.arg (List.mem_of_mem_take ha)
                  refine ih l.args[k] (some c) (xs ++ encs [K] ++ stB l.name ++ encs [l.levels.length] ++ lvBL (l.levels.take l.levels.length) ++ tmBL (l.args.take k)) _ H0 _ (by omega) (hpk.arg (List.getElem_mem hlt)) nofun Heap.Rem.here (by rw [List.take_length, List.length_append, List.length_append]; omega) fun c' hc' => ?_
                  intro hz1 hz2; clear hz1 hz2
                  refine ⟨by constructor <;> simp only <;> omega, ?_⟩
                  refine ⟨(c', k + 1), ⟨hc', by simp only; omega⟩, by (try dsimp only); omega, ⟨⟨?_, Le.refl _, Le.refl _, Le.refl _, Le.refl _, trivial⟩, trivial, List.Sublist.refl _⟩⟩
                  refine le_of_eq ?_
                  show AV.sl _ _ _ = AV.sl _ _ _
                  rw [hs]
                  simp
                · simp only at h1
                  have hk' : k = l.args.length := by omega
                  subst hk'
                  exact fin (xs ++ encs [K] ++ stB l.name ++ encs [l.levels.length]) c (by rw [tmB_eq]; unfold tmHd; rw [if_neg k1, if_pos k2, hK, List.take_length]; simp [encs]) hc
      · have hys : (xs ++ encs [K]).length ≤ xs.length + 6 + 52 := by simp only [eKs, List.length_append]; omega
        refine ⟨Cap × Nat, fun p => ⟨[(0, .g (bufS (some p.1) (xs ++ encs [K] ++ lvBL (l.levels.take p.2)))), (3, .lp 3 0), (4, .g (.sl .full 0 [])), (38, .g (.sl .no 3 (l.levels.map lvA))), (39, .g (.i l.levels.length)), (40, .g (.i p.2))], [(3, (tmX l).cells)], (p.1.b, .cap p.1) :: H0⟩,
          fun p => p.1.b ∉ H0.keys ∧ p.2 ≤ l.levels.length, fun p => l.levels.length - p.2, ⟨(c, 0), ⟨hc, Nat.zero_le _⟩, ?_⟩, ?_⟩
        · refine ⟨⟨le_of_eq (by simp [bufS, lvBL]), ⟨rfl, rfl⟩, Le.refl _, Le.refl _, ?_, Le.refl _, trivial⟩, ⟨⟨rfl, LeL.refl _⟩, trivial⟩, List.Sublist.refl _⟩
          simp only [List.length_map]; exact Le.refl _
        · rintro ⟨c, k⟩ ⟨hc, hk⟩
          simp only at hc hk
          refine ifB_dec (fun h1 => ?_) (fun h1 => ?_)
          · simp only at h1
            have hlt : k < l.levels.length := by omega
            refine ⟨k, rfl, _, lvAt hlt, ?_⟩
            refine ⟨_, LeL.refl _, ?_⟩
            have hs := lvBL_snoc hlt
            have hp0 := lvBL_pre l.levels k
            have hp2 := Lv.nodesL_mem (List.getElem_mem hlt)
            have hp3 := nodesL_snoc hlt
            have hp4 := nodesL_le l.levels (k + 1)
            have hp5 := lvBL_len (n := 4) (by decide) (l.levels.take k) fun a ha => hp.lv a (List.mem_of_mem_take ha)
            refine putLevel_con 4 (by decide) _ l.levels[k] (some c) (xs ++ encs [K] ++ lvBL (l.levels.take k)) _ H0 _ (Nat.le_refl _) (hp.lv _ (List.getElem_mem hlt)) nofun Heap.Rem.here (by rw [List.length_append]; omega) fun c' hc' => ?_
            intro hz1 hz2; clear hz1 hz2
            refine ⟨by constructor <;> simp only <;> omega, ?_⟩
            refine ⟨(c', k + 1), ⟨hc', by simp only; omega⟩, by (try dsimp only); omega, ⟨⟨?_, ⟨rfl, rfl⟩, Le.refl _, Le.refl _, Le.refl _, Le.refl _, trivial⟩, ⟨⟨rfl, LeL.refl _⟩, trivial⟩, List.Sublist.refl _⟩⟩
            refine le_of_eq ?_
            show AV.sl _ _ _ = AV.sl _ _ _
            rw [hs]
            simp
          · simp only at h1
            have hk' : k = l.levels.length := by omega
            subst hk'
            refine ⟨Cap × Nat, fun p => ⟨[(0, .g (bufS (some p.1) (xs ++ encs [K] ++ lvBL (l.levels.take l.levels.length) ++ tmBL (l.args.take p.2)))), (4, .g (.sl .full 0 [])), (49, .g (.sl .no 5 (l.args.map tmA))), (50, .g (.i l.args.length)), (51, .g (.i p.2))], [], (p.1.b, .cap p.1) :: H0⟩,
              fun p => p.1.b ∉ H0.keys ∧ p.2 ≤ l.args.length, fun p => l.args.length - p.2, ⟨(c, 0), ⟨hc, Nat.zero_le _⟩, ?_⟩, ?_⟩
            · refine ⟨⟨le_of_eq (by simp [bufS, tmBL]), Le.refl _, Le.refl _, ?_, Le.refl _, trivial⟩, trivial, List.Sublist.refl _⟩
              simp only [List.length_map]; exact Le.refl _
            · rintro ⟨c, k⟩ ⟨hc, hk⟩
              simp only at hc hk
              refine ifB_dec (fun h1 => ?_) (fun h1 => ?_)
              · simp only at h1
                have hlt : k < l.args.length := by omega
                refine ⟨k, rfl, _, tmAt' hlt, ?_⟩
                refine ⟨_, LeL.refl _, ?_⟩
                have hs := tmBL_snoc hlt
                have hp2 := Tm.nodesL_mem (List.getElem_mem hlt)
                have hp3 := nodesTL_snoc hlt
                have hp4 := nodesTL_le l.args (k + 1)
                have hp5 := tmBL_len (l.args.take k) fun a ha => hpk.arg (List.mem_of_mem_take ha)
                refine ih l.args[k] (some c) (xs ++ encs [K] ++ lvBL (l.levels.take l.levels.length) ++ tmBL (l.args.take k)) _ H0 _ (by omega) (hpk.arg (List.getElem_mem hlt)) nofun Heap.Rem.here (by rw [List.take_length, List.length_append, List.length_append]; omega) fun c' hc' => ?_
                intro hz1 hz2; clear hz1 hz2
                refine ⟨by constructor <;> simp only <;> omega, ?_⟩
                refine ⟨(c', k + 1), ⟨hc', by simp only; omega⟩, by (try dsimp only); omega, ⟨⟨?_, Le.refl _, Le.refl _, Le.refl _, Le.refl _, trivial⟩, trivial, List.Sublist.refl _⟩⟩
                refine le_of_eq ?_
                show AV.sl _ _ _ = AV.sl _ _ _
                rw [hs]
                simp
              · simp only at h1
                have hk' : k = l.args.length := by omega
                subst hk'
                exact fin (xs ++ encs [K]) c (by rw [tmB_eq]; unfold tmHd; rw [if_neg k1, if_neg k2, hK, List.take_length]; simp [encs]) hc

theorem tmNear_arg {l a : Tm} (h : tmNear l = true) (ha : a ∈ l.args) : tmNear a = true := by
  rw [tmNear_eq, Bool.and_eq_true] at h
  have := h.2
  simp only [Bool.not_eq_true', List.any_eq_false] at this
  simpa using this a ha
theorem tmNode_pok {v k m : Int} {nm : List UInt8} {ls xs : Nat} (h : tmNode v k m nm ls xs = true) : 1 ≤ k ∧ k ≤ 7 ∧ (k = 1 → 0 ≤ m) ∧ nm.length ≤ 40 ∧ ls ≤ 4 := by
  rw [shape_node] at h
  simp only [Bool.and_eq_true, decide_eq_true_eq] at h
  obtain ⟨hk, _, hnd⟩ := h
  refine ⟨hk.1, hk.2, ?_⟩
  unfold tmNd at hnd
  by_cases k1 : k = 1
  · simp [k1] at hnd
    obtain ⟨⟨⟨h1, _⟩, h2⟩, h3⟩ := hnd
    exact ⟨fun _ => h1, by simp [h2], by simp [h3]⟩
  · by_cases k3 : k = 3
    · simp [k3] at hnd
      obtain ⟨⟨_, h2⟩, h3⟩ := hnd
      unfold nameOk at h2
      simp only [Bool.and_eq_true, decide_eq_true_eq] at h2
      exact ⟨fun h => absurd h k1, h2.1.2, h3⟩
    · simp [k1, k3] at hnd
      obtain ⟨⟨_, h2⟩, h3⟩ := hnd
      refine ⟨fun h => absurd h k1, by simp [h2], ?_⟩
      have hk' : k = 1 ∨ k = 2 ∨ k = 3 ∨ k = 4 ∨ k = 5 ∨ k = 6 ∨ k = 7 := by omega
      have : (shapeOf k).2.1 ≤ 1 := by rcases hk' with rfl | rfl | rfl | rfl | rfl | rfl | rfl <;> simp [shapeOf]
      omega
theorem lvRight_fit {n : Int} {l : Lv} (h : lvRight n l = true) : lvFit n l = true := by
  simp only [lvRight, Bool.and_eq_true] at h; exact h.2
mutual
theorem pok_of : ∀ (t : Tm) (n v : Int), n ≤ 4 → tmFit n t v = true → tmNear t = true → PokAll t
  | .mk k m nm ls xs, n, v, hn, h, hr => by
    have h0 := h
    rw [tmFit_eq] at h0
    simp only [Bool.and_eq_true, Tm.kind, Tm.n, Tm.name, Tm.levels, Tm.args] at h0
    obtain ⟨⟨h1, h2⟩, h3⟩ := h0
    have h4 := tmNode_pok h1
    refine ⟨⟨⟨h4.1, h4.2.1⟩, fun hk => ⟨h4.2.2.1 hk, ?_⟩, h4.2.2.2.1, fun x hx => ?_, h4.2.2.2.2⟩, ?_⟩
    · rw [tmNear_eq, Bool.and_eq_true] at hr
      simp only [Tm.kind] at hk
      have h9 := hr.1
      simp only [Tm.kind, Tm.n] at h9
      simp [hk] at h9
      have h8 : m < 1099511627776 := of_decide_eq_true h9
      exact Int.le_of_lt h8
    · have := lvRight_fit (List.all_eq_true.1 h2 x hx)
      exact lvFit_mono hn x this
    · exact pok_ofL xs n k 0 v hn h3 fun a ha => tmNear_arg hr ha
theorem pok_ofL : ∀ (ts : List Tm) (n k : Int) (i : Nat) (v : Int), n ≤ 4 → tmFitL n k ts i v = true → (∀ a ∈ ts, tmNear a = true) → PokAllL ts
  | [], _, _, _, _, _, _, _ => trivial
  | t :: ts, n, k, i, v, hn, h, hr => by
    simp only [tmFitL, Bool.and_eq_true] at h
    exact ⟨pok_of t n _ hn h.1 (hr t (by simp)), pok_ofL ts n k (i + 1) v hn h.2 fun a ha => hr a (List.mem_cons_of_mem _ ha)⟩
theorem lvFit_mono {n : Int} (hn : n ≤ 4) : ∀ l : Lv, lvFit n l = true → lvFit 4 l = true
  | .mk k m xs, h => by
    rw [lvFit_parts, Bool.and_eq_true] at h ⊢
    simp only [Lv.kind, Lv.n, Lv.args] at h ⊢
    refine ⟨?_, List.all_eq_true.2 fun a ha => lvFit_mono hn a (List.all_eq_true.1 h.2 a ha)⟩
    have h1 := h.1
    unfold lvNode at h1 ⊢
    by_cases k2 : k = 2
    · simp [k2] at h1 ⊢
      exact ⟨⟨h1.1.1, by omega⟩, h1.2⟩
    · simpa [k2] using h1
end
theorem packOk_pok {t : Tm} (h : packOk t = true) : PokAll t ∧ t.nodes ≤ 2000 := by
  unfold packOk tmRight at h
  simp only [Bool.and_eq_true, decide_eq_true_eq] at h
  exact ⟨pok_of t 4 _ (by decide) h.1.2 h.2, h.1.1.2⟩

set_option maxRecDepth 100000 in
theorem packTerm_con (l : Tm) (H : Heap) (Q : AV → Heap → Prop) (hno : packOk l = false → Q (.tup [.sl .full 0 [], .b false]) H) (hyes : packOk l = true → ∀ c : Cap, c.b ∉ H.keys → Q (.tup [.sl (.own c) 1 ((tmB l).map byteV), .b true]) ((c.b, .cap c) :: H)) :
    Con Tryz.prog 59 [tmX l] H Q := by
  refine con_of_awp (esc := fun _ => false) tab_ok mixed Tryz.func59 rfl (ent Tryz.func59 (by kernel_rfl) rfl) (by kernel_rfl) ?_
  intro hw hn
  refine ⟨_, LeL.refl _, packRight_con _ _ _ ?_⟩
  intro hz1 hz2; clear hz1 hz2
  cases hg : packOk l with
  | false => exact ⟨_, _, Le.refl _, List.Sublist.refl _, hno hg⟩
  | true =>
    have h2 := packOk_pok hg
    refine ⟨_, LeL.refl _, ?_⟩
    refine putTerm_con _ l none [] H H _ (Nat.le_refl _) h2.1 (fun _ => rfl) rfl (by simp; omega) fun c hc => ?_
    intro hz1 hz2; clear hz1 hz2
    exact ⟨_, _, Le.refl _, List.Sublist.refl _, hyes hg c hc⟩
end Go.Proofs.YtahdkhklngjmoaaGreatDoor

/-
  Declarations; pack's valued, Formed. No condition.
-/
namespace Go.Proofs.YtahdkhklngjmoaaGreatDoor
open Go.RowKit

end Go.Proofs.YtahdkhklngjmoaaGreatDoor

