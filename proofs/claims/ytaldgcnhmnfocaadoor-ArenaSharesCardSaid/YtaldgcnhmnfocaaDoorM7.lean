/-
  Texts put together: E7, E8, E9, E10, E11, E12, E13. No condition.
-/
import Derived.Test.YtaldgcnhmnfocaaDoorM5
import Derived.Test.YtaldgcnhmnfocaaDoorM4
import Derived.Test.YtaldgcnhmnfocaaDoorM6
/-
  The program's terms: names, shapes, Nodes, node, all, Right. No condition.
-/
namespace Go.Proofs.YtaldgcnhmnfocaaDoor
open Go.RowKit

set_option maxRecDepth 100000 in
theorem nameRight_con (l : List UInt8) : Ans Tryd.prog 51 [.str l] (.b (nameOk l)) := by
  intro H Q hq M w vs _ hI hr
  simp only [repT] at hr
  obtain ⟨c, cs, rfl, h1, rfl⟩ := hr
  simp only [rep] at h1
  obtain ⟨rfl, hl⟩ := h1
  rw [ent Tryd.func51 (by kernel_rfl) rfl]
  refine Calls.mono (nameRight w l hl) ?_
  rintro e w' ⟨rfl, hB⟩
  refine ⟨_, rfl, M, .b (nameOk l), H, ⟨hB.os, hB.tape, hB.output, hB.size, fun k hk _ => hB.block k hk, Mem.le.refl _, fun _ _ _ h => Or.inl h⟩, ?_, fun b hb => Or.inl hb, ?_, hq⟩
  · refine hI.evo0 ⟨hB.os, hB.tape, hB.output, hB.size, fun k hk _ => hB.block k hk, Mem.le.refl _, fun _ _ _ h => Or.inl h⟩ fun b o v hv => ?_
    have := hI.mem b o v hv
    rw [hB.cell (World.block_lt_of_cell? w _ this)]
    exact this
  · show rep M (.v (.bool _)) _
    simp only [rep]
    exact ⟨trivial, rfl⟩

/-- a shape -/
def shX (s : Int × Int × Int) : AV := .agg [.i s.1, .i s.2.1, .i s.2.2]
def shapesL : List (Int × Int × Int) := [(0, 0, 0), (0, 0, -1), (0, 1, -1), (0, 0, -1), (2, 0, -1), (2, 0, 1), (2, 0, 1), (3, 0, 2)]
set_option maxRecDepth 100000 in
theorem shapes_con : Ans Tryd.prog 50 [] (.sl .no 3 (shapesL.map shX)) := by
  intro H Q hq
  refine con_of_awp (esc := fun _ => false) tab_ok mixed Tryd.func50 rfl (ent Tryd.func50 (by kernel_rfl) rfl) (by kernel_rfl) ?_
  intro hw hn
  refine ⟨_, H, ?_, List.Sublist.refl _, hq⟩
  exact Le.own _ _ _

set_option maxRecDepth 100000 in
theorem inner_con (s : Int × Int × Int) (i vars : Int) (hv : in64 (vars + 1)) : Ans Tryd.prog 42 [shX s, .i i, .i vars] (.i (if i = s.2.2 then vars + 1 else vars)) := by
  intro H Q hq
  refine con_of_awp (esc := fun _ => false) tab_ok mixed Tryd.func42 rfl (ent Tryd.func42 (by kernel_rfl) rfl) (by kernel_rfl) ?_
  intro hw hn
  have fin : ∀ q : Int, q = (if i = s.2.2 then vars + 1 else vars) → ∃ r H', Le (.i q) r ∧ List.Sublist H' H ∧ Q r H' := fun q h => ⟨_, H, ret_i h, List.Sublist.refl _, hq⟩
  refine ifB_dec (fun h1 => ?_) (fun h1 => ?_)
  · refine ⟨hv, ?_⟩
    exact fin _ (by simp [h1])
  · exact fin _ (by simp [h1])

set_option maxRecDepth 100000 in
theorem shaped_con (k : Int) : Ans Tryd.prog 39 [.i k] (.tup [shX (shapeOf k), .b (decide (1 ≤ k) && decide (k ≤ 7))]) := by
  intro H Q hq
  refine con_of_awp (esc := fun _ => false) tab_ok mixed Tryd.func39 rfl (ent Tryd.func39 (by kernel_rfl) rfl) (by kernel_rfl) ?_
  intro hw hn
  refine ifB_dec (fun h1 => ?_) (fun h1 => ?_)
  · refine ⟨_, H, ?_, List.Sublist.refl _, hq⟩
    have e : shapeOf k = (0, 0, 0) := by unfold shapeOf; rw [if_neg (by omega), if_neg (by omega), if_neg (by omega), if_neg (by omega), if_neg (by omega), if_neg (by omega)]
    rw [e, show (decide (1 ≤ k) && decide (k ≤ 7)) = false by simp; omega]
    exact Le.refl _
  · refine ifB_dec (fun h2 => ?_) (fun h2 => ?_)
    · refine ⟨_, H, ?_, List.Sublist.refl _, hq⟩
      have e : shapeOf k = (0, 0, 0) := by unfold shapeOf; rw [if_neg (by omega), if_neg (by omega), if_neg (by omega), if_neg (by omega), if_neg (by omega), if_neg (by omega)]
      rw [e, show (decide (1 ≤ k) && decide (k ≤ 7)) = false by simp; omega]
      exact Le.refl _
    · have hk : k = 1 ∨ k = 2 ∨ k = 3 ∨ k = 4 ∨ k = 5 ∨ k = 6 ∨ k = 7 := by omega
      refine ⟨_, LeL.refl _, shapes_con _ _ ?_⟩
      intro hz1 hz2; clear hz1 hz2
      rcases hk with rfl | rfl | rfl | rfl | rfl | rfl | rfl
      · exact ⟨1, rfl, _, rfl, ⟨_, H, Le.refl _, List.Sublist.refl _, hq⟩⟩
      · exact ⟨2, rfl, _, rfl, ⟨_, H, Le.refl _, List.Sublist.refl _, hq⟩⟩
      · exact ⟨3, rfl, _, rfl, ⟨_, H, Le.refl _, List.Sublist.refl _, hq⟩⟩
      · exact ⟨4, rfl, _, rfl, ⟨_, H, Le.refl _, List.Sublist.refl _, hq⟩⟩
      · exact ⟨5, rfl, _, rfl, ⟨_, H, Le.refl _, List.Sublist.refl _, hq⟩⟩
      · exact ⟨6, rfl, _, rfl, ⟨_, H, Le.refl _, List.Sublist.refl _, hq⟩⟩
      · exact ⟨7, rfl, _, rfl, ⟨_, H, Le.refl _, List.Sublist.refl _, hq⟩⟩

set_option maxRecDepth 100000 in
theorem under_con : ∀ (N : Nat) (l : Lv) (n : Int) (b : Nat) (H H' : Heap) (Q : AV → Heap → Prop), l.nodes ≤ N → 0 ≤ n → n ≤ 1000000 → (b, .cells [.i n]) ∈ H → H.upd b (.cells [.i (left n l.nodes)]) = H' → Q (.tup []) H' → Con Tryd.prog 49 [lvX l, .ptr b 0] H Q := by
  intro N
  induction N with
  | zero => intro l n b H H' Q h; have := l.nodes_pos; omega
  | succ N ih =>
    intro l n b H H' Q hN h0 hm hin hH hq
    subst hH
    refine con_of_awp (esc := fun _ => false) tab_ok mixed Tryd.func49 rfl (ent Tryd.func49 (by kernel_rfl) rfl) (by kernel_rfl) ?_
    intro hw hn
    have hlen := (hw (lvX l) (by simp)).args
    have hnd := l.nodes_eq
    refine ⟨_, hin, in64_of (by omega) (by omega), _, _, Heap.at_upd _ hin hn, Nat.le_refl _, ?_⟩
    refine ⟨Nat × Int, fun p => ⟨[(1, .g (.ptr b 0)), (12, .g (.sl .no 3 (l.args.map lvA))), (13, .g (.i l.args.length)), (14, .g (.i p.1))], [], H.upd b (.cells [.i p.2])⟩,
      fun p => p.1 ≤ l.args.length ∧ p.2 = left (n - 1) (Lv.nodesL (l.args.take p.1)), fun p => l.args.length - p.1, ⟨(0, n - 1), ⟨Nat.zero_le _, by simp [left, Lv.nodesL]; omega⟩, ?_⟩, ?_⟩
    · (constructor <;> repeat' (first | exact trivial | exact ⟨rfl, rfl⟩ | exact ⟨rfl, LeL.refl _⟩ | exact Le.refl _ | exact List.Sublist.refl _ | (show Le (AV.i _) (AV.i _); rw [List.length_map]; exact Le.refl _) | refine And.intro ?_ ?_))
    · rintro ⟨k, m⟩ ⟨hk, hm2⟩
      simp only at hk hm2
      have hin2 : (b, AObj.cells [.i m]) ∈ H.upd b (.cells [.i m]) := Heap.mem_upd hin
      have hle := nodesL_le l.args (k + 1)
      have hle2 := nodesL_le l.args k
      refine ifB_dec (fun h1 => ?_) (fun h1 => ?_)
      · have hlt : k < l.args.length := by omega
        have hs := nodesL_snoc hlt
        refine ⟨k, rfl, _, lvAt hlt, ?_⟩
        refine ⟨_, hin2, ?_⟩
        refine ifB_dec (fun h2 => ?_) (fun h2 => ?_)
        · refine ⟨_, _, Le.refl _, List.Sublist.refl _, ?_⟩
          have : left n l.nodes = m := by unfold left at *; omega
          rw [← this]; exact hq
        · refine ⟨_, LeL.refl _, ?_⟩
          have hmem := Lv.nodesL_mem (List.getElem_mem hlt)
          refine ih _ m b _ _ _ (by omega) (by omega) (by unfold left at hm2; omega) hin2 rfl ?_
          intro hz1 hz2; clear hz1 hz2
          refine ⟨in64_of (by first | omega | (dsimp only; omega)) (by first | omega | (dsimp only; omega)), ?_⟩
          refine ⟨(k + 1, left m l.args[k].nodes), ⟨by simp only; omega, by unfold left at *; simp only; omega⟩, by dsimp only; omega, ⟨?_, ?_, sub_eq (Heap.upd_upd H b _ _).symm⟩⟩
          · exact ⟨Le.refl _, Le.refl _, Le.refl _, Le.refl _, trivial⟩
          · exact trivial
      · refine ⟨_, _, Le.refl _, List.Sublist.refl _, ?_⟩
        have hk' : k = l.args.length := by omega
        have : left n l.nodes = m := by
          rw [hm2, hk', List.take_length]
          unfold left
          omega
        rw [← this]; exact hq

theorem nodesTL_le : ∀ (ls : List Tm) (k : Nat), Tm.nodesL (ls.take k) ≤ Tm.nodesL ls := by
  intro ls
  induction ls with
  | nil => intro k; simp [Tm.nodesL]
  | cons a ls ih => intro k; cases k with
    | zero => simp [Tm.nodesL]
    | succ k => simp [Tm.nodesL, ih k]

set_option maxRecDepth 100000 in
theorem tmCount_con : ∀ (N : Nat) (l : Tm) (n : Int) (b : Nat) (H H' : Heap) (Q : AV → Heap → Prop), l.nodes ≤ N → 0 ≤ n → n ≤ 1000000 → (b, .cells [.i n]) ∈ H → H.upd b (.cells [.i (left n l.nodes)]) = H' → Q (.tup []) H' → Con Tryd.prog 38 [tmX l, .ptr b 0] H Q := by
  intro N
  induction N with
  | zero => intro l n b H H' Q h; have := l.nodes_pos; omega
  | succ N ih =>
    intro l n b H H' Q hN h0 hm hin hH hq
    subst hH
    refine con_of_awp (esc := fun _ => false) tab_ok mixed Tryd.func38 rfl (ent Tryd.func38 (by kernel_rfl) rfl) (by kernel_rfl) ?_
    intro hw hn
    have hlen := (hw (tmX l) (by simp)).targs
    have hlenl := (hw (tmX l) (by simp)).tlevels
    have hnd := l.nodes_eq
    refine ⟨_, hin, in64_of (by omega) (by omega), _, _, Heap.at_upd _ hin hn, Nat.le_refl _, ?_⟩
    refine ⟨Nat × Int, fun p => ⟨[(1, .g (.ptr b 0)), (2, .lp 2 0), (14, .g (.sl .no 3 (l.levels.map lvA))), (15, .g (.i l.levels.length)), (16, .g (.i p.1))], [(2, (tmX l).cells)], H.upd b (.cells [.i p.2])⟩,
      fun p => p.1 ≤ l.levels.length ∧ p.2 = left (n - 1) (Lv.nodesL (l.levels.take p.1)), fun p => l.levels.length - p.1, ⟨(0, n - 1), ⟨Nat.zero_le _, by simp [left, Lv.nodesL]; omega⟩, ?_⟩, ?_⟩
    · (constructor <;> repeat' (first | exact trivial | exact ⟨rfl, rfl⟩ | exact ⟨rfl, LeL.refl _⟩ | exact Le.refl _ | exact List.Sublist.refl _ | (show Le (AV.i _) (AV.i _); rw [List.length_map]; exact Le.refl _) | refine And.intro ?_ ?_))
    · rintro ⟨k, m⟩ ⟨hk, hm2⟩
      simp only at hk hm2
      have hin2 : (b, AObj.cells [.i m]) ∈ H.upd b (.cells [.i m]) := Heap.mem_upd hin
      have hle := nodesL_le l.levels (k + 1)
      have hle2 := nodesL_le l.levels k
      refine ifB_dec (fun h1 => ?_) (fun h1 => ?_)
      · have hlt : k < l.levels.length := by omega
        have hs := nodesL_snoc hlt
        refine ⟨k, rfl, _, lvAt hlt, ?_⟩
        refine ⟨_, hin2, ?_⟩
        refine ifB_dec (fun h2 => ?_) (fun h2 => ?_)
        · refine ⟨_, _, Le.refl _, List.Sublist.refl _, ?_⟩
          have : left n l.nodes = m := by unfold left at *; omega
          rw [← this]; exact hq
        · refine ⟨_, LeL.refl _, ?_⟩
          have hmem := Lv.nodesL_mem (List.getElem_mem hlt)
          refine under_con _ _ m b _ _ _ (Nat.le_refl _) (by omega) (by unfold left at hm2; omega) hin2 rfl ?_
          intro hz1 hz2; clear hz1 hz2
          refine ⟨in64_of (by first | omega | (dsimp only; omega)) (by first | omega | (dsimp only; omega)), ?_⟩
          refine ⟨(k + 1, left m l.levels[k].nodes), ⟨by simp only; omega, by unfold left at *; simp only; omega⟩, by dsimp only; omega, ⟨?_, ?_, sub_eq (Heap.upd_upd H b _ _).symm⟩⟩
          · exact ⟨Le.refl _, ⟨rfl, rfl⟩, Le.refl _, Le.refl _, Le.refl _, trivial⟩
          · exact ⟨⟨rfl, LeL.refl _⟩, trivial⟩
      · have hk' : k = l.levels.length := by omega
        rw [hk', List.take_length] at hm2
        refine ⟨Nat × Int, fun p => ⟨[(1, .g (.ptr b 0)), (29, .g (.sl .no 5 (l.args.map tmA))), (30, .g (.i l.args.length)), (31, .g (.i p.1))], [], H.upd b (.cells [.i p.2])⟩,
          fun p => p.1 ≤ l.args.length ∧ p.2 = left (n - 1) (Lv.nodesL l.levels + Tm.nodesL (l.args.take p.1)), fun p => l.args.length - p.1, ⟨(0, m), ⟨Nat.zero_le _, by simpa [Tm.nodesL] using hm2⟩, ?_⟩, ?_⟩
        · (constructor <;> repeat' (first | exact trivial | exact ⟨rfl, rfl⟩ | exact ⟨rfl, LeL.refl _⟩ | exact Le.refl _ | exact List.Sublist.refl _ | (show Le (AV.i _) (AV.i _); rw [List.length_map]; exact Le.refl _) | refine And.intro ?_ ?_))
        · rintro ⟨j, m⟩ ⟨hj, hm2⟩
          simp only at hj hm2
          have hin2 : (b, AObj.cells [.i m]) ∈ H.upd b (.cells [.i m]) := Heap.mem_upd hin
          have hle := nodesTL_le l.args (j + 1)
          have hle2 := nodesTL_le l.args j
          refine ifB_dec (fun h1 => ?_) (fun h1 => ?_)
          · have hlt : j < l.args.length := by omega
            have hs := nodesTL_snoc hlt
            refine ⟨j, rfl, _, tmAt' hlt, ?_⟩
            refine ⟨_, hin2, ?_⟩
            refine ifB_dec (fun h2 => ?_) (fun h2 => ?_)
            · refine ⟨_, _, Le.refl _, List.Sublist.refl _, ?_⟩
              have : left n l.nodes = m := by unfold left at *; omega
              rw [← this]; exact hq
            · refine ⟨_, LeL.refl _, ?_⟩
              have hmem := Tm.nodesL_mem (List.getElem_mem hlt)
              refine ih _ m b _ _ _ (by omega) (by omega) (by unfold left at hm2; omega) hin2 rfl ?_
              intro hz1 hz2; clear hz1 hz2
              refine ⟨in64_of (by first | omega | (dsimp only; omega)) (by first | omega | (dsimp only; omega)), ?_⟩
              refine ⟨(j + 1, left m l.args[j].nodes), ⟨by simp only; omega, by unfold left at *; simp only; omega⟩, by dsimp only; omega, ⟨?_, ?_, sub_eq (Heap.upd_upd H b _ _).symm⟩⟩
              · exact ⟨Le.refl _, Le.refl _, Le.refl _, Le.refl _, trivial⟩
              · exact trivial
          · refine ⟨_, _, Le.refl _, List.Sublist.refl _, ?_⟩
            have hj' : j = l.args.length := by omega
            have : left n l.nodes = m := by
              rw [hm2, hj', List.take_length]
              unfold left
              omega
            rw [← this]; exact hq

set_option maxRecDepth 100000 in
theorem tmNodes_con (l : Tm) : Ans Tryd.prog 30 [tmX l] (.i (min l.nodes 2001 : Nat)) := by
  intro H Q hq
  refine con_of_awp (esc := ([3].contains ·)) tab_ok mixed Tryd.func30 rfl (ent Tryd.func30 (by kernel_rfl) rfl) (by kernel_rfl) ?_
  intro hw hn b hb
  refine ⟨_, _, .here, Nat.le_refl _, ?_⟩
  refine ⟨_, LeL.refl _, ?_⟩
  have hb' : b ∉ H.keys := hb
  have e : Heap.upd ((b, AObj.cells [.i 2000]) :: H) b (AObj.cells [.i (left 2000 l.nodes)]) = (b, .cells [.i (left 2000 l.nodes)]) :: H := by
    show (if b = b then _ else _) :: Heap.upd H b _ = _
    rw [if_pos rfl, Heap.upd_none hb']
  refine tmCount_con l.nodes l 2000 b _ _ _ (Nat.le_refl _) (by decide) (by decide) (List.mem_cons_self) e ?_
  intro hz1 hz2; clear hz1 hz2
  refine ⟨_, List.mem_cons_self, in64_of (by unfold left; omega) (by unfold left; omega), ?_⟩
  refine ⟨_, H, ret_i ?_, List.sublist_cons_self _ _, hq⟩
  unfold left; omega

set_option maxRecDepth 100000 in
theorem tmNode_con (l : Tm) (s : Int × Int × Int) (vars : Int) : Ans Tryd.prog 40 [tmX l, shX s, .i vars] (.b (tmNd vars l.kind l.n l.name l.levels.length s.2.1)) := by
  intro H Q hq
  refine con_of_awp (esc := fun _ => false) tab_ok mixed Tryd.func40 rfl (ent Tryd.func40 (by kernel_rfl) rfl) (by kernel_rfl) ?_
  intro hw hn
  have fin : ∀ q : Bool, q = tmNd vars l.kind l.n l.name l.levels.length s.2.1 → ∃ r H', Le (.b q) r ∧ List.Sublist H' H ∧ Q r H' := fun q h => ⟨_, H, ret_b h, List.Sublist.refl _, hq⟩
  refine ifB_dec (fun h1 => ?_) (fun h1 => ?_)
  · refine ifB_dec (fun h2 => ?_) (fun h2 => ?_)
    · refine ifB_dec (fun h3 => ?_) (fun h3 => ?_)
      · refine ifB_dec (fun h4 => ?_) (fun h4 => ?_)
        · refine ifB_dec (fun h5 => ?_) (fun h5 => ?_)
          · exact fin _ (by simp at h5; simp [tmNd, h1, h2, h3, h4, h5])
          · exact fin _ (by simp at h5; simp [tmNd, h1, h2, h3, h4, h5])
        · exact fin _ (by simp [tmNd, h1, h2, h3, h4])
      · exact fin _ (by simp [tmNd, h1, h2, h3])
    · exact fin _ (by simp [tmNd, h1, h2])
  · refine ifB_dec (fun h2 => ?_) (fun h2 => ?_)
    · refine ifB_dec (fun h3 => ?_) (fun h3 => ?_)
      · refine ⟨_, LeL.refl _, nameRight_con _ _ _ ?_⟩
        intro hz1 hz2; clear hz1 hz2
        cases hg : nameOk l.name with
        | true =>
          refine ifB_dec (fun h4 => ?_) (fun h4 => ?_)
          · exact fin _ (by simp at h4; simp [tmNd, h2, h3, hg]; omega)
          · exact fin _ (by simp at h4; simp [tmNd, h2, h3, hg]; omega)
        | false => exact fin _ (by simp [tmNd, h2, h3, hg])
      · exact fin _ (by simp [tmNd, h2, h3])
    · refine ifB_dec (fun h3 => ?_) (fun h3 => ?_)
      · refine ifB_dec (fun h4 => ?_) (fun h4 => ?_)
        · refine ifB_dec (fun h5 => ?_) (fun h5 => ?_)
          · exact fin _ (by simp at h5; simp [tmNd, h1, h2, h3, h4, h5])
          · exact fin _ (by simp at h5; simp [tmNd, h1, h2, h3, h4, h5])
        · exact fin _ (by simp [tmNd, h1, h2, h3, h4])
      · exact fin _ (by simp [tmNd, h1, h2, h3])
end Go.Proofs.YtaldgcnhmnfocaaDoor

/-
  The program's terms: all, Right, alike, Same. No condition.
-/
namespace Go.Proofs.YtaldgcnhmnfocaaDoor
open Go.RowKit

theorem tmFit_eq (n : Int) (t : Tm) (vars : Int) : tmFit n t vars = (tmNode vars t.kind t.n t.name t.levels.length t.args.length && lvRightL n t.levels && tmFitL n t.kind t.args 0 vars) := by cases t; rfl
theorem tmFitL_at {n k : Int} {ts : List Tm} {j : Nat} (h : j < ts.length) (vars : Int) : tmFitL n k (ts.drop j) j vars = (tmFit n ts[j] (if tmBind k j then vars + 1 else vars) && tmFitL n k (ts.drop (j + 1)) (j + 1) vars) := by
  rw [List.drop_eq_getElem_cons h]; rfl

set_option maxRecDepth 100000 in
set_option maxHeartbeats 1000000 in
theorem tmAll_con (n : Int) : ∀ (N : Nat) (l : Tm) (vars : Int), l.nodes ≤ N → -1 ≤ vars → vars + N ≤ 4611686018427387904 → Ans Tryd.prog 31 [tmX l, .i n, .i vars] (.b (tmFit n l vars)) := by
  intro N
  induction N with
  | zero => intro l n h; have := l.nodes_pos; omega
  | succ N ih =>
    intro l vars hN hv0 hv H Q hq
    refine con_of_awp (esc := fun _ => false) tab_ok mixed Tryd.func31 rfl (ent Tryd.func31 (by kernel_rfl) rfl) (by kernel_rfl) ?_
    intro hw hn
    have hlena := (hw (tmX l) (by simp)).targs
    have hlenl := (hw (tmX l) (by simp)).tlevels
    have hnd := l.nodes_eq
    have hE : tmFit n l vars = (((decide (1 ≤ l.kind) && decide (l.kind ≤ 7)) && (decide ((l.args.length : Int) = (shapeOf l.kind).1) && tmNd vars l.kind l.n l.name l.levels.length (shapeOf l.kind).2.1)) && lvRightL n l.levels && tmFitL n l.kind l.args 0 vars) := by
      rw [tmFit_eq, shape_node]
    have fin : ∀ q : Bool, q = tmFit n l vars → ∃ r H', Le (.b q) r ∧ List.Sublist H' H ∧ Q r H' := fun q h => ⟨_, H, ret_b h, List.Sublist.refl _, hq⟩
    refine ⟨_, LeL.refl _, shaped_con _ _ _ ?_⟩
    intro hz1 hz2; clear hz1 hz2
    cases hs : (decide (1 ≤ l.kind) && decide (l.kind ≤ 7)) with
    | false => exact fin _ (by rw [hE, hs]; simp)
    | true =>
      refine ifB_dec (fun h1 => ?_) (fun h1 => ?_)
      · simp only [List.length_map] at h1
        refine ⟨_, LeL.refl _, tmNode_con _ _ _ _ _ ?_⟩
        intro hz1 hz2; clear hz1 hz2
        cases hg : tmNd vars l.kind l.n l.name l.levels.length (shapeOf l.kind).2.1 with
        | false => exact fin _ (by rw [hE, hg]; simp)
        | true =>
          refine ⟨Nat, fun k => ⟨[(1, .g (.i n)), (2, .g (.i vars)), (3, .lp 3 0), (6, .g (.b false)), (7, .lp 7 0), (37, .g (.sl .no 3 (l.levels.map lvA))), (38, .g (.i l.levels.length)), (39, .g (.i k))], [(7, (shX (shapeOf l.kind)).cells), (3, (tmX l).cells)], H⟩,
            fun k => k ≤ l.levels.length ∧ (l.levels.take k).all (lvRight n) = true, fun k => l.levels.length - k, ⟨0, ⟨Nat.zero_le _, rfl⟩, ?_⟩, ?_⟩
          · (constructor <;> repeat' (first | exact trivial | exact ⟨rfl, rfl⟩ | exact ⟨rfl, LeL.refl _⟩ | exact Le.refl _ | exact List.Sublist.refl _ | (show Le (AV.i _) (AV.i _); rw [List.length_map]; exact Le.refl _) | refine And.intro ?_ ?_))
          · rintro k ⟨hk, hall⟩
            refine ifB_dec (fun h2 => ?_) (fun h2 => ?_)
            · have hlt : k < l.levels.length := by omega
              refine ⟨k, rfl, _, lvAt hlt, ?_⟩
              refine ⟨_, LeL.refl _, lvRight_con _ _ _ _ ?_⟩
              intro hz1 hz2; clear hz1 hz2
              cases hr : lvRight n l.levels[k] with
              | false => exact fin _ (by rw [hE]; unfold lvRightL; rw [all_no hlt hr]; simp)
              | true =>
                refine ⟨in64_of (by first | omega | (dsimp only; omega)) (by first | omega | (dsimp only; omega)), ?_⟩
                refine ⟨k + 1, ⟨by omega, all_take hlt hall hr⟩, by (try dsimp only); omega, ?_⟩
                (constructor <;> repeat' (first | exact trivial | exact ⟨rfl, rfl⟩ | exact ⟨rfl, LeL.refl _⟩ | exact Le.refl _ | exact List.Sublist.refl _ | (show Le (AV.i _) (AV.i _); rw [List.length_map]; exact Le.refl _) | refine And.intro ?_ ?_))
            · have hk' : k = l.levels.length := by omega
              rw [hk', List.take_length] at hall
              have hE2 : tmFit n l vars = tmFitL n l.kind l.args 0 vars := by rw [hE, hs, hg]; unfold lvRightL; rw [hall]; simp [h1]
              refine ⟨Nat, fun k => ⟨[(1, .g (.i n)), (2, .g (.i vars)), (6, .g (.b false)), (7, .lp 7 0), (49, .g (.sl .no 5 (l.args.map tmA))), (50, .g (.i l.args.length)), (51, .g (.i k))], [(7, (shX (shapeOf l.kind)).cells), (3, (tmX l).cells)], H⟩,
                fun k => k ≤ l.args.length ∧ tmFitL n l.kind l.args 0 vars = tmFitL n l.kind (l.args.drop k) k vars, fun k => l.args.length - k, ⟨0, ⟨Nat.zero_le _, rfl⟩, ?_⟩, ?_⟩
              · (constructor <;> repeat' (first | exact trivial | exact ⟨rfl, rfl⟩ | exact ⟨rfl, LeL.refl _⟩ | exact Le.refl _ | exact List.Sublist.refl _ | (show Le (AV.i _) (AV.i _); rw [List.length_map]; exact Le.refl _) | refine And.intro ?_ ?_))
              · rintro j ⟨hj, hfit⟩
                refine ifB_dec (fun h3 => ?_) (fun h3 => ?_)
                · have hlt : j < l.args.length := by omega
                  have hmem := Tm.nodesL_mem (List.getElem_mem hlt)
                  have hpos := l.args[j].nodes_pos
                  refine ⟨j, rfl, _, tmAt' hlt, ?_⟩
                  refine ⟨[0, 1, 2, 3, 4, 5, 6, 7], [], by kernel_rfl, by simp, ?_⟩
                  refine ⟨_, LeL.refl _, inner_con _ _ _ (in64_of (by omega) (by omega)) _ _ ?_⟩
                  intro hz1 hz2; clear hz1 hz2
                  refine ⟨_, LeL.refl _, ?_⟩
                  rw [tmFitL_at hlt] at hfit
                  simp only [shape_bind l.kind j hs]
                  refine ih _ _ (by omega) (by split <;> omega) (by split <;> omega) _ _ ?_
                  intro hz1 hz2; clear hz1 hz2
                  cases hr : tmFit n l.args[j] (if tmBind l.kind j = true then vars + 1 else vars) with
                  | false => exact fin _ (by rw [hE2, hfit, hr]; simp)
                  | true =>
                    rw [hr, Bool.true_and] at hfit
                    refine ⟨in64_of (by first | omega | (dsimp only; omega)) (by first | omega | (dsimp only; omega)), ?_⟩
                    refine ⟨j + 1, ⟨by omega, hfit⟩, by (try dsimp only); omega, ?_⟩
                    (constructor <;> repeat' (first | exact trivial | exact ⟨rfl, rfl⟩ | exact ⟨rfl, LeL.refl _⟩ | exact Le.refl _ | exact List.Sublist.refl _ | (show Le (AV.i _) (AV.i _); rw [List.length_map]; exact Le.refl _) | refine And.intro ?_ ?_))
                · have hj' : j = l.args.length := by omega
                  exact fin _ (by rw [hE2, hfit, hj', List.drop_length]; rfl)
      · simp only [List.length_map] at h1
        exact fin _ (by rw [hE]; simp [h1])

set_option maxRecDepth 100000 in
theorem tmRight_con (n vars : Int) (l : Tm) : Ans Tryd.prog 22 [tmX l, .i n, .i vars] (.b (tmRight n vars l)) := by
  intro H Q hq
  refine con_of_awp (esc := fun _ => false) tab_ok mixed Tryd.func22 rfl (ent Tryd.func22 (by kernel_rfl) rfl) (by kernel_rfl) ?_
  intro hw hn
  have fin : ∀ q : Bool, q = tmRight n vars l → ∃ r H', Le (.b q) r ∧ List.Sublist H' H ∧ Q r H' := fun q h => ⟨_, H, ret_b h, List.Sublist.refl _, hq⟩
  refine ifB_dec (fun h1 => ?_) (fun h1 => ?_)
  · refine ifB_dec (fun h2 => ?_) (fun h2 => ?_)
    · refine ifB_dec (fun h3 => ?_) (fun h3 => ?_)
      · refine ⟨_, LeL.refl _, tmNodes_con _ _ _ ?_⟩
        intro hz1 hz2; clear hz1 hz2
        refine ifB_dec (fun h4 => ?_) (fun h4 => ?_)
        · have h5 : l.nodes ≤ 2000 := by omega
          refine ⟨_, LeL.refl _, tmAll_con n _ _ _ (Nat.le_refl _) (by omega) (by omega) _ _ ?_⟩
          intro hz1 hz2; clear hz1 hz2
          exact fin _ (by simp [tmRight, h1, h2, h3, h5])
        · have h5 : ¬ l.nodes ≤ 2000 := by omega
          exact fin _ (by simp [tmRight, h5])
      · exact fin _ (by simp [tmRight, h3])
    · exact fin _ (by simp [tmRight, h2])
  · exact fin _ (by simp [tmRight, h1])




def tm0 : Tm := .mk 0 0 [] [] []
end Go.Proofs.YtaldgcnhmnfocaaDoor

/-
  Bytes that are put behind one another: buffers; wire's put, Nums, texts, Texts. No condition.
-/
namespace Go.Proofs.YtaldgcnhmnfocaaDoor
open Go.RowKit

theorem le_of_eq {x y : AV} (h : x = y) : Le x y := by rw [h]; exact Le.refl _
/-- a buffer: nothing yet, or a row that one may append to -/
def bufS (q : Option Cap) (xs : List UInt8) : AV :=
  match q with
  | none => .sl .full 0 []
  | some c => .sl (.own c) 1 (xs.map byteV)
/-- its right lies among the objects; what else there is -/
def BufIn (q : Option Cap) (H H0 : Heap) : Prop :=
  match q with
  | none => H = H0
  | some c => Heap.Rem (c.b, .cap c) H H0
def bufH (q : Option Cap) (H0 : Heap) : Heap :=
  match q with
  | none => H0
  | some c => (c.b, .cap c) :: H0
theorem BufIn.here (q : Option Cap) (H0 : Heap) : BufIn q (bufH q H0) H0 := by
  cases q
  · exact rfl
  · exact Heap.Rem.here

theorem put_bytes {n : Nat} (h : n ≤ 9223372036854775807) : AV.v (.int .u8 (IntKind.u8.wrap (bits .or .i64 (bits .and .i64 (n : Int) 127) 128))) = byteV (UInt8.ofNat (n % 128 + 128)) := by
  unfold byteV
  rw [IntKind.wrap_u8, put_val n h]
theorem put_last {n : Nat} (h : n < 128) : AV.v (.int .u8 (IntKind.u8.wrap (n : Int))) = byteV (UInt8.ofNat n) := by
  unfold byteV
  rw [IntKind.wrap_u8]
  have : (UInt8.ofNat n).toNat = n := by simp; omega
  rw [this, show (n : Int) % 256 = n by omega]
theorem fdiv128 (n : Nat) : Int.fdiv (n : Int) 128 = ((n / 128 : Nat) : Int) := by
  rw [Int.fdiv_eq_ediv_of_nonneg _ (by decide)]; rfl



def encs (ns : List Nat) : List UInt8 := (ns.map enc).flatten
theorem encs_snoc {ns : List Nat} {k : Nat} (h : k < ns.length) : encs (ns.take (k + 1)) = encs (ns.take k) ++ enc ns[k] := by
  unfold encs
  rw [List.take_succ_eq_append_getElem h, List.map_append, List.flatten_append]; simp
theorem encs_len : ∀ (ns : List Nat), (∀ n ∈ ns, n ≤ 1099511627776) → (encs ns).length ≤ 6 * ns.length
  | [], _ => by simp [encs]
  | n :: ns, h => by
    have h1 := enc_le6 n (h n (by simp))
    have h2 := encs_len ns fun m hm => h m (List.mem_cons_of_mem _ hm)
    simp only [encs, List.map_cons, List.flatten_cons, List.length_append, List.length_cons] at *
    omega
def nI (n : Nat) : AV := .i n
theorem nAt {ls : List Nat} {k : Nat} (h : k < ls.length) : (ls.map nI)[k]? = some (.i ls[k]) := by simp [h, nI]

end Go.Proofs.YtaldgcnhmnfocaaDoor

/-
  wire's texts, Texts; pack's put, leaf, putLevel, Level. No condition.
-/
namespace Go.Proofs.YtaldgcnhmnfocaaDoor
open Go.RowKit

theorem ifNil_or {ys : List AV} {A B : Prop} (h1 : ys = [] → A) (h2 : ys ≠ [] → B) : ifNil ys A B := by
  cases ys with
  | nil => exact h1 rfl
  | cons y ys => exact h2 (by simp)
/-- the bytes of texts -/
def stB (s : List UInt8) : List UInt8 := enc s.length ++ s
def stsB (ss : List (List UInt8)) : List UInt8 := (ss.map stB).flatten
theorem stsB_snoc {ns : List (List UInt8)} {k : Nat} (h : k < ns.length) : stsB (ns.take (k + 1)) = stsB (ns.take k) ++ stB ns[k] := by
  unfold stsB
  rw [List.take_succ_eq_append_getElem h, List.map_append, List.flatten_append]; simp
theorem stsB_le (ns : List (List UInt8)) (k : Nat) : (stsB (ns.take k)).length ≤ (stsB ns).length := by
  have : stsB ns = stsB (ns.take k) ++ stsB (ns.drop k) := by
    unfold stsB
    rw [← List.flatten_append, ← List.map_append, List.take_append_drop]
  rw [this, List.length_append]; omega




/-! levels and terms as bytes -/
mutual
def lvB : Lv → List UInt8
  | .mk k n xs => enc k.toNat ++ (if k = 1 ∨ k = 2 then enc n.toNat else []) ++ lvBL xs
def lvBL : List Lv → List UInt8
  | [] => []
  | l :: ls => lvB l ++ lvBL ls
end
theorem lvB_eq (l : Lv) : lvB l = enc l.kind.toNat ++ (if l.kind = 1 ∨ l.kind = 2 then enc l.n.toNat else []) ++ lvBL l.args := by cases l; rfl
theorem lvBL_snoc {ls : List Lv} {k : Nat} (h : k < ls.length) : lvBL (ls.take (k + 1)) = lvBL (ls.take k) ++ lvB ls[k] := by
  induction ls generalizing k with
  | nil => simp at h
  | cons a ls ih =>
    cases k with
    | zero => simp [lvBL]
    | succ k => simp [lvBL, ih (by simpa using h)]
/-- what a node that is right says -/
theorem lvNode_in {n k m : Int} {len : Nat} (hn : n ≤ 4) (h : lvNode n k m len = true) : 1 ≤ k ∧ k ≤ 5 ∧ 0 ≤ m ∧ m ≤ 100 := by
  unfold lvNode at h
  by_cases h1 : k = 1
  · simp [h1] at h; omega
  · by_cases h2 : k = 2
    · simp [h2] at h; omega
    · by_cases h3 : k = 3
      · simp [h3] at h; omega
      · by_cases h4 : k = 4 ∨ k = 5
        · simp [h1, h2, h3, h4] at h; omega
        · simp [h1, h2, h3, h4] at h
theorem lvFit_arg {n : Int} {l a : Lv} (h : lvFit n l = true) (ha : a ∈ l.args) : lvFit n a = true := by
  rw [lvFit_parts, Bool.and_eq_true] at h
  exact List.all_eq_true.1 h.2 a ha
theorem lvFit_in {n : Int} {l : Lv} (hn : n ≤ 4) (h : lvFit n l = true) : 1 ≤ l.kind ∧ l.kind ≤ 5 ∧ 0 ≤ l.n ∧ l.n ≤ 100 := by
  rw [lvFit_parts, Bool.and_eq_true] at h
  exact lvNode_in hn h.1
mutual
theorem lvB_len {n : Int} (hn : n ≤ 4) : ∀ l : Lv, lvFit n l = true → (lvB l).length ≤ 12 * l.nodes
  | .mk k m xs, h => by
    have h1 := lvFit_in hn h
    have h2 := lvBL_len hn xs (fun a ha => lvFit_arg h ha)
    have e1 := enc_le6 k.toNat (by simp only [Lv.kind] at h1; omega)
    have e2 := enc_le6 m.toNat (by simp only [Lv.n] at h1; omega)
    simp only [lvB, Lv.nodes, List.length_append]
    split <;> (try simp only [List.length_nil]) <;> omega
theorem lvBL_len {n : Int} (hn : n ≤ 4) : ∀ ls : List Lv, (∀ l ∈ ls, lvFit n l = true) → (lvBL ls).length ≤ 12 * Lv.nodesL ls
  | [], _ => by simp [lvBL]
  | l :: ls, h => by
    have h1 := lvB_len hn l (h l (by simp))
    have h2 := lvBL_len hn ls fun a ha => h a (List.mem_cons_of_mem _ ha)
    simp only [lvBL, Lv.nodesL, List.length_append]
    omega
end



/-- what pack.Level answers -/
def lvPack (l : Lv) : Option (List UInt8) := if lvRight 4 l then some (lvB l) else none
end Go.Proofs.YtaldgcnhmnfocaaDoor

/-
  slices.ContainsFunc and IndexFunc; pack's near, right. No condition.
-/
namespace Go.Proofs.YtaldgcnhmnfocaaDoor
open Go.RowKit

theorem any_take {α : Type} {f : α → Bool} {xs : List α} {k : Nat} (h : k < xs.length) (h1 : (xs.take k).any f = false) (h2 : f xs[k] = false) : (xs.take (k + 1)).any f = false := by
  rw [List.take_succ_eq_append_getElem h, List.any_append, h1]; simp [h2]
theorem any_yes {α : Type} {f : α → Bool} {xs : List α} {k : Nat} (h : k < xs.length) (h2 : f xs[k] = true) : xs.any f = true := List.any_eq_true.2 ⟨xs[k], List.getElem_mem h, h2⟩
/-- a constructor -/
structure Ct where
  name : List UInt8
  type : Tm
def ctX (c : Ct) : AV := .agg [.str c.name, .i c.type.kind, .i c.type.n, .str c.type.name, .sl .no 3 (c.type.levels.map lvA), .sl .no 5 (c.type.args.map tmA)]
theorem ctAt {ls : List Ct} {k : Nat} (h : k < ls.length) : (ls.map ctX)[k]? = some (ctX ls[k]) := by simp [h]


/-! pack's near, right -/
mutual
def tmNear : Tm → Bool
  | .mk k n _ _ xs => (decide (k ≠ 1) || decide (n < 1099511627776)) && tmNearL xs
def tmNearL : List Tm → Bool
  | [] => true
  | t :: ts => tmNear t && tmNearL ts
end
theorem tmNearL_all : ∀ ts : List Tm, tmNearL ts = !(ts.any fun t => !tmNear t)
  | [] => rfl
  | t :: ts => by rw [tmNearL, tmNearL_all ts]; simp
theorem tmNear_eq (t : Tm) : tmNear t = ((decide (t.kind ≠ 1) || decide (t.n < 1099511627776)) && !(t.args.any fun t => !tmNear t)) := by cases t; rw [tmNear, tmNearL_all]; rfl


def packOk (t : Tm) : Bool := tmRight 4 1099511627776 t && tmNear t
end Go.Proofs.YtaldgcnhmnfocaaDoor

/-
  pack's putTerm, Term. No condition.
-/
namespace Go.Proofs.YtaldgcnhmnfocaaDoor
open Go.RowKit

theorem lvBL_append : ∀ us bs : List Lv, lvBL (us ++ bs) = lvBL us ++ lvBL bs := fun us bs => by
  induction us with
  | nil => rfl
  | cons a us ih => simp [lvBL, ih]
theorem lvBL_pre (ls : List Lv) (k : Nat) : (lvBL (ls.take k)).length ≤ (lvBL ls).length := by
  have : lvBL ls = lvBL (ls.take k) ++ lvBL (ls.drop k) := by rw [← lvBL_append, List.take_append_drop]
  rw [this, List.length_append]; omega
mutual
def tmB : Tm → List UInt8
  | .mk k n nm ls xs => enc k.toNat ++ (if k = 1 then enc n.toNat else if k = 3 then stB nm ++ enc ls.length else []) ++ lvBL ls ++ tmBL xs
def tmBL : List Tm → List UInt8
  | [] => []
  | l :: ls => tmB l ++ tmBL ls
end
def tmHd (l : Tm) : List UInt8 := if l.kind = 1 then enc l.n.toNat else if l.kind = 3 then stB l.name ++ enc l.levels.length else []
theorem tmB_eq (l : Tm) : tmB l = enc l.kind.toNat ++ tmHd l ++ lvBL l.levels ++ tmBL l.args := by cases l; rfl
theorem tmBL_append : ∀ us bs : List Tm, tmBL (us ++ bs) = tmBL us ++ tmBL bs := fun us bs => by
  induction us with
  | nil => rfl
  | cons a us ih => simp [tmBL, ih]
theorem tmBL_pre (ls : List Tm) (k : Nat) : (tmBL (ls.take k)).length ≤ (tmBL ls).length := by
  have : tmBL ls = tmBL (ls.take k) ++ tmBL (ls.drop k) := by rw [← tmBL_append, List.take_append_drop]
  rw [this, List.length_append]; omega
theorem tmBL_snoc {ls : List Tm} {k : Nat} (h : k < ls.length) : tmBL (ls.take (k + 1)) = tmBL (ls.take k) ++ tmB ls[k] := by
  rw [List.take_succ_eq_append_getElem h, tmBL_append]; simp [tmBL]

/-- what the bytes of a term ask of it -/
structure Pok (l : Tm) : Prop where
  kind : 1 ≤ l.kind ∧ l.kind ≤ 7
  num : l.kind = 1 → 0 ≤ l.n ∧ l.n ≤ 1099511627776
  name : l.name.length ≤ 40
  lv : ∀ x ∈ l.levels, lvFit 4 x = true
  few : l.levels.length ≤ 4
mutual
def PokAll : Tm → Prop
  | .mk k n nm ls xs => Pok (.mk k n nm ls xs) ∧ PokAllL xs
def PokAllL : List Tm → Prop
  | [] => True
  | t :: ts => PokAll t ∧ PokAllL ts
end
theorem PokAllL_mem : ∀ {ts : List Tm} {a : Tm}, PokAllL ts → a ∈ ts → PokAll a
  | t :: ts, a, h, ha => by
    rcases List.mem_cons.1 ha with rfl | ha
    · exact h.1
    · exact PokAllL_mem h.2 ha
theorem PokAll.pok {l : Tm} (h : PokAll l) : Pok l := by cases l; exact h.1
theorem PokAll.arg {l a : Tm} (h : PokAll l) (ha : a ∈ l.args) : PokAll a := by cases l; exact PokAllL_mem h.2 ha
theorem tmHd_len {l : Tm} (h : Pok l) : (tmHd l).length ≤ 52 := by
  unfold tmHd
  have h1 := h.name
  have h2 := h.few
  have e2 := enc_le6 l.name.length (by omega)
  have e3 := enc_le6 l.levels.length (by omega)
  split
  · have := h.num (by assumption)
    have e1 := enc_le6 l.n.toNat (by omega)
    omega
  · split
    · unfold stB; simp only [List.length_append]; omega
    · simp
mutual
theorem tmB_len : ∀ l : Tm, PokAll l → (tmB l).length ≤ 64 * l.nodes
  | .mk k n nm ls xs, h => by
    have hp := h.pok
    have h1 := tmHd_len hp
    have h2 := lvBL_len (n := 4) (by decide) ls hp.lv
    have h3 := tmBL_len xs fun a ha => h.arg ha
    have e1 := enc_le6 k.toNat (by have := hp.kind; simp only [Tm.kind] at this; omega)
    rw [tmB_eq]
    simp only [Tm.kind, Tm.levels, Tm.args, List.length_append]
    simp only [Tm.nodes]
    omega
theorem tmBL_len : ∀ ls : List Tm, (∀ l ∈ ls, PokAll l) → (tmBL ls).length ≤ 64 * Tm.nodesL ls
  | [], _ => by simp [tmBL]
  | l :: ls, h => by
    have h1 := tmB_len l (h l (by simp))
    have h2 := tmBL_len ls fun a ha => h a (List.mem_cons_of_mem _ ha)
    simp only [tmBL, Tm.nodesL, List.length_append]
    omega
end


theorem tmNear_arg {l a : Tm} (h : tmNear l = true) (ha : a ∈ l.args) : tmNear a = true := by
  rw [tmNear_eq, Bool.and_eq_true] at h
  have := h.2
  simp only [Bool.not_eq_true', List.any_eq_false] at this
  simpa using this a ha
theorem tmNode_pok {v k m : Int} {nm : List UInt8} {ls xs : Nat} (h : tmNode v k m nm ls xs = true) : 1 ≤ k ∧ k ≤ 7 ∧ (k = 1 → 0 ≤ m) ∧ nm.length ≤ 40 ∧ ls ≤ 4 := by
  rw [shape_node] at h
  simp only [Bool.and_eq_true, decide_eq_true_eq] at h
  obtain ⟨hk, _, hnd⟩ := h
  refine ⟨hk.1, hk.2, ?_⟩
  unfold tmNd at hnd
  by_cases k1 : k = 1
  · simp [k1] at hnd
    obtain ⟨⟨⟨h1, _⟩, h2⟩, h3⟩ := hnd
    exact ⟨fun _ => h1, by simp [h2], by simp [h3]⟩
  · by_cases k3 : k = 3
    · simp [k3] at hnd
      obtain ⟨⟨_, h2⟩, h3⟩ := hnd
      unfold nameOk at h2
      simp only [Bool.and_eq_true, decide_eq_true_eq] at h2
      exact ⟨fun h => absurd h k1, h2.1.2, h3⟩
    · simp [k1, k3] at hnd
      obtain ⟨⟨_, h2⟩, h3⟩ := hnd
      refine ⟨fun h => absurd h k1, by simp [h2], ?_⟩
      have hk' : k = 1 ∨ k = 2 ∨ k = 3 ∨ k = 4 ∨ k = 5 ∨ k = 6 ∨ k = 7 := by omega
      have : (shapeOf k).2.1 ≤ 1 := by rcases hk' with rfl | rfl | rfl | rfl | rfl | rfl | rfl <;> simp [shapeOf]
      omega
theorem lvRight_fit {n : Int} {l : Lv} (h : lvRight n l = true) : lvFit n l = true := by
  simp only [lvRight, Bool.and_eq_true] at h; exact h.2
mutual
theorem pok_of : ∀ (t : Tm) (n v : Int), n ≤ 4 → tmFit n t v = true → tmNear t = true → PokAll t
  | .mk k m nm ls xs, n, v, hn, h, hr => by
    have h0 := h
    rw [tmFit_eq] at h0
    simp only [Bool.and_eq_true, Tm.kind, Tm.n, Tm.name, Tm.levels, Tm.args] at h0
    obtain ⟨⟨h1, h2⟩, h3⟩ := h0
    have h4 := tmNode_pok h1
    refine ⟨⟨⟨h4.1, h4.2.1⟩, fun hk => ⟨h4.2.2.1 hk, ?_⟩, h4.2.2.2.1, fun x hx => ?_, h4.2.2.2.2⟩, ?_⟩
    · rw [tmNear_eq, Bool.and_eq_true] at hr
      simp only [Tm.kind] at hk
      have h9 := hr.1
      simp only [Tm.kind, Tm.n] at h9
      simp [hk] at h9
      have h8 : m < 1099511627776 := of_decide_eq_true h9
      exact Int.le_of_lt h8
    · have := lvRight_fit (List.all_eq_true.1 h2 x hx)
      exact lvFit_mono hn x this
    · exact pok_ofL xs n k 0 v hn h3 fun a ha => tmNear_arg hr ha
theorem pok_ofL : ∀ (ts : List Tm) (n k : Int) (i : Nat) (v : Int), n ≤ 4 → tmFitL n k ts i v = true → (∀ a ∈ ts, tmNear a = true) → PokAllL ts
  | [], _, _, _, _, _, _, _ => trivial
  | t :: ts, n, k, i, v, hn, h, hr => by
    simp only [tmFitL, Bool.and_eq_true] at h
    exact ⟨pok_of t n _ hn h.1 (hr t (by simp)), pok_ofL ts n k (i + 1) v hn h.2 fun a ha => hr a (List.mem_cons_of_mem _ ha)⟩
theorem lvFit_mono {n : Int} (hn : n ≤ 4) : ∀ l : Lv, lvFit n l = true → lvFit 4 l = true
  | .mk k m xs, h => by
    rw [lvFit_parts, Bool.and_eq_true] at h ⊢
    simp only [Lv.kind, Lv.n, Lv.args] at h ⊢
    refine ⟨?_, List.all_eq_true.2 fun a ha => lvFit_mono hn a (List.all_eq_true.1 h.2 a ha)⟩
    have h1 := h.1
    unfold lvNode at h1 ⊢
    by_cases k2 : k = 2
    · simp [k2] at h1 ⊢
      exact ⟨⟨h1.1.1, by omega⟩, h1.2⟩
    · simpa [k2] using h1
end
theorem packOk_pok {t : Tm} (h : packOk t = true) : PokAll t ∧ t.nodes ≤ 2000 := by
  unfold packOk tmRight at h
  simp only [Bool.and_eq_true, decide_eq_true_eq] at h
  exact ⟨pok_of t 4 _ (by decide) h.1.2 h.2, h.1.1.2⟩

end Go.Proofs.YtaldgcnhmnfocaaDoor

/-
  Declarations; pack's valued, Formed. No condition.
-/
namespace Go.Proofs.YtaldgcnhmnfocaaDoor
open Go.RowKit

/-- a declaration -/
structure Dc where
  kind : Int
  params : Int
  name : List UInt8
  type : Tm
  value : Tm
  fixed : Int
  ctors : List Ct
def dcX (d : Dc) : AV := .agg [.i d.kind, .i d.params, .str d.name, .i d.type.kind, .i d.type.n, .str d.type.name, .sl .no 3 (d.type.levels.map lvA), .sl .no 5 (d.type.args.map tmA), .i d.value.kind, .i d.value.n, .str d.value.name, .sl .no 3 (d.value.levels.map lvA), .sl .no 5 (d.value.args.map tmA), .i d.fixed, .sl .no 6 (d.ctors.map ctX)]
def ctWrong (n : Int) (c : Ct) : Bool := !nameOk c.name || !tmRight n 0 c.type
def formed (d : Dc) : Bool :=
  decide (1 ≤ d.kind) && decide (d.kind ≤ 5) && nameOk d.name && tmRight d.params 0 d.type &&
    (if d.kind = 5 then tmEq d.value tm0 && decide (0 ≤ d.fixed) && decide (d.fixed ≤ 16) && decide (d.ctors.length ≤ 8) && !(d.ctors.any (ctWrong d.params))
     else if d.fixed = 0 ∧ d.ctors.length = 0 then (if 2 ≤ d.kind ∧ d.kind ≤ 4 then tmRight d.params 0 d.value else tmEq d.value tm0) else false)




theorem storeK_ptr {tab : Tab} {s : St} {dst : Option Tmp} {t : TypeId} {b off : Nat} {g : AV} {K : St → Prop} {i : TI} {cs : List AV} {H' : Heap} (hi : tab.get t = some i) (hg : (noTup g && Nat.beq g.cells.length i.size) = true) (hat : Heap.At b (.cells cs) (.cells (putCells cs off g.cells)) s.H H') (hl : off + i.size ≤ cs.length)
    (hK : K ⟨s.e.put dst .undef, s.L, H'⟩) : storeK tab s dst t (.g (.ptr b off)) (.g g) K := by
  unfold storeK
  rw [hi]
  simp only [hg, cond_true]
  exact ⟨cs, H', hat, hl, hK⟩
theorem aText_store {P : Program} {tab : Tab} {esc : Nat → Bool} {ops : Array Oper} {r : List Oper} {s : St} {K : St → Prop} {o : Oper} {t : TypeId} {a x : Operand} (ho : o.op = .store t a x) (hg : o.guard = none) (h : storeK tab s o.dst t (s.e.ev a) (s.e.ev x) fun s' => aText P tab esc ops r s' K) :
    aText P tab esc ops (o :: r) s K := by
  show aG ops o s.e _ _
  unfold aG
  rw [hg]
  show aop P tab esc s.H o s _
  have hm : mobile tab esc o = false := by unfold mobile; rw [ho]; rfl
  unfold aop
  rw [hm, ho]
  exact h
/-- a store through a pointer, the state behind it written out -/
theorem aText_storeP {P : Program} {tab : Tab} {esc : Nat → Bool} {ops : Array Oper} {r : List Oper} {s : St} {K : St → Prop} {o : Oper} {t : TypeId} {a x : Operand} {b off : Nat} {g : AV} {i : TI} {H0 : Heap} (e' : Env) (L' : Loc) (cs : List AV) (H' : Heap) (ho : o.op = .store t a x) (hg : o.guard = none) (hd : o.dst = none)
    (he : s.e = e') (hL : s.L = L') (hH : s.H = H0) (ha : Env.ev e' a = .g (.ptr b off)) (hx : Env.ev e' x = .g g) (hi : tab.get t = some i) (hgg : (noTup g && Nat.beq g.cells.length i.size) = true)
    (hat : Heap.At b (.cells cs) (.cells (putCells cs off g.cells)) H0 H') (hl : off + i.size ≤ cs.length) (hK : aText P tab esc ops r ⟨e', L', H'⟩ K) : aText P tab esc ops (o :: r) s K := by
  subst he hL hH
  refine aText_store ho hg ?_
  rw [ha, hx, hd]
  exact storeK_ptr hi hgg hat hl hK
/-- a quiet operation, what it gives written out -/
theorem aText_q {P : Program} {tab : Tab} {esc : Nat → Bool} {ops : Array Oper} {r : List Oper} {s : St} {K : St → Prop} {o : Oper} (t : T) (hgd : ∀ A B : Prop, A → aG ops o s.e A B) (hm : mobile tab esc o = true) (hres : ∀ K : T → Prop, K t → (ares tab o.op s.e.ev s.L s.H).run K)
    (h : aText P tab esc ops r (s.put o.dst t) K) : aText P tab esc ops (o :: r) s K := by
  refine hgd _ _ ?_
  unfold aop
  rw [hm]
  exact hres _ (by rw [nowK_eq]; exact h)
/-- the same, where it is asked for unlike things -/
theorem aText_ncmp {P : Program} {tab : Tab} {esc : Nat → Bool} {ops : Array Oper} {r : List Oper} {s : St} {K : St → Prop} {o : Oper} (p : Prop) (hgd : ∀ A B : Prop, A → aG ops o s.e A B) (hm : mobile tab esc o = true)
    (hres : ∀ K : T → Prop, (p → K (.g (.b false))) → (¬p → K (.g (.b true))) → (ares tab o.op s.e.ev s.L s.H).run K)
    (h1 : p → aText P tab esc ops r (s.put o.dst (.g (.b false))) K) (h2 : ¬p → aText P tab esc ops r (s.put o.dst (.g (.b true))) K) : aText P tab esc ops (o :: r) s K := by
  refine hgd _ _ ?_
  unfold aop
  rw [hm]
  exact hres _ (fun hp => by rw [nowK_eq]; exact h1 hp) (fun hp => by rw [nowK_eq]; exact h2 hp)
theorem now_b {k : TK} {q : Bool} {K : T → Prop} (h : K (.g (.b q))) : (rv (.b q)).run (fun t => nowK k t K) := by
  show nowK k (.g (.b q)) K
  rw [nowK_eq]
  exact h
theorem aText_end {P : Program} {tab : Tab} {esc : Nat → Bool} {ops : Array Oper} {s : St} {K : St → Prop} (h : K s) : aText P tab esc ops [] s K := h
theorem awp_else {P : Program} {tab : Tab} {esc : Nat → Bool} {N : Nat} {c : Operand} {a b : Code} {Q : Exit → St → Prop} {s : St} (hx : s.e.ev c = .g (.b false)) (h : awp P tab esc N b Q s) : awp P tab esc N (.cond c a b) Q s := by
  unfold awp
  rw [hx]
  exact h
theorem awp_then {P : Program} {tab : Tab} {esc : Nat → Bool} {N : Nat} {c : Operand} {a b : Code} {Q : Exit → St → Prop} {s : St} (hx : s.e.ev c = .g (.b true)) (h : awp P tab esc N a Q s) : awp P tab esc N (.cond c a b) Q s := by
  unfold awp
  rw [hx]
  exact h
theorem awp_reg {P : Program} {tab : Tab} {esc : Nat → Bool} {N : Nat} {id : Nat} {ops : Array Oper} {b : Code} {Q : Exit → St → Prop} {s : St} (h : aText P tab esc ops ops.toList s fun s' => awp P tab esc N b Q s') : awp P tab esc N (.seq (.region id ops false) b) Q s := by
  unfold awp
  unfold awp
  exact h
/-- a comparison: the two ways part -/
theorem aText_cmp {P : Program} {tab : Tab} {esc : Nat → Bool} {ops : Array Oper} {r : List Oper} {s : St} {K : St → Prop} {o : Oper} (p : Prop) (hgd : ∀ A B : Prop, A → aG ops o s.e A B) (hm : mobile tab esc o = true)
    (hres : ∀ K : T → Prop, (p → K (.g (.b true))) → (¬p → K (.g (.b false))) → (ares tab o.op s.e.ev s.L s.H).run K)
    (h1 : p → aText P tab esc ops r (s.put o.dst (.g (.b true))) K) (h2 : ¬p → aText P tab esc ops r (s.put o.dst (.g (.b false))) K) : aText P tab esc ops (o :: r) s K := by
  refine hgd _ _ ?_
  unfold aop
  rw [hm]
  exact hres _ (fun hp => by rw [nowK_eq]; exact h1 hp) (fun hp => by rw [nowK_eq]; exact h2 hp)
end Go.Proofs.YtaldgcnhmnfocaaDoor
