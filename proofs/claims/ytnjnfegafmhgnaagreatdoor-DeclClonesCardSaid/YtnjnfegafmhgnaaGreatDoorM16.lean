/-
  Texts put together: H15, H16, H17, H18. No condition.
-/
import Derived.Test.YtnjnfegafmhgnaaGreatDoorM13
import Derived.Test.YtnjnfegafmhgnaaGreatDoorM12
import Derived.Test.YtnjnfegafmhgnaaGreatDoorM15
/-
  decl.Clone, whose new memory may turn later: term's fresh, App of nothing, slices.Clone. No condition.
-/
namespace Go.Proofs.YtnjnfegafmhgnaaGreatDoor
open Go.RowKit

theorem flat_len {size : Nat} : ∀ {xs : List AV}, wide size xs → (xs.flatMap AV.cells).length = xs.length * size
  | [], _ => by simp
  | x :: xs, h => by
    have h1 := h.2 x (by simp)
    have h2 : wide size xs := ⟨fun hs => (by have := h.1 hs; cases this), fun y hy => h.2 y (List.mem_cons_of_mem _ hy)⟩
    rw [List.flatMap_cons, List.length_append, h1, flat_len h2, List.length_cons, Nat.add_mul, Nat.one_mul, Nat.add_comm]
theorem wide_tms (ts : List Tm) : wide 5 (ts.map tmA) := ⟨fun h => (by cases h), fun y hy => by
  obtain ⟨t, _, rfl⟩ := List.mem_map.1 hy
  rw [tmA_eq]
  rfl⟩
theorem wide_lvs (ts : List Lv) : wide 3 (ts.map lvA) := ⟨fun h => (by cases h), fun y hy => by
  obtain ⟨t, _, rfl⟩ := List.mem_map.1 hy
  rw [lvA_eq]
  rfl⟩
theorem wide_sts (ts : List (List UInt8)) : wide 1 (ts.map AV.str) := ⟨fun h => (by cases h), fun y hy => by
  obtain ⟨t, _, rfl⟩ := List.mem_map.1 hy
  rfl⟩
/-- what stands in memory that may turn -/
structure TurnOk (size n : Nat) (xs : List AV) (H : Heap) (b cap : Nat) (cs : List AV) : Prop where
  len : xs.length = n
  out : b ∉ H.keys
  le : n ≤ cap
  max : cap ≤ maxLen
  room : cap * size ≤ cs.length
  here : cs.take (n * size) = xs.flatMap AV.cells
theorem TurnOk.first {size : Nat} {y : AV} {H : Heap} {b cap : Nat} {rest : List AV} (hy : y.cells.length = size) (h0 : b ∉ H.keys) (h1 : 0 + 1 ≤ cap) (h2 : cap ≤ maxLen) (h3 : rest.length = (cap - (0 + 1)) * size) : TurnOk size 1 [y] H b cap (([] ++ [y]).flatMap AV.cells ++ rest) := by
  have e : (([] ++ [y]).flatMap AV.cells ++ rest) = y.cells ++ rest := by simp
  rw [e]
  refine ⟨rfl, h0, h1, h2, ?_, ?_⟩
  · obtain ⟨c, rfl⟩ : ∃ c, cap = c + 1 := ⟨cap - 1, by omega⟩
    rw [List.length_append, hy, h3, Nat.add_mul]
    simp
    omega
  · rw [Nat.one_mul, ← hy, List.take_left']
    · simp
    · rfl
theorem TurnOk.next {size n : Nat} {xs : List AV} {y : AV} {H : Heap} {b0 cap0 : Nat} {cs : List AV} (h : TurnOk size n xs H b0 cap0 cs) (hw : wide size xs) {b cap : Nat} {rest : List AV} (hy : y.cells.length = size) (k1 : b ∉ H.keys) (k2 : n + 1 ≤ cap) (k3 : cap ≤ maxLen) (k4 : cap * size ≤ (n + 1) * size + rest.length) :
    TurnOk size (n + 1) (xs ++ [y]) H b cap (cs.take (n * size) ++ [y].flatMap AV.cells ++ rest) := by
  have hl : (xs.flatMap AV.cells).length = n * size := by rw [flat_len hw, h.len]
  have hl1 : (([y] : List AV).flatMap AV.cells).length = size := by simp [hy]
  refine ⟨by simp [h.len], k1, k2, k3, ?_, ?_⟩
  · rw [List.length_append, List.length_append, h.here, hl, hl1, ← Nat.succ_mul]
    exact k4
  · rw [h.here, ← List.flatMap_append, List.take_left']
    rw [List.flatMap_append, List.length_append, hl, hl1, Nat.add_mul, Nat.one_mul]
theorem TurnOk.see {size n : Nat} {xs : List AV} {H : Heap} {b cap : Nat} {cs : List AV} (h : TurnOk size n xs H b cap cs) (hw : wide size xs) {M : Mem} (hat : atL M cs b 0) : LeM M (hs b n cap) (.sl .no size xs) := by
  have e : xs.flatMap AV.cells ++ cs.drop (n * size) = cs := by rw [← h.here, List.take_append_drop]
  rw [← e] at hat
  exact hs_ice hat h.len.symm h.le h.max hw
/-- an owned slice that may turn later -/
abbrev Mv := Option (Nat × Nat × List AV)
def mvV (size : Nat) (m : Mv) (n : Nat) : AV :=
  match m with
  | none => .sl .no size []
  | some (b, cap, _) => hs b n cap
def mvS (m : Mv) (n : Nat) : AV :=
  match m with
  | none => .sl .full 0 []
  | some (b, cap, _) => hs b n cap
def mvH (m : Mv) (H : Heap) : Heap :=
  match m with
  | none => H
  | some (b, _, cs) => (b, .cells cs) :: H
def MvOk (size n : Nat) (xs : List AV) (H : Heap) : Mv → Prop
  | none => n = 0 ∧ xs = []
  | some (b, cap, cs) => n ≠ 0 ∧ TurnOk size n xs H b cap cs
theorem mvS_le (size : Nat) (m : Mv) (n : Nat) : Le (mvS m n) (mvV size m n) := by
  cases m with
  | none => exact Le.nil _ _
  | some p => exact Le.refl _
theorem MvOk.see {size n : Nat} {xs : List AV} {H : Heap} {m : Mv} (h : MvOk size n xs H m) (hw : wide size xs) {M : Mem} (hat : ∀ b cs, (b, .cells cs) ∈ mvH m H → atL M cs b 0) : LeM M (mvV size m n) (.sl .no size xs) := by
  cases m with
  | none =>
    obtain ⟨_, rfl⟩ := h
    exact LeM.refl _
  | some p => exact h.2.see hw (hat _ _ (by simp [mvH]))
theorem mvH_mem {m : Mv} {H : Heap} {p : Nat × AObj} (h : p ∈ H) : p ∈ mvH m H := by
  cases m with
  | none => exact h
  | some p => exact List.mem_cons_of_mem _ h

set_option maxRecDepth 100000 in
set_option maxHeartbeats 1000000 in
/-- the new memory of the parts may turn -/
theorem freshA_con (t : Tm) (hN1 : t.nodes ≤ 1000000) (H : Heap) (Q : AV → Heap → Prop) (hq : ∀ m : Mv, MvOk 5 t.args.length (t.args.map tmA) H m → Q (.agg [.i t.kind, .i t.n, .str t.name, .sl .no 3 (t.levels.map lvA), mvV 5 m t.args.length]) (mvH m H)) : Con Tryz.prog 118 [tmX t] H Q := by
  have hnd := t.nodes_eq
  have hll := lvLen_nodes t.levels
  have htl := tmLen_nodes t.args
  refine con_of_awp (esc := ([43].contains ·)) tab_ok mixed Tryz.func118 rfl (ent Tryz.func118 (by kernel_rfl) rfl) (by kernel_rfl) ?_
  intro hw hn
  clear hw hn
  refine ⟨Option Cap × Nat, fun p => ⟨[(1, .lp 1 0), (2, .lp 2 0), (3, .lp 3 0), (16, .g (.sl .no 3 (t.levels.map lvA))), (17, .g (.i t.levels.length)), (18, .g (.i p.2))], [(3, [.i t.kind, .i t.n, .str t.name, .sl (ownQ p.1) 3 ((t.levels.take p.2).map lvA), .sl .full 0 []]), (2, [.i 0, .i 0, .str [], .sl .full 0 [], .sl .full 0 []]), (1, (tmX t).cells)], bufH p.1 H⟩,
    fun p => p.2 ≤ t.levels.length, fun p => t.levels.length - p.2, ⟨(none, 0), Nat.zero_le _, ?_⟩, ?_⟩
  · refine ⟨⟨⟨rfl, rfl⟩, ⟨rfl, rfl⟩, ⟨rfl, rfl⟩, Le.refl _, le_of_eq ?_, Le.refl _, trivial⟩, ⟨⟨rfl, ⟨Le.refl _, Le.refl _, Le.refl _, Le.nil' _, Le.refl _, trivial⟩⟩, ⟨rfl, LeL.refl _⟩, ⟨rfl, LeL.refl _⟩, trivial⟩, List.Sublist.refl _⟩
    show AV.i _ = AV.i _
    rw [List.length_map]
  · rintro ⟨q, j⟩ hj
    simp only at hj
    refine ifB_dec (fun h1 => ?_) (fun h1 => ?_)
    · simp only at h1
      have hlt : j < t.levels.length := by omega
      have hmem := Lv.nodesL_mem (List.getElem_mem hlt)
      have hsn : (t.levels.take j).map lvA ++ [lvX t.levels[j]] = (t.levels.take (j + 1)).map lvA := by rw [List.take_succ_eq_append_getElem hlt, List.map_append, ← lvA_eq]; rfl
      have hnext : ∀ c' : Cap, Le (.sl (.own c') 3 ((t.levels.take j).map lvA ++ [lvX t.levels[j]])) (.sl (ownQ (some c')) 3 ((t.levels.take (j + 1)).map lvA)) := fun c' => by rw [hsn]; exact Le.refl _
      refine ⟨j, rfl, _, lvAt hlt, ?_⟩
      refine ⟨[0, 1, 2, 3, 4, 5, 6, 7, 8], [], by kernel_rfl, by simp, ?_⟩
      refine ⟨_, LeL.refl _, Max1_con _ t.levels[j] (by omega) _ _ ?_⟩
      intro hz1 hz2; clear hz1 hz2
      refine ⟨?_, ?_⟩
      · simp only [List.length_map, List.length_cons, List.length_nil]
        try simp only [List.length_take]
        show _ * (40 + 1) ≤ _
        omega
      refine own_of (q := q) (H0 := H) ?_ ?_ ?_ (fun c hc => ?_)
      · exact rfl
      · exact rfl
      · exact fun _ h => h
      refine ⟨in64_of (by first | omega | (dsimp only; omega)) (by first | omega | (dsimp only; omega)), ?_⟩
      exact ⟨(some c, j + 1), (by simp only; omega), by (try dsimp only); omega, ⟨⟨⟨rfl, rfl⟩, ⟨rfl, rfl⟩, ⟨rfl, rfl⟩, Le.refl _, Le.refl _, Le.refl _, trivial⟩, ⟨⟨rfl, ⟨Le.refl _, Le.refl _, Le.refl _, hnext c, Le.refl _, trivial⟩⟩, ⟨rfl, LeL.refl _⟩, ⟨rfl, LeL.refl _⟩, trivial⟩, List.Sublist.refl _⟩⟩
    · simp only at h1
      have hj' : t.levels.length = j := by omega
      subst hj'
      have hlv : Le (.sl (ownQ q) 3 ((t.levels.take t.levels.length).map lvA)) (.sl .no 3 (t.levels.map lvA)) := Le.trans (ownQ_le _ _ _) (le_of_eq (by rw [List.take_length]))
      refine ⟨Mv × Nat, fun p => ⟨[(2, .lp 2 0), (3, .lp 3 0), (32, .g (.sl .no 5 (t.args.map tmA))), (33, .g (.i t.args.length)), (34, .g (.i p.2))], [(3, [.i t.kind, .i t.n, .str t.name, .sl .no 3 (t.levels.map lvA), mvS p.1 p.2]), (2, [.i 0, .i 0, .str [], .sl .full 0 [], .sl .full 0 []]), (1, (tmX t).cells)], mvH p.1 H⟩,
        fun p => p.2 ≤ t.args.length ∧ MvOk 5 p.2 ((t.args.take p.2).map tmA) H p.1, fun p => t.args.length - p.2, ⟨(none, 0), ⟨Nat.zero_le _, ⟨rfl, rfl⟩⟩, ?_⟩, ?_⟩
      · refine ⟨⟨⟨rfl, rfl⟩, ⟨rfl, rfl⟩, Le.refl _, le_of_eq ?_, Le.refl _, trivial⟩, ⟨⟨rfl, ⟨Le.refl _, Le.refl _, Le.refl _, hlv, Le.refl _, trivial⟩⟩, ⟨rfl, LeL.refl _⟩, ⟨rfl, LeL.refl _⟩, trivial⟩, bufH_sub q _⟩
        show AV.i _ = AV.i _
        rw [List.length_map]
      · rintro ⟨m, j⟩ ⟨hj, hz⟩
        simp only at hj hz
        refine ifB_dec (fun h1 => ?_) (fun h1 => ?_)
        · simp only at h1
          have hlt : j < t.args.length := by omega
          have hmem := Tm.nodesL_mem (List.getElem_mem hlt)
          have hsn : (t.args.take j).map tmA ++ [tmX t.args[j]] = (t.args.take (j + 1)).map tmA := by rw [List.take_succ_eq_append_getElem hlt, List.map_append, ← tmA_eq]; rfl
          refine ⟨j, rfl, _, tmAt' hlt, ?_⟩
          refine ⟨[0, 1, 2, 3, 4, 5, 6, 7], [], by kernel_rfl, by simp, ?_⟩
          refine ⟨_, LeL.refl _, fresh_con _ t.args[j] (Nat.le_refl _) (by omega) _ _ ?_⟩
          intro hz1 hz2; clear hz1 hz2
          cases m with
          | none =>
            have hj0 : j = 0 := hz.1
            subst hj0
            refine ⟨(by show (0 + 1) * (80 + 1) ≤ 140737488355328; decide), by simp, rfl, fun b cap rest k1 k2 k3 k4 => ?_⟩
            have hok : MvOk 5 1 ((t.args.take (0 + 1)).map tmA) H (some (b, cap, ([] ++ [tmX t.args[0]]).flatMap AV.cells ++ rest)) := by
              rw [← hsn]
              exact ⟨by decide, TurnOk.first rfl k1 k2 k3 k4⟩
            refine ⟨in64_of (by first | omega | (dsimp only; omega)) (by first | omega | (dsimp only; omega)), ?_⟩
            exact ⟨(some (b, cap, ([] ++ [tmX t.args[0]]).flatMap AV.cells ++ rest), 1), ⟨by simp only; omega, hok⟩, by (try dsimp only); omega, ⟨⟨⟨rfl, rfl⟩, ⟨rfl, rfl⟩, Le.refl _, Le.refl _, Le.refl _, trivial⟩, ⟨⟨rfl, ⟨Le.refl _, Le.refl _, Le.refl _, Le.refl _, Le.refl _, trivial⟩⟩, ⟨rfl, LeL.refl _⟩, ⟨rfl, LeL.refl _⟩, trivial⟩, List.Sublist.refl _⟩⟩
          | some p =>
            obtain ⟨b0, cap0, cs0⟩ := p
            obtain ⟨hj0, htk⟩ := hz
            refine ⟨?_, by simp, cs0, H, Heap.Rem.here, htk.le, htk.max, htk.room, fun b cap rest k1 k2 k3 k4 => ?_⟩
            · simp only [List.length_cons, List.length_nil]
              show _ * (80 + 1) ≤ _
              omega
            have hok : MvOk 5 (j + 1) ((t.args.take (j + 1)).map tmA) H (some (b, cap, cs0.take (j * 5) ++ [tmX t.args[j]].flatMap AV.cells ++ rest)) := by
              rw [← hsn]
              exact ⟨by omega, htk.next (wide_tms _) rfl k1 k2 k3 k4⟩
            refine ⟨in64_of (by first | omega | (dsimp only; omega)) (by first | omega | (dsimp only; omega)), ?_⟩
            exact ⟨(some (b, cap, cs0.take (j * 5) ++ [tmX t.args[j]].flatMap AV.cells ++ rest), j + 1), ⟨by simp only; omega, hok⟩, by (try dsimp only); omega, ⟨⟨⟨rfl, rfl⟩, ⟨rfl, rfl⟩, Le.refl _, Le.refl _, Le.refl _, trivial⟩, ⟨⟨rfl, ⟨Le.refl _, Le.refl _, Le.refl _, Le.refl _, Le.refl _, trivial⟩⟩, ⟨rfl, LeL.refl _⟩, ⟨rfl, LeL.refl _⟩, trivial⟩, List.Sublist.refl _⟩⟩
        · simp only at h1
          have hj' : t.args.length = j := by omega
          subst hj'
          rw [List.take_length] at hz
          have hfin : Le (.agg [.i t.kind, .i t.n, .str t.name, .sl .no 3 (t.levels.map lvA), mvS m t.args.length]) (.agg [.i t.kind, .i t.n, .str t.name, .sl .no 3 (t.levels.map lvA), mvV 5 m t.args.length]) := Le.agg ⟨Le.refl _, Le.refl _, Le.refl _, Le.refl _, mvS_le 5 m _, trivial⟩
          exact ⟨_, _, hfin, List.Sublist.refl _, hq m hz⟩
set_option maxRecDepth 100000 in
set_option maxHeartbeats 1000000 in
/-- the new memory of the levels may turn -/
theorem freshL_con (t : Tm) (hN1 : t.nodes ≤ 1000000) (H : Heap) (Q : AV → Heap → Prop) (hq : ∀ m : Mv, MvOk 3 t.levels.length (t.levels.map lvA) H m → Q (.agg [.i t.kind, .i t.n, .str t.name, mvV 3 m t.levels.length, .sl .no 5 (t.args.map tmA)]) (mvH m H)) : Con Tryz.prog 118 [tmX t] H Q := by
  have hnd := t.nodes_eq
  have hll := lvLen_nodes t.levels
  have htl := tmLen_nodes t.args
  refine con_of_awp (esc := ([28].contains ·)) tab_ok mixed Tryz.func118 rfl (ent Tryz.func118 (by kernel_rfl) rfl) (by kernel_rfl) ?_
  intro hw hn
  clear hw hn
  refine ⟨Mv × Nat, fun p => ⟨[(1, .lp 1 0), (2, .lp 2 0), (3, .lp 3 0), (16, .g (.sl .no 3 (t.levels.map lvA))), (17, .g (.i t.levels.length)), (18, .g (.i p.2))], [(3, [.i t.kind, .i t.n, .str t.name, mvS p.1 p.2, .sl .full 0 []]), (2, [.i 0, .i 0, .str [], .sl .full 0 [], .sl .full 0 []]), (1, (tmX t).cells)], mvH p.1 H⟩,
    fun p => p.2 ≤ t.levels.length ∧ MvOk 3 p.2 ((t.levels.take p.2).map lvA) H p.1, fun p => t.levels.length - p.2, ⟨(none, 0), ⟨Nat.zero_le _, ⟨rfl, rfl⟩⟩, ?_⟩, ?_⟩
  · refine ⟨⟨⟨rfl, rfl⟩, ⟨rfl, rfl⟩, ⟨rfl, rfl⟩, Le.refl _, le_of_eq ?_, Le.refl _, trivial⟩, ⟨⟨rfl, LeL.refl _⟩, ⟨rfl, LeL.refl _⟩, ⟨rfl, LeL.refl _⟩, trivial⟩, List.Sublist.refl _⟩
    show AV.i _ = AV.i _
    rw [List.length_map]
  · rintro ⟨m, j⟩ ⟨hj, hz⟩
    simp only at hj hz
    refine ifB_dec (fun h1 => ?_) (fun h1 => ?_)
    · simp only at h1
      have hlt : j < t.levels.length := by omega
      have hmem := Lv.nodesL_mem (List.getElem_mem hlt)
      have hsn : (t.levels.take j).map lvA ++ [lvX t.levels[j]] = (t.levels.take (j + 1)).map lvA := by rw [List.take_succ_eq_append_getElem hlt, List.map_append, ← lvA_eq]; rfl
      refine ⟨j, rfl, _, lvAt hlt, ?_⟩
      refine ⟨[0, 1, 2, 3, 4, 5, 6, 7, 8], [], by kernel_rfl, by simp, ?_⟩
      refine ⟨_, LeL.refl _, Max1_con _ t.levels[j] (by omega) _ _ ?_⟩
      intro hz1 hz2; clear hz1 hz2
      cases m with
      | none =>
        have hj0 : j = 0 := hz.1
        subst hj0
        refine ⟨(by show (0 + 1) * (40 + 1) ≤ 140737488355328; decide), by simp, rfl, fun b cap rest k1 k2 k3 k4 => ?_⟩
        have hok : MvOk 3 1 ((t.levels.take (0 + 1)).map lvA) H (some (b, cap, ([] ++ [lvX t.levels[0]]).flatMap AV.cells ++ rest)) := by
          rw [← hsn]
          exact ⟨by decide, TurnOk.first rfl k1 k2 k3 k4⟩
        refine ⟨in64_of (by first | omega | (dsimp only; omega)) (by first | omega | (dsimp only; omega)), ?_⟩
        exact ⟨(some (b, cap, ([] ++ [lvX t.levels[0]]).flatMap AV.cells ++ rest), 1), ⟨by simp only; omega, hok⟩, by (try dsimp only); omega, ⟨⟨⟨rfl, rfl⟩, ⟨rfl, rfl⟩, ⟨rfl, rfl⟩, Le.refl _, Le.refl _, Le.refl _, trivial⟩, ⟨⟨rfl, ⟨Le.refl _, Le.refl _, Le.refl _, Le.refl _, Le.refl _, trivial⟩⟩, ⟨rfl, LeL.refl _⟩, ⟨rfl, LeL.refl _⟩, trivial⟩, List.Sublist.refl _⟩⟩
      | some p =>
        obtain ⟨b0, cap0, cs0⟩ := p
        obtain ⟨hj0, htk⟩ := hz
        refine ⟨?_, by simp, cs0, H, Heap.Rem.here, htk.le, htk.max, htk.room, fun b cap rest k1 k2 k3 k4 => ?_⟩
        · simp only [List.length_cons, List.length_nil]
          show _ * (40 + 1) ≤ _
          omega
        have hok : MvOk 3 (j + 1) ((t.levels.take (j + 1)).map lvA) H (some (b, cap, cs0.take (j * 3) ++ [lvX t.levels[j]].flatMap AV.cells ++ rest)) := by
          rw [← hsn]
          exact ⟨by omega, htk.next (wide_lvs _) rfl k1 k2 k3 k4⟩
        refine ⟨in64_of (by first | omega | (dsimp only; omega)) (by first | omega | (dsimp only; omega)), ?_⟩
        exact ⟨(some (b, cap, cs0.take (j * 3) ++ [lvX t.levels[j]].flatMap AV.cells ++ rest), j + 1), ⟨by simp only; omega, hok⟩, by (try dsimp only); omega, ⟨⟨⟨rfl, rfl⟩, ⟨rfl, rfl⟩, ⟨rfl, rfl⟩, Le.refl _, Le.refl _, Le.refl _, trivial⟩, ⟨⟨rfl, ⟨Le.refl _, Le.refl _, Le.refl _, Le.refl _, Le.refl _, trivial⟩⟩, ⟨rfl, LeL.refl _⟩, ⟨rfl, LeL.refl _⟩, trivial⟩, List.Sublist.refl _⟩⟩
    · simp only at h1
      have hj' : t.levels.length = j := by omega
      subst hj'
      rw [List.take_length] at hz
      refine ⟨Option Cap × Nat, fun p => ⟨[(2, .lp 2 0), (3, .lp 3 0), (32, .g (.sl .no 5 (t.args.map tmA))), (33, .g (.i t.args.length)), (34, .g (.i p.2))], [(3, [.i t.kind, .i t.n, .str t.name, mvV 3 m t.levels.length, .sl (ownQ p.1) 5 ((t.args.take p.2).map tmA)]), (2, [.i 0, .i 0, .str [], .sl .full 0 [], .sl .full 0 []]), (1, (tmX t).cells)], bufH p.1 (mvH m H)⟩,
        fun p => p.2 ≤ t.args.length, fun p => t.args.length - p.2, ⟨(none, 0), Nat.zero_le _, ?_⟩, ?_⟩
      · refine ⟨⟨⟨rfl, rfl⟩, ⟨rfl, rfl⟩, Le.refl _, le_of_eq ?_, Le.refl _, trivial⟩, ⟨⟨rfl, ⟨Le.refl _, Le.refl _, Le.refl _, mvS_le 3 m _, Le.nil' _, trivial⟩⟩, ⟨rfl, LeL.refl _⟩, ⟨rfl, LeL.refl _⟩, trivial⟩, List.Sublist.refl _⟩
        show AV.i _ = AV.i _
        rw [List.length_map]
      · rintro ⟨q, j⟩ hj
        simp only at hj
        refine ifB_dec (fun h1 => ?_) (fun h1 => ?_)
        · simp only at h1
          have hlt : j < t.args.length := by omega
          have hmem := Tm.nodesL_mem (List.getElem_mem hlt)
          have hsn : (t.args.take j).map tmA ++ [tmX t.args[j]] = (t.args.take (j + 1)).map tmA := by rw [List.take_succ_eq_append_getElem hlt, List.map_append, ← tmA_eq]; rfl
          have hnext : ∀ c' : Cap, Le (.sl (.own c') 5 ((t.args.take j).map tmA ++ [tmX t.args[j]])) (.sl (ownQ (some c')) 5 ((t.args.take (j + 1)).map tmA)) := fun c' => by rw [hsn]; exact Le.refl _
          refine ⟨j, rfl, _, tmAt' hlt, ?_⟩
          refine ⟨[0, 1, 2, 3, 4, 5, 6, 7], [], by kernel_rfl, by simp, ?_⟩
          refine ⟨_, LeL.refl _, fresh_con _ t.args[j] (Nat.le_refl _) (by omega) _ _ ?_⟩
          intro hz1 hz2; clear hz1 hz2
          refine ⟨?_, ?_⟩
          · simp only [List.length_map, List.length_cons, List.length_nil]
            try simp only [List.length_take]
            show _ * (80 + 1) ≤ _
            omega
          refine own_of (q := q) (H0 := (mvH m H)) ?_ ?_ ?_ (fun c hc => ?_)
          · exact rfl
          · exact rfl
          · exact fun _ h => h
          refine ⟨in64_of (by first | omega | (dsimp only; omega)) (by first | omega | (dsimp only; omega)), ?_⟩
          exact ⟨(some c, j + 1), (by simp only; omega), by (try dsimp only); omega, ⟨⟨⟨rfl, rfl⟩, ⟨rfl, rfl⟩, Le.refl _, Le.refl _, Le.refl _, trivial⟩, ⟨⟨rfl, ⟨Le.refl _, Le.refl _, Le.refl _, Le.refl _, hnext c, trivial⟩⟩, ⟨rfl, LeL.refl _⟩, ⟨rfl, LeL.refl _⟩, trivial⟩, List.Sublist.refl _⟩⟩
        · simp only at h1
          have hj' : t.args.length = j := by omega
          subst hj'
          have hfin : Le (.agg [.i t.kind, .i t.n, .str t.name, mvV 3 m t.levels.length, .sl (ownQ q) 5 ((t.args.take t.args.length).map tmA)]) (.agg [.i t.kind, .i t.n, .str t.name, mvV 3 m t.levels.length, .sl .no 5 (t.args.map tmA)]) := Le.agg ⟨Le.refl _, Le.refl _, Le.refl _, Le.refl _, Le.trans (ownQ_le _ _ _) (le_of_eq (by rw [List.take_length])), trivial⟩
          exact ⟨_, _, hfin, bufH_sub q _, hq m hz⟩
set_option maxRecDepth 100000 in
theorem App0A_con (t : Tm) (hl : t.nodes ≤ 1000000) (H : Heap) (Q : AV → Heap → Prop) (hq : ∀ m : Mv, MvOk 5 t.args.length (t.args.map tmA) H m → Q (.agg [.i t.kind, .i t.n, .str t.name, .sl .no 3 (t.levels.map lvA), mvV 5 m t.args.length]) (mvH m H)) : Con Tryz.prog 54 [tmX t, .sl .full 0 []] H Q := by
  refine con_of_awp (esc := fun _ => false) tab_ok mixed Tryz.func54 rfl (ent Tryz.func54 (by kernel_rfl) rfl) (by kernel_rfl) ?_
  intro hw hn
  refine ⟨_, LeL.refl _, freshA_con t hl _ _ fun m hm => ?_⟩
  intro hz1 hz2; clear hz1 hz2
  refine ⟨Unit, fun _ => ⟨[(4, .lp 4 0), (5, .lp 5 0), (10, .g (.sl .full 0 [])), (11, .g (.i 0)), (12, .g (.i 0))], [(5, [.i t.kind, .i t.n, .str t.name, .sl .no 3 (t.levels.map lvA), mvV 5 m t.args.length]), (4, [.i 0, .i 0, .str [], .sl .full 0 [], .sl .full 0 []]), (2, (tmX t).cells)], mvH m H⟩, fun _ => True, fun _ => 0, ⟨(), trivial, ?_⟩, ?_⟩
  · exact ⟨⟨⟨rfl, rfl⟩, ⟨rfl, rfl⟩, Le.refl _, Le.refl _, Le.refl _, trivial⟩, ⟨⟨rfl, LeL.refl _⟩, ⟨rfl, LeL.refl _⟩, ⟨rfl, LeL.refl _⟩, trivial⟩, List.Sublist.refl _⟩
  · intro u hu
    exact ⟨_, _, Le.refl _, List.Sublist.refl _, hq m hm⟩
set_option maxRecDepth 100000 in
theorem App0L_con (t : Tm) (hl : t.nodes ≤ 1000000) (H : Heap) (Q : AV → Heap → Prop) (hq : ∀ m : Mv, MvOk 3 t.levels.length (t.levels.map lvA) H m → Q (.agg [.i t.kind, .i t.n, .str t.name, mvV 3 m t.levels.length, .sl .no 5 (t.args.map tmA)]) (mvH m H)) : Con Tryz.prog 54 [tmX t, .sl .full 0 []] H Q := by
  refine con_of_awp (esc := fun _ => false) tab_ok mixed Tryz.func54 rfl (ent Tryz.func54 (by kernel_rfl) rfl) (by kernel_rfl) ?_
  intro hw hn
  refine ⟨_, LeL.refl _, freshL_con t hl _ _ fun m hm => ?_⟩
  intro hz1 hz2; clear hz1 hz2
  refine ⟨Unit, fun _ => ⟨[(4, .lp 4 0), (5, .lp 5 0), (10, .g (.sl .full 0 [])), (11, .g (.i 0)), (12, .g (.i 0))], [(5, [.i t.kind, .i t.n, .str t.name, mvV 3 m t.levels.length, .sl .no 5 (t.args.map tmA)]), (4, [.i 0, .i 0, .str [], .sl .full 0 [], .sl .full 0 []]), (2, (tmX t).cells)], mvH m H⟩, fun _ => True, fun _ => 0, ⟨(), trivial, ?_⟩, ?_⟩
  · exact ⟨⟨⟨rfl, rfl⟩, ⟨rfl, rfl⟩, Le.refl _, Le.refl _, Le.refl _, trivial⟩, ⟨⟨rfl, LeL.refl _⟩, ⟨rfl, LeL.refl _⟩, ⟨rfl, LeL.refl _⟩, trivial⟩, List.Sublist.refl _⟩
  · intro u hu
    exact ⟨_, _, Le.refl _, List.Sublist.refl _, hq m hm⟩
set_option maxRecDepth 100000 in
theorem CloneSts2_con (ss : List (List UInt8)) (hl : ss.length ≤ 1000000) (H : Heap) (Q : AV → Heap → Prop) (h0 : ss = [] → Q (.sl .no 1 []) H) (h1 : ∀ b cap cs, ss.length ≠ 0 → TurnOk 1 ss.length (ss.map .str) H b cap cs → Q (hs b ss.length cap) ((b, .cells cs) :: H)) : Con Tryz.prog 65 [.sl .no 1 (ss.map .str)] H Q := by
  cases ss with
  | nil => exact CloneSts_con .no [] hl H Q (h0 rfl)
  | cons s0 ss0 =>
    obtain ⟨ss, hss⟩ : ∃ ss, ss = s0 :: ss0 := ⟨_, rfl⟩
    rw [← hss] at hl h0 h1 ⊢
    have hne : ss.length ≠ 0 := by rw [hss]; simp
    have e1 : ([] : List AV).length + (ss.map AV.str).length = ss.length := by simp
    have hfl := flat_len (wide_sts ss)
    refine con_of_awp (esc := ([7].contains ·)) tab_ok mixed Tryz.func65 rfl (ent Tryz.func65 (by kernel_rfl) rfl) (by kernel_rfl) ?_
    intro hw hn
    clear hw hn
    refine ifNil_or (fun h => ?_) (fun h => ?_)
    · have h0 : ss.length = 0 := by simpa using congrArg List.length h
      exact absurd h0 hne
    · refine ⟨?_, h, rfl, fun b cap rest k1 k2 k3 k4 => ?_⟩
      · simp only [List.length_map, List.length_nil]
        show _ * (16 + 1) ≤ _
        omega
      have k2' : ss.length ≤ cap := by rw [e1] at k2; exact k2
      have k4' : rest.length = cap - ss.length := by rw [e1] at k4; rw [k4]; exact Nat.mul_one _
      have hok : TurnOk 1 ss.length (ss.map .str) H b cap (([] ++ ss.map AV.str).flatMap AV.cells ++ rest) := by
        refine ⟨by simp, k1, k2', k3, ?_, ?_⟩
        · rw [List.nil_append, List.length_append, hfl, k4', List.length_map]; omega
        · rw [List.nil_append, List.take_left']
          rw [hfl, List.length_map]
      refine ⟨_, _, le_of_eq ?_, List.Sublist.refl _, h1 b cap _ hne hok⟩
      show hs b (([] : List AV).length + (ss.map AV.str).length) cap = hs b ss.length cap
      rw [e1]
def enM (e : En) (SA SL SC : AV) : AV := .agg [.i e.kind, .i e.params, .str e.name, .i e.type.kind, .i e.type.n, .str e.type.name, .sl .no 3 (e.type.levels.map lvA), SA, .i e.value.kind, .i e.value.n, .str e.value.name, SL, .sl .no 5 (e.value.args.map tmA), .i e.height, .str e.family, .i e.fixed, .i e.index, .i e.fields, SC]
set_option maxRecDepth 100000 in
set_option maxHeartbeats 1000000 in
theorem declClone2_con (e : En) (h1 : e.type.nodes ≤ 1000000) (h2 : e.value.nodes ≤ 1000000) (h3 : e.ctors.length ≤ 1000000) (H : Heap) (Q : AV → Heap → Prop)
    (hq : ∀ mA mL mC : Mv, MvOk 5 e.type.args.length (e.type.args.map tmA) H mA → MvOk 3 e.value.levels.length (e.value.levels.map lvA) (mvH mA H) mL → MvOk 1 e.ctors.length (e.ctors.map .str) (mvH mL (mvH mA H)) mC →
      Q (enM e (mvV 5 mA e.type.args.length) (mvV 3 mL e.value.levels.length) (mvV 1 mC e.ctors.length)) (mvH mC (mvH mL (mvH mA H)))) : Con Tryz.prog 14 [enX e] H Q := by
  refine con_of_awp (esc := fun _ => false) tab_ok mixed Tryz.func14 rfl (ent Tryz.func14 (by kernel_rfl) rfl) (by kernel_rfl) ?_
  intro hw hn
  refine ⟨[0, 1, 3, 4, 6, 7, 2, 9, 5, 8, 10, 11, 12, 13, 14], [], by kernel_rfl, by simp, ?_⟩
  refine ⟨_, LeL.refl _, App0A_con e.type h1 _ _ fun mA hA => ?_⟩
  intro hz1 hz2; clear hz1 hz2
  refine ⟨_, LeL.refl _, App0L_con e.value h2 _ _ fun mL hL => ?_⟩
  intro hz1 hz2; clear hz1 hz2
  refine ⟨_, LeL.refl _, CloneSts2_con e.ctors h3 _ _ (fun hC => ?_) (fun b cap cs hne hC => ?_)⟩
  · intro hz1 hz2; clear hz1 hz2
    exact ⟨_, _, Le.refl _, List.Sublist.refl _, hq mA mL none hA hL ⟨by rw [hC]; rfl, by rw [hC]; rfl⟩⟩
  · intro hz1 hz2; clear hz1 hz2
    exact ⟨_, _, Le.refl _, List.Sublist.refl _, hq mA mL (some (b, cap, cs)) hA hL ⟨hne, hC⟩⟩
end Go.Proofs.YtnjnfegafmhgnaaGreatDoor

/-
  ref04's Loose. No condition.
-/
namespace Go.Proofs.YtnjnfegafmhgnaaGreatDoor
open Go.RowKit

mutual
/-- how many variables a term needs, in deep binders -/
def tmLoose : Tm → Int → Int
  | .mk k n _ _ xs, deep => if k = 1 then max (n - deep + 1) 0 else tmLooseL k xs 0 deep
def tmLooseL (k : Int) : List Tm → Nat → Int → Int
  | [], _, _ => 0
  | t :: ts, i, deep => max (tmLoose t (if tmBind k i = true then deep + 1 else deep)) (tmLooseL k ts (i + 1) deep)
end
theorem tmLoose_eq (t : Tm) (deep : Int) : tmLoose t deep = if t.kind = 1 then max (t.n - deep + 1) 0 else tmLooseL t.kind t.args 0 deep := by cases t; rfl
theorem tmLooseL_nonneg (k : Int) : ∀ (ts : List Tm) (i : Nat) (deep : Int), 0 ≤ tmLooseL k ts i deep
  | [], _, _ => by rw [tmLooseL]; exact Int.le_refl _
  | t :: ts, i, deep => by rw [tmLooseL]; have := tmLooseL_nonneg k ts (i + 1) deep; omega
theorem tmLoose_nonneg (t : Tm) (deep : Int) : 0 ≤ tmLoose t deep := by
  rw [tmLoose_eq]
  split
  · omega
  · exact tmLooseL_nonneg _ _ _ _
theorem tmLooseL_at {k : Int} {ts : List Tm} {j : Nat} (h : j < ts.length) (deep : Int) : tmLooseL k (ts.drop j) j deep = max (tmLoose ts[j] (if tmBind k j = true then deep + 1 else deep)) (tmLooseL k (ts.drop (j + 1)) (j + 1) deep) := by
  rw [List.drop_eq_getElem_cons h, tmLooseL]
mutual
theorem tmLoose_fit (p : Int) : ∀ (t : Tm) (deep : Int), tmFit p t deep = true → tmLoose t deep = 0
  | .mk k n nm ls xs, deep, h => by
    rw [tmFit, Bool.and_eq_true, Bool.and_eq_true] at h
    rw [tmLoose]
    by_cases h1 : k = 1
    · rw [if_pos h1]
      have h2 := h.1.1
      unfold tmNode at h2
      rw [if_pos h1] at h2
      simp only [Bool.and_eq_true, decide_eq_true_eq] at h2
      omega
    · rw [if_neg h1]
      exact tmLooseL_fit p k xs 0 deep h.2
theorem tmLooseL_fit (p k : Int) : ∀ (ts : List Tm) (i : Nat) (deep : Int), tmFitL p k ts i deep = true → tmLooseL k ts i deep = 0
  | [], _, _, _ => rfl
  | t :: ts, i, deep, h => by
    rw [tmFitL, Bool.and_eq_true] at h
    rw [tmLooseL, tmLoose_fit p t _ h.1, tmLooseL_fit p k ts (i + 1) deep h.2]
    rfl
end
theorem tmFit_var {p vars : Int} {t : Tm} (h : tmFit p t vars = true) (h1 : t.kind = 1) : 0 ≤ t.n ∧ t.n < vars := by
  rw [tmFit_eq, Bool.and_eq_true, Bool.and_eq_true] at h
  have h2 := h.1.1
  unfold tmNode at h2
  rw [if_pos h1] at h2
  simp only [Bool.and_eq_true, decide_eq_true_eq] at h2
  omega
theorem tmFit_argL {p vars : Int} {t : Tm} (h : tmFit p t vars = true) : tmFitL p t.kind t.args 0 vars = true := by
  rw [tmFit_eq, Bool.and_eq_true] at h
  exact h.2

set_option maxRecDepth 100000 in
set_option maxHeartbeats 1000000 in
theorem ref04loose_con (p : Int) : ∀ (N : Nat) (l : Tm) (deep vars : Int), l.nodes ≤ N → tmFit p l vars = true → vars + N ≤ 4611686018427387904 → 0 ≤ deep → deep + N ≤ 4611686018427387904 → Ans Tryz.prog 80 [tmX l, .i deep] (.i (tmLoose l deep)) := by
  intro N
  induction N with
  | zero => intro l d v h; have := l.nodes_pos; omega
  | succ N ih =>
    intro l deep vars hN hfit hv hd0 hd1 H Q hq
    have hnd := l.nodes_eq
    have hl := tmLoose_eq l deep
    have hfl := tmFit_argL hfit
    refine con_of_awp (esc := fun _ => false) tab_ok mixed Tryz.func80 rfl (ent Tryz.func80 (by kernel_rfl) rfl) (by kernel_rfl) ?_
    intro hw hn
    have hlena := (hw (tmX l) (by simp)).targs
    clear hw hn
    refine ifB_dec (fun h1 => ?_) (fun h1 => ?_)
    · have hvn := tmFit_var hfit h1
      rw [if_pos h1] at hl
      refine ⟨in64_of (by first | omega | (dsimp only; omega)) (by first | omega | (dsimp only; omega)), ?_⟩
      refine ⟨in64_of (by first | omega | (dsimp only; omega)) (by first | omega | (dsimp only; omega)), ?_⟩
      exact ⟨_, H, ret_i hl.symm, List.Sublist.refl _, hq⟩
    · rw [if_neg h1] at hl
      refine ⟨Nat × Int, fun p => ⟨[(1, .g (.i deep)), (2, .lp 2 0), (4, .g (.i 0)), (5, .g (.i p.2)), (6, .g (.i p.1))], [(2, (tmX l).cells)], H⟩,
        fun q => q.1 ≤ l.args.length ∧ tmLooseL l.kind l.args 0 deep = max q.2 (tmLooseL l.kind (l.args.drop q.1) q.1 deep) ∧ tmFitL p l.kind (l.args.drop q.1) q.1 vars = true ∧ 0 ≤ q.2, fun q => l.args.length - q.1, ⟨(0, 0), ⟨Nat.zero_le _, ?_, hfl, Int.le_refl _⟩, ?_⟩, ?_⟩
      · have := tmLooseL_nonneg l.kind l.args 0 deep
        show _ = max 0 (tmLooseL l.kind l.args 0 deep)
        omega
      · (constructor <;> repeat' (first | exact trivial | exact ⟨rfl, rfl⟩ | exact ⟨rfl, LeL.refl _⟩ | exact Le.refl _ | exact List.Sublist.refl _ | (show Le (AV.i _) (AV.i _); rw [List.length_map]; exact Le.refl _) | refine And.intro ?_ ?_))
      · rintro ⟨j, out⟩ ⟨hj, hinv, hft, ho⟩
        simp only at hj hinv hft ho
        refine ifB_dec (fun h2 => ?_) (fun h2 => ?_)
        · simp only [List.length_map] at h2
          have hlt : j < l.args.length := by omega
          have hmem := Tm.nodesL_mem (List.getElem_mem hlt)
          rw [tmLooseL_at hlt] at hinv
          rw [tmFitL_at hlt, Bool.and_eq_true] at hft
          by_cases h3 : tmBind l.kind j = true
          · rw [if_pos h3] at hinv
            rw [if_pos h3] at hft
            refine ⟨_, LeL.refl _, (binds_con l.kind j).yes h3 _ _ ?_⟩
            intro hz1 hz2; clear hz1 hz2
            refine ⟨in64_of (by first | omega | (dsimp only; omega)) (by first | omega | (dsimp only; omega)), ?_⟩
            refine ⟨j, rfl, _, tmAt' hlt, ?_⟩
            refine ⟨_, LeL.refl _, ih l.args[j] (deep + 1) (vars + 1) (by omega) hft.1 (by omega) (by omega) (by omega) _ _ ?_⟩
            intro hz1 hz2; clear hz1 hz2
            refine ⟨in64_of (by first | omega | (dsimp only; omega)) (by first | omega | (dsimp only; omega)), ?_⟩
            refine ⟨(j + 1, max out (tmLoose l.args[j] (deep + 1))), ⟨by simp only; omega, ?_, hft.2, by simp only; omega⟩, by (try dsimp only); omega, ?_⟩
            · simp only
              rw [hinv]
              omega
            · (constructor <;> repeat' (first | exact trivial | exact ⟨rfl, rfl⟩ | exact ⟨rfl, LeL.refl _⟩ | exact Le.refl _ | exact List.Sublist.refl _ | (show Le (AV.i _) (AV.i _); rw [List.length_map]; exact Le.refl _) | refine And.intro ?_ ?_))
          · rw [if_neg h3] at hinv
            rw [if_neg h3] at hft
            refine ⟨_, LeL.refl _, (binds_con l.kind j).no h3 _ _ ?_⟩
            intro hz1 hz2; clear hz1 hz2
            refine ⟨j, rfl, _, tmAt' hlt, ?_⟩
            refine ⟨_, LeL.refl _, ih l.args[j] (deep) (vars) (by omega) hft.1 (by omega) (by omega) (by omega) _ _ ?_⟩
            intro hz1 hz2; clear hz1 hz2
            refine ⟨in64_of (by first | omega | (dsimp only; omega)) (by first | omega | (dsimp only; omega)), ?_⟩
            refine ⟨(j + 1, max out (tmLoose l.args[j] (deep))), ⟨by simp only; omega, ?_, hft.2, by simp only; omega⟩, by (try dsimp only); omega, ?_⟩
            · simp only
              rw [hinv]
              omega
            · (constructor <;> repeat' (first | exact trivial | exact ⟨rfl, rfl⟩ | exact ⟨rfl, LeL.refl _⟩ | exact Le.refl _ | exact List.Sublist.refl _ | (show Le (AV.i _) (AV.i _); rw [List.length_map]; exact Le.refl _) | refine And.intro ?_ ?_))
        · simp only [List.length_map] at h2
          have hj' : j = l.args.length := by omega
          rw [hj', List.drop_length, tmLooseL] at hinv
          exact ⟨_, H, ret_i (by rw [hl, hinv]; omega), List.Sublist.refl _, hq⟩
set_option maxRecDepth 100000 in
theorem ref04Loose_con (t : Tm) : Ans Tryz.prog 27 [tmX t] (.i (if tmRight 4 1125899906842624 t = true then tmLoose t 0 else 0)) := by
  intro H Q hq
  refine con_of_awp (esc := fun _ => false) tab_ok mixed Tryz.func27 rfl (ent Tryz.func27 (by kernel_rfl) rfl) (by kernel_rfl) ?_
  intro hw hn
  by_cases h1 : tmRight 4 1125899906842624 t = true
  · rw [if_pos h1] at hq
    have h2 := h1
    unfold tmRight at h2
    simp only [Bool.and_eq_true, decide_eq_true_eq] at h2
    refine ⟨_, LeL.refl _, (ref04Any_con t 4).yes h1 _ _ ?_⟩
    intro hz1 hz2; clear hz1 hz2
    refine ⟨_, LeL.refl _, ref04loose_con 4 _ t 0 _ (Nat.le_refl _) h2.2 (by omega) (by omega) (by omega) _ _ ?_⟩
    intro hz1 hz2; clear hz1 hz2
    exact ⟨_, H, Le.refl _, List.Sublist.refl _, hq⟩
  · rw [if_neg h1] at hq
    refine ⟨_, LeL.refl _, (ref04Any_con t 4).no h1 _ _ ?_⟩
    intro hz1 hz2; clear hz1 hz2
    exact ⟨_, H, Le.refl _, List.Sublist.refl _, hq⟩
theorem loose_zero {p : Int} {t : Tm} (h : tmRight p 0 t = true) : (if tmRight 4 1125899906842624 t = true then tmLoose t 0 else 0) = 0 := by
  split
  · unfold tmRight at h
    simp only [Bool.and_eq_true, decide_eq_true_eq] at h
    exact tmLoose_fit p t 0 h.2
  · rfl
end Go.Proofs.YtnjnfegafmhgnaaGreatDoor

/-
  DeclClones: the law's walk. No condition.
-/
namespace Go.Proofs.YtnjnfegafmhgnaaGreatDoor
open Go.RowKit

/-! one more, in 64 bits -/
def bump (n : Int) : Int := IntKind.i64.wrap (n + 1)
theorem bump_ne (n : Int) : bump n ≠ n := by
  unfold bump IntKind.wrap IntKind.bits IntKind.signed
  simp only [Bool.true_and, ge_iff_le, decide_eq_true_eq]
  split <;> omega
def bumpT (t : Tm) : Tm := .mk t.kind (bump t.n) t.name t.levels t.args
def bumpV (l : Lv) : Lv := .mk l.kind (bump l.n) l.args
def bumpTs : List Tm → List Tm
  | [] => []
  | t :: ts => bumpT t :: ts
def bumpLs : List Lv → List Lv
  | [] => []
  | t :: ts => bumpV t :: ts
theorem bumpTs_len : ∀ ts : List Tm, (bumpTs ts).length = ts.length
  | [] => rfl
  | _ :: _ => rfl
theorem bumpLs_len : ∀ ts : List Lv, (bumpLs ts).length = ts.length
  | [] => rfl
  | _ :: _ => rfl
theorem bumpTs_ne : ∀ {ts : List Tm}, bumpTs ts = ts → ts = []
  | [], _ => rfl
  | t :: ts, h => by
    have h1 := (List.cons.inj h).1
    have h2 := congrArg Tm.n h1
    exact absurd h2 (bump_ne t.n)
theorem bumpLs_ne : ∀ {ts : List Lv}, bumpLs ts = ts → ts = []
  | [], _ => rfl
  | t :: ts, h => by
    have h1 := (List.cons.inj h).1
    have h2 := congrArg Lv.n h1
    exact absurd h2 (bump_ne t.n)
def xS (s : List UInt8) : List UInt8 := s ++ [120]
theorem xS_ne : ∀ {ss : List (List UInt8)}, ss.map xS = ss → ss = []
  | [], _ => rfl
  | s :: ss, h => by
    have h1 := congrArg List.length (List.cons.inj h).1
    simp [xS] at h1
/-- the clone, behind the changes -/
def enC (e : En) : En := ⟨e.kind, e.params, e.name, .mk e.type.kind e.type.n e.type.name e.type.levels (bumpTs e.type.args), .mk e.value.kind e.value.n e.value.name (bumpLs e.value.levels) e.value.args, e.height, e.family, e.fixed, e.index, e.fields, e.ctors.map xS⟩
def chg (e : En) : Bool := decide (e.ctors.length ≠ 0) || (decide (e.type.args.length ≠ 0) || decide (e.value.levels.length ≠ 0))
theorem enC_eq (e : En) : enEq (enC e) e = !chg e := by
  rw [Bool.eq_iff_iff, enEq_iff]
  obtain ⟨k, p, nm, ⟨tk, tn, tnm, tls, tas⟩, ⟨vk, vn, vnm, vls, vas⟩, h, f, fi, ix, fl, cs⟩ := e
  simp only [enC, chg, En.mk.injEq, Tm.mk.injEq, Tm.kind, Tm.n, Tm.name, Tm.levels, Tm.args, true_and, and_true, Bool.not_eq_true', Bool.or_eq_false_iff, decide_eq_false_iff_not, Decidable.not_not]
  constructor
  · rintro ⟨h1, h2, h3⟩
    rw [bumpTs_ne h1, bumpLs_ne h2, xS_ne h3]
    exact ⟨rfl, rfl, rfl⟩
  · rintro ⟨h1, h2, h3⟩
    simp at h1 h2 h3
    subst h1 h2 h3
    exact ⟨rfl, rfl, rfl⟩

/-! memory that turned -/
theorem TurnOk.any {size n : Nat} {xs : List AV} {H H' : Heap} {b cap : Nat} {cs : List AV} (h : TurnOk size n xs H b cap cs) (hn : b ∉ H'.keys) : TurnOk size n xs H' b cap cs := ⟨h.len, hn, h.le, h.max, h.room, h.here⟩
theorem MvOk.nil {size n : Nat} {xs : List AV} {H : Heap} {m : Mv} (h : MvOk size n xs H m) : MvOk size n xs [] m := by
  cases m with
  | none => exact h
  | some p => exact ⟨h.1, h.2.any (by simp [Heap.keys])⟩
/-- the first part's cells -/
theorem TurnOk.tm {n : Nat} {t : Tm} {ts : List Tm} {b cap : Nat} {cs : List AV} (h : TurnOk 5 n ((t :: ts).map tmA) [] b cap cs) : ∃ r, cs = .i t.kind :: .i t.n :: .str t.name :: .sl .no 3 (t.levels.map lvA) :: .sl .no 5 (t.args.map tmA) :: r ∧ TurnOk 5 n ((bumpT t :: ts).map tmA) [] b cap (.i t.kind :: .i (bump t.n) :: .str t.name :: .sl .no 3 (t.levels.map lvA) :: .sl .no 5 (t.args.map tmA) :: r) := by
  have hl := h.len
  have hh := h.here
  have e1 : ∀ u : Tm, ((u :: ts).map tmA).flatMap AV.cells = .i u.kind :: .i u.n :: .str u.name :: .sl .no 3 (u.levels.map lvA) :: .sl .no 5 (u.args.map tmA) :: (ts.map tmA).flatMap AV.cells := fun u => by
    rw [List.map_cons, List.flatMap_cons, tmA_eq]; rfl
  rw [e1] at hh
  have e2 := List.take_append_drop (n * 5) cs
  rw [hh] at e2
  refine ⟨(ts.map tmA).flatMap AV.cells ++ cs.drop (n * 5), e2.symm, by simpa using hl, by simp [Heap.keys], h.le, h.max, ?_, ?_⟩
  · have := h.room
    rw [← e2] at this
    simpa using this
  · have hn : n * 5 = ((ts.map tmA).flatMap AV.cells).length + 5 := by
      rw [flat_len (wide_tms ts), ← hl]; simp; omega
    rw [e1, hn]
    simp [bumpT, Tm.kind, Tm.n, Tm.name, Tm.levels, Tm.args]
theorem TurnOk.lv {n : Nat} {t : Lv} {ts : List Lv} {b cap : Nat} {cs : List AV} (h : TurnOk 3 n ((t :: ts).map lvA) [] b cap cs) : ∃ r, cs = .i t.kind :: .i t.n :: .sl .no 3 (t.args.map lvA) :: r ∧ TurnOk 3 n ((bumpV t :: ts).map lvA) [] b cap (.i t.kind :: .i (bump t.n) :: .sl .no 3 (t.args.map lvA) :: r) := by
  have hl := h.len
  have hh := h.here
  have e1 : ∀ u : Lv, ((u :: ts).map lvA).flatMap AV.cells = .i u.kind :: .i u.n :: .sl .no 3 (u.args.map lvA) :: (ts.map lvA).flatMap AV.cells := fun u => by
    rw [List.map_cons, List.flatMap_cons, lvA_eq]; rfl
  rw [e1] at hh
  have e2 := List.take_append_drop (n * 3) cs
  rw [hh] at e2
  refine ⟨(ts.map lvA).flatMap AV.cells ++ cs.drop (n * 3), e2.symm, by simpa using hl, by simp [Heap.keys], h.le, h.max, ?_, ?_⟩
  · have := h.room
    rw [← e2] at this
    simpa using this
  · have hn : n * 3 = ((ts.map lvA).flatMap AV.cells).length + 3 := by
      rw [flat_len (wide_lvs ts), ← hl]; simp; omega
    rw [e1, hn]
    simp [bumpV, Lv.kind, Lv.n, Lv.args]
/-- one text more that is changed -/
theorem TurnOk.st {n : Nat} {us vs : List (List UInt8)} {s t : List UInt8} {b cap : Nat} {cs : List AV} (h : TurnOk 1 n ((us ++ s :: vs).map AV.str) [] b cap cs) : cs.drop (0 + us.length * 1) = .str s :: cs.drop (0 + us.length * 1 + 1) ∧ 0 + us.length * 1 + 1 ≤ cs.length ∧ TurnOk 1 n ((us ++ t :: vs).map AV.str) [] b cap (putCells cs (0 + us.length * 1) [.str t]) := by
  have hl := h.len
  have hh := h.here
  have hroom := h.room
  have hle := h.le
  have e1 : ∀ ws : List (List UInt8), (ws.map AV.str).flatMap AV.cells = ws.map AV.str := fun ws => by
    induction ws with
    | nil => rfl
    | cons w ws ih => rw [List.map_cons, List.flatMap_cons, ih]; rfl
  have e2 := List.take_append_drop (n * 1) cs
  rw [hh, e1] at e2
  have hl' : us.length + (vs.length + 1) = n := by simpa using hl
  obtain ⟨r, hr⟩ : ∃ r, r = cs.drop (n * 1) := ⟨_, rfl⟩
  rw [← hr] at e2
  simp only [List.map_append, List.map_cons, List.append_assoc, List.cons_append] at e2
  rw [← e2] at hroom
  simp only [Nat.zero_add, Nat.mul_one] at hroom ⊢
  have hul : (us.map AV.str).length = us.length := List.length_map _
  rw [← e2]
  have d1 : (us.map AV.str ++ AV.str s :: (vs.map AV.str ++ r)).drop us.length = AV.str s :: (vs.map AV.str ++ r) := by rw [List.drop_left' hul]
  have d2 : (us.map AV.str ++ AV.str s :: (vs.map AV.str ++ r)).drop (us.length + 1) = vs.map AV.str ++ r := by
    rw [← List.drop_drop, d1]; rfl
  have d3 : putCells (us.map AV.str ++ AV.str s :: (vs.map AV.str ++ r)) us.length [.str t] = us.map AV.str ++ AV.str t :: (vs.map AV.str ++ r) := by
    unfold putCells
    rw [List.take_left' hul, show us.length + ([AV.str t]).length = us.length + 1 from rfl, d2]
    simp
  refine ⟨by rw [d1, d2], by simp, ?_⟩
  rw [d3]
  refine ⟨by simpa using hl', by simp [Heap.keys], h.le, h.max, by simpa using hroom, ?_⟩
  rw [e1]
  have e3 : us.map AV.str ++ AV.str t :: (vs.map AV.str ++ r) = (us ++ t :: vs).map AV.str ++ r := by simp
  rw [e3, List.take_left']
  simp [hl']
theorem At.mv {b : Nat} {x y : AObj} {H H' : Heap} (h : Heap.At b x y H H') (m : Mv) : Heap.At b x y (mvH m H) (mvH m H') := by
  cases m with
  | none => exact h
  | some p => exact .there h
theorem rep_mv {L : Loc} {R : Heap} {b off : Nat} {cs : List AV} {f : List AV → Rs} {r : List AV} {K : T → Prop} (hin : (b, .cells cs) ∈ R) (hd : cs.drop off = r) (hk : (f r).run K) : (readR L R (.g (.ptr b off)) f).run K := ⟨cs, hin, by subst hd; exact hk⟩
end Go.Proofs.YtnjnfegafmhgnaaGreatDoor

/-
  DeclClones: the law's walk. No condition.
-/
namespace Go.Proofs.YtnjnfegafmhgnaaGreatDoor
open Go.RowKit

section
variable {P : Program} {N : Nat} {a b : Code} {Q : Exit → St → Prop} {s : St}
/-- a part of a code on its own; behind it the ways join -/
theorem sem_in {X : Type} (st : X → St) (I : X → Prop) (h : sem P N a (fun x s' => match x with
    | .normal => ∃ y, I y ∧ St.le s' (st y)
    | x => Q x s') s) (k : ∀ y, I y → sem P N b Q (st y)) : sem P N (.seq a b) Q s := fun hs B ac w hc => by
  simp only [slotsOk, Bool.and_eq_true] at hs
  refine wp_seq (wp_mono (h hs.1 B ac w hc) ?_)
  rintro e a' w' ⟨s', h1, h2⟩
  cases e with
  | normal =>
    obtain ⟨y, k1, k2⟩ := h2
    exact k y k1 hs.2 B a' w' (h1.le k2)
  | _ => exact ⟨s', h1, h2⟩
end
theorem MvOk.at {size n : Nat} {xs : List AV} {H : Heap} {m : Mv} (h : MvOk size n xs H m) (hw : wide size xs) {M : Mem} (hat : ∀ b cap cs, m = some (b, cap, cs) → atL M cs b 0) : LeM M (mvV size m n) (.sl .no size xs) := by
  cases m with
  | none =>
    obtain ⟨_, rfl⟩ := h
    exact LeM.refl _
  | some p => exact h.2.see hw (hat _ _ _ rfl)
theorem mvH_here {b cap : Nat} {cs : List AV} {H : Heap} : (b, AObj.cells cs) ∈ mvH (some (b, cap, cs)) H := by simp [mvH]
theorem run_at {f : List AV → Rs} {K : T → Prop} {a r : List AV} (hd : a = r) (h : (f r).run K) : (f a).run K := by subst hd; exact h
theorem mvH_sub (m : Mv) (H : Heap) : H.Sublist (mvH m H) := by
  cases m with
  | none => exact List.Sublist.refl _
  | some p => exact List.sublist_cons_self _ _
theorem enRight_type {e : En} (h : enRight e = true) : tmRight e.params 0 e.type = true := by
  unfold enRight at h
  simp only [Bool.and_eq_true] at h
  exact h.2.2.2.1
/-- the changed clone, looked at -/
theorem look_mv {e : En} {us : List Tm} {ls : List Lv} {cs : List (List UInt8)} {mA mL mC : Mv} {n1 n2 n3 : Nat} {H : Heap} (hA : MvOk 5 n1 (us.map tmA) [] mA) (hL : MvOk 3 n2 (ls.map lvA) [] mL) (hC : MvOk 1 n3 (cs.map .str) [] mC) {M : Mem} (hM : ∀ b cs, (b, .cells cs) ∈ mvH mC (mvH mL (mvH mA H)) → atL M cs b 0) :
    LeM M (enM e (mvV 5 mA n1) (mvV 3 mL n2) (mvV 1 mC n3)) (enX ⟨e.kind, e.params, e.name, .mk e.type.kind e.type.n e.type.name e.type.levels us, .mk e.value.kind e.value.n e.value.name ls e.value.args, e.height, e.family, e.fixed, e.index, e.fields, cs⟩) := by
  have a1 := hA.at (wide_tms us) (M := M) fun b cap cs h => hM b cs (mvH_mem (mvH_mem (by rw [h]; exact mvH_here)))
  have a2 := hL.at (wide_lvs ls) (M := M) fun b cap cs h => hM b cs (mvH_mem (by rw [h]; exact mvH_here))
  have a3 := hC.at (wide_sts cs) (M := M) fun b cap cs h => hM b cs (by rw [h]; exact mvH_here)
  exact LeM.agg ⟨LeM.refl _, LeM.refl _, LeM.refl _, LeM.refl _, LeM.refl _, LeM.refl _, LeM.refl _, a1, LeM.refl _, LeM.refl _, LeM.refl _, a2, LeM.refl _, LeM.refl _, LeM.refl _, LeM.refl _, LeM.refl _, LeM.refl _, a3, trivial⟩
set_option maxRecDepth 100000 in
theorem Great11_ors (e : En) (H : Heap) (Q : AV → Heap → Prop) (h1 : Q (.b true) H) (h0 : e.ctors.length ≤ 20 → e.type.big ≤ 2500 → e.value.big ≤ 2500 → (∀ s ∈ e.ctors, s.length ≤ 500) → Q (.b false) H) : Con Tryz.prog 11 [enX e] H Q :=
  Great11_con e H Q fun q => match q with
    | true => fun _ => h1
    | false => fun h => h0 (h rfl).1 (h rfl).2.2.1 (h rfl).2.2.2.1 (h rfl).2.2.2.2
theorem widen_ok : TabOk Tryz.prog tab.widen := tab_ok.widen
set_option maxRecDepth 100000 in
set_option maxHeartbeats 2000000 in
theorem declClones_con (e : En) : Ans Tryz.prog 4 [enX e] (.b true) := by
  intro H Q hq
  have fin : ∃ r H', Le (.b true) r ∧ List.Sublist H' H ∧ Q r H' := ⟨_, H, Le.refl _, List.Sublist.refl _, hq⟩
  have hnt := big_nodes e.type
  have hnv := big_nodes e.value
  obtain ⟨nA, hnA⟩ : ∃ n, n = e.type.args.length := ⟨_, rfl⟩
  obtain ⟨nL, hnL⟩ : ∃ n, n = e.value.levels.length := ⟨_, rfl⟩
  obtain ⟨nC, hnC⟩ : ∃ n, n = e.ctors.length := ⟨_, rfl⟩
  refine con_of_sem tab_ok Tryz.func4 rfl (ent Tryz.func4 (by kernel_rfl) rfl) (by kernel_rfl) ?_
  intro hw hn
  clear hw hn
  refine sem_seq (esc := fun _ => false) tab_ok mixed ?_
  refine sem_seq (esc := fun _ => false) tab_ok mixed ?_
  refine ⟨_, LeL.refl _, alive11_con _ _ ?_⟩
  intro hz1 hz2; clear hz1 hz2
  refine sem_seq (esc := fun _ => false) tab_ok mixed ?_
  refine ⟨_, LeL.refl _, Great11_ors e _ _ ?_ (fun b1 b2 b3 hcs => ?_)⟩
  · intro hz1 hz2; clear hz1 hz2
    exact fin
  intro hz1 hz2; clear hz1 hz2
  refine sem_seq (esc := fun _ => false) tab_ok mixed ?_
  refine ⟨[enX e], LeL.refl _, declClone2_con e (by omega) (by omega) (by omega) _ _ fun mA mL mC hA hL hC => ?_⟩
  intro hz1 hz2; clear hz1 hz2
  replace hA := hA.nil
  replace hL := hL.nil
  replace hC := hC.nil
  rw [← hnA] at hA
  rw [← hnL] at hL
  rw [← hnC] at hC
  refine sem_le ⟨[(1, .lp 1 0), (2, .g (.b false)), (3, .lp 3 0)], [(3, (enM e (mvV 5 mA nA) (mvV 3 mL nL) (mvV 1 mC nC)).cells), (1, (enX e).cells)], mvH mC (mvH mL (mvH mA H))⟩ ?_ ?_
  · exact ⟨⟨⟨rfl, rfl⟩, Le.refl _, ⟨rfl, rfl⟩, trivial⟩, ⟨⟨rfl, ⟨Le.refl _, Le.refl _, Le.refl _, Le.refl _, Le.refl _, Le.refl _, Le.refl _, le_of_eq (by rw [hnA]), Le.refl _, Le.refl _, Le.refl _, le_of_eq (by rw [hnL]), Le.refl _, Le.refl _, Le.refl _, Le.refl _, Le.refl _, Le.refl _, le_of_eq (by rw [hnC]), trivial⟩⟩, ⟨rfl, LeL.refl _⟩, trivial⟩, List.Sublist.refl _⟩
  refine sem_seq (esc := fun _ => false) tab_ok mixed ?_
  refine ⟨[enM e (mvV 5 mA nA) (mvV 3 mL nL) (mvV 1 mC nC), enX e], LeL.refl _, Con.look (args' := [enX e, enX e]) (q := true) ((declSame_con e e).as ((enEq_iff _ _).2 rfl)) (fun M hM => ⟨look_mv hA hL hC hM, LeM.refl _, trivial⟩) ?_⟩
  intro hz1 hz2; clear hz1 hz2
  refine ⟨[enM e (mvV 5 mA nA) (mvV 3 mL nL) (mvV 1 mC nC), enX e], LeL.refl _, Con.look (args' := [enX e, enX e]) (q := true) ((SameEntry_con e e).as ((enEq_iff _ _).2 rfl)) (fun M hM => ⟨look_mv hA hL hC hM, LeM.refl _, trivial⟩) ?_⟩
  intro hz1 hz2; clear hz1 hz2
  -- the texts
  refine sem_join (esc := fun _ => false) tab_ok mixed (X := Mv) (fun q => ⟨[(1, .lp 1 0), (2, .g (.b false)), (3, .lp 3 0)], [(3, (enM e (mvV 5 mA nA) (mvV 3 mL nL) (mvV 1 q nC)).cells), (1, (enX e).cells)], mvH q (mvH mL (mvH mA H))⟩) (fun q => MvOk 1 nC ((e.ctors.map xS).map .str) [] q) ?_ (fun mC' hC' => ?_)
  · cases mC with
    | none =>
      obtain ⟨hz, hz2⟩ := hC
      subst hz
      refine ⟨Unit, fun _ => ⟨[(1, .lp 1 0), (2, .g (.b false)), (3, .lp 3 0), (4, .g (.i 0))], [(3, (enM e (mvV 5 mA nA) (mvV 3 mL nL) (mvV 1 none 0)).cells), (1, (enX e).cells)], mvH none (mvH mL (mvH mA H))⟩, fun _ => True, fun _ => 0, ⟨(), trivial, ?_⟩, ?_⟩
      · (constructor <;> repeat' (first | exact trivial | exact ⟨rfl, rfl⟩ | exact ⟨rfl, LeL.refl _⟩ | exact Le.refl _ | exact List.Sublist.refl _ | (show Le (AV.i _) (AV.i _); rw [List.length_map]; exact Le.refl _) | refine And.intro ?_ ?_))
      · intro u hu
        refine ⟨none, ⟨rfl, ?_⟩, ?_⟩
        · rw [List.map_map, List.map_eq_nil_iff]
          simpa using hz2
        · (constructor <;> repeat' (first | exact trivial | exact ⟨rfl, rfl⟩ | exact ⟨rfl, LeL.refl _⟩ | exact Le.refl _ | exact List.Sublist.refl _ | (show Le (AV.i _) (AV.i _); rw [List.length_map]; exact Le.refl _) | refine And.intro ?_ ?_))
    | some p =>
      obtain ⟨b, cap, cs⟩ := p
      obtain ⟨hne, htk⟩ := hC
      refine ⟨Nat × List AV, fun p => ⟨[(1, .lp 1 0), (2, .g (.b false)), (3, .lp 3 0), (4, .g (.i p.1))], [(3, (enM e (mvV 5 mA nA) (mvV 3 mL nL) (hs b nC cap)).cells), (1, (enX e).cells)], (b, .cells p.2) :: mvH mL (mvH mA H)⟩, fun p => p.1 ≤ nC ∧ TurnOk 1 nC (((e.ctors.take p.1).map xS ++ e.ctors.drop p.1).map .str) [] b cap p.2, fun p => nC - p.1, ⟨(0, cs), ⟨Nat.zero_le _, by simpa using htk⟩, ?_⟩, ?_⟩
      · (constructor <;> repeat' (first | exact trivial | exact ⟨rfl, rfl⟩ | exact ⟨rfl, LeL.refl _⟩ | exact Le.refl _ | exact List.Sublist.refl _ | (show Le (AV.i _) (AV.i _); rw [List.length_map]; exact Le.refl _) | refine And.intro ?_ ?_))
      · rintro ⟨j, ds⟩ ⟨hj, htk⟩
        simp only at hj htk
        refine ifB_dec (fun h1 => ?_) (fun h1 => ?_)
        · have hlt : j < e.ctors.length := by omega
          rw [List.drop_eq_getElem_cons hlt] at htk
          have hul : ((e.ctors.take j).map xS).length = j := by simp; omega
          have h5 := hcs _ (List.getElem_mem hlt)
          obtain ⟨d1, d2, d3⟩ := htk.st (t := xS e.ctors[j])
          rw [hul] at d1 d2 d3
          have hd3 : (e.ctors.take j).map xS ++ xS e.ctors[j] :: e.ctors.drop (j + 1) = (e.ctors.take (j + 1)).map xS ++ e.ctors.drop (j + 1) := by rw [List.take_succ_eq_append_getElem hlt, List.map_append]; simp
          rw [hd3] at d3
          refine ⟨j, rfl, (by omega), ?_⟩
          refine ⟨ds, List.mem_cons_self .., run_at (f := partR tab 9) d1 ?_⟩
          refine ⟨(by show _ + 1 ≤ _; omega), ?_⟩
          refine ⟨j, rfl, (by omega), ?_⟩
          refine ⟨ds, (b, .cells (putCells ds (0 + j * 1) [.str (xS e.ctors[j])])) :: mvH mL (mvH mA H), Heap.At.here, d2, ?_⟩
          refine ⟨in64_of (by first | omega | (dsimp only; omega)) (by first | omega | (dsimp only; omega)), ?_⟩
          refine ⟨(j + 1, putCells ds (0 + j * 1) [.str (xS e.ctors[j])]), ⟨by simp only; omega, d3⟩, by (try dsimp only); omega, ?_⟩
          (constructor <;> repeat' (first | exact trivial | exact ⟨rfl, rfl⟩ | exact ⟨rfl, LeL.refl _⟩ | exact Le.refl _ | exact List.Sublist.refl _ | (show Le (AV.i _) (AV.i _); rw [List.length_map]; exact Le.refl _) | refine And.intro ?_ ?_))
        · have hj' : j = e.ctors.length := by omega
          rw [hj', List.take_length, List.drop_length, List.append_nil] at htk
          refine ⟨some (b, cap, ds), ⟨hne, htk⟩, ?_⟩
          (constructor <;> repeat' (first | exact trivial | exact ⟨rfl, rfl⟩ | exact ⟨rfl, LeL.refl _⟩ | exact Le.refl _ | exact List.Sublist.refl _ | (show Le (AV.i _) (AV.i _); rw [List.length_map]; exact Le.refl _) | refine And.intro ?_ ?_))
  -- the first part
  refine sem_in (X := Mv) (fun q => ⟨[(1, .lp 1 0), (2, .g (.b false)), (3, .lp 3 0)], [(3, (enM e (mvV 5 q nA) (mvV 3 mL nL) (mvV 1 mC' nC)).cells), (1, (enX e).cells)], mvH mC' (mvH mL (mvH q H))⟩) (fun q => MvOk 5 nA ((bumpTs e.type.args).map tmA) [] q) ?_ (fun mA' hA' => ?_)
  · cases mA with
    | none =>
      obtain ⟨hz, hz2⟩ := hA
      subst hz
      refine sem_seq (esc := fun _ => false) tab_ok mixed ?_
      refine sem_of (esc := fun _ => false) tab_ok mixed ?_
      refine ⟨none, ⟨rfl, ?_⟩, ?_⟩
      · have : e.type.args = [] := by simpa using hz2
        rw [this]; rfl
      · (constructor <;> repeat' (first | exact trivial | exact ⟨rfl, rfl⟩ | exact ⟨rfl, LeL.refl _⟩ | exact Le.refl _ | exact List.Sublist.refl _ | (show Le (AV.i _) (AV.i _); rw [List.length_map]; exact Le.refl _) | refine And.intro ?_ ?_))
    | some p =>
      obtain ⟨b, cap, cs⟩ := p
      obtain ⟨hne, htk⟩ := hA
      obtain ⟨t, ts, hts⟩ : ∃ t ts, e.type.args = t :: ts := by
        cases ht : e.type.args with
        | nil => rw [ht] at hnA; exact absurd hnA hne
        | cons t ts => exact ⟨t, ts, rfl⟩
      rw [hts] at htk
      obtain ⟨r, rfl, hnew⟩ := htk.tm
      refine sem_seq (esc := fun _ => false) tab_ok mixed ?_
      refine ifB_t (show (0 : Int) < nA by omega) ?_
      refine sem_of (esc := fun _ => false) widen_ok mixed ?_
      refine ⟨0, rfl, (by omega), ?_⟩
      refine ⟨_, mvH_mem (mvH_mem (List.mem_cons_self ..)), ?_⟩
      refine ⟨0, rfl, (by omega), ?_⟩
      refine ⟨_, mvH mC' (mvH mL ((b, .cells (.i t.kind :: .i (bump t.n) :: .str t.name :: .sl .no 3 (t.levels.map lvA) :: .sl .no 5 (t.args.map tmA) :: r)) :: H)), (At.mv (At.mv Heap.At.here mL) mC'), (by show 1 + 1 ≤ List.length _; simp only [List.length_cons]; omega), ?_⟩
      refine ⟨some (b, cap, .i t.kind :: .i (bump t.n) :: .str t.name :: .sl .no 3 (t.levels.map lvA) :: .sl .no 5 (t.args.map tmA) :: r), ⟨hne, by rw [hts]; exact hnew⟩, ?_⟩
      (constructor <;> repeat' (first | exact trivial | exact ⟨rfl, rfl⟩ | exact ⟨rfl, LeL.refl _⟩ | exact Le.refl _ | exact List.Sublist.refl _ | (show Le (AV.i _) (AV.i _); rw [List.length_map]; exact Le.refl _) | refine And.intro ?_ ?_))
  refine sem_in (X := Mv) (fun q => ⟨[(1, .lp 1 0), (2, .g (.b false)), (3, .lp 3 0)], [(3, (enM e (mvV 5 mA' nA) (mvV 3 q nL) (mvV 1 mC' nC)).cells), (1, (enX e).cells)], mvH mC' (mvH q (mvH mA' H))⟩) (fun q => MvOk 3 nL ((bumpLs e.value.levels).map lvA) [] q) ?_ (fun mL' hL' => ?_)
  · cases mL with
    | none =>
      obtain ⟨hz, hz2⟩ := hL
      subst hz
      refine sem_seq (esc := fun _ => false) tab_ok mixed ?_
      refine sem_of (esc := fun _ => false) tab_ok mixed ?_
      refine ⟨none, ⟨rfl, ?_⟩, ?_⟩
      · have : e.value.levels = [] := by simpa using hz2
        rw [this]; rfl
      · (constructor <;> repeat' (first | exact trivial | exact ⟨rfl, rfl⟩ | exact ⟨rfl, LeL.refl _⟩ | exact Le.refl _ | exact List.Sublist.refl _ | (show Le (AV.i _) (AV.i _); rw [List.length_map]; exact Le.refl _) | refine And.intro ?_ ?_))
    | some p =>
      obtain ⟨b, cap, cs⟩ := p
      obtain ⟨hne, htk⟩ := hL
      obtain ⟨t, ts, hts⟩ : ∃ t ts, e.value.levels = t :: ts := by
        cases ht : e.value.levels with
        | nil => rw [ht] at hnL; exact absurd hnL hne
        | cons t ts => exact ⟨t, ts, rfl⟩
      rw [hts] at htk
      obtain ⟨r, rfl, hnew⟩ := htk.lv
      refine sem_seq (esc := fun _ => false) tab_ok mixed ?_
      refine ifB_t (show (0 : Int) < nL by omega) ?_
      refine sem_of (esc := fun _ => false) widen_ok mixed ?_
      refine ⟨0, rfl, (by omega), ?_⟩
      refine ⟨_, mvH_mem (List.mem_cons_self ..), ?_⟩
      refine ⟨0, rfl, (by omega), ?_⟩
      refine ⟨_, mvH mC' ((b, .cells (.i t.kind :: .i (bump t.n) :: .sl .no 3 (t.args.map lvA) :: r)) :: mvH mA' H), (At.mv Heap.At.here mC'), (by show 1 + 1 ≤ List.length _; simp only [List.length_cons]; omega), ?_⟩
      refine ⟨some (b, cap, .i t.kind :: .i (bump t.n) :: .sl .no 3 (t.args.map lvA) :: r), ⟨hne, by rw [hts]; exact hnew⟩, ?_⟩
      (constructor <;> repeat' (first | exact trivial | exact ⟨rfl, rfl⟩ | exact ⟨rfl, LeL.refl _⟩ | exact Le.refl _ | exact List.Sublist.refl _ | (show Le (AV.i _) (AV.i _); rw [List.length_map]; exact Le.refl _) | refine And.intro ?_ ?_))
  -- was anything changed
  refine sem_join (esc := fun _ => false) tab_ok mixed (X := Bool) (fun q => ⟨[(1, .lp 1 0), (2, .g (.b false)), (3, .lp 3 0), (5, .g (.b q))], [(3, (enM e (mvV 5 mA' nA) (mvV 3 mL' nL) (mvV 1 mC' nC)).cells), (1, (enX e).cells)], mvH mC' (mvH mL' (mvH mA' H))⟩) (fun q => q = chg e) ?_ (fun q hq5 => ?_)
  · unfold chg
    rw [← hnC, ← hnA, ← hnL]
    cases mC' with
    | some p =>
      have hc := hC'.1
      refine ifB_t (show (0 : Int) < nC by omega) ?_
      refine ⟨true, by rw [decide_eq_true hc]; rfl, ?_⟩
      (constructor <;> repeat' (first | exact trivial | exact ⟨rfl, rfl⟩ | exact ⟨rfl, LeL.refl _⟩ | exact Le.refl _ | exact List.Sublist.refl _ | (show Le (AV.i _) (AV.i _); rw [List.length_map]; exact Le.refl _) | refine And.intro ?_ ?_))
    | none =>
      have hc := hC'.1
      subst hc
      cases mA' with
      | some p =>
        have hc := hA'.1
        refine ifB_t (show (0 : Int) < nA by omega) ?_
        refine ⟨true, by rw [decide_eq_true hc]; rfl, ?_⟩
        (constructor <;> repeat' (first | exact trivial | exact ⟨rfl, rfl⟩ | exact ⟨rfl, LeL.refl _⟩ | exact Le.refl _ | exact List.Sublist.refl _ | (show Le (AV.i _) (AV.i _); rw [List.length_map]; exact Le.refl _) | refine And.intro ?_ ?_))
      | none =>
        have hc := hA'.1
        subst hc
        cases mL' with
        | some p =>
          have hc := hL'.1
          refine ifB_t (show (0 : Int) < nL by omega) ?_
          refine ⟨true, by rw [decide_eq_true hc]; rfl, ?_⟩
          (constructor <;> repeat' (first | exact trivial | exact ⟨rfl, rfl⟩ | exact ⟨rfl, LeL.refl _⟩ | exact Le.refl _ | exact List.Sublist.refl _ | (show Le (AV.i _) (AV.i _); rw [List.length_map]; exact Le.refl _) | refine And.intro ?_ ?_))
        | none =>
          have hc := hL'.1
          subst hc
          refine ⟨false, rfl, ?_⟩
          (constructor <;> repeat' (first | exact trivial | exact ⟨rfl, rfl⟩ | exact ⟨rfl, LeL.refl _⟩ | exact Le.refl _ | exact List.Sublist.refl _ | (show Le (AV.i _) (AV.i _); rw [List.length_map]; exact Le.refl _) | refine And.intro ?_ ?_))
  have hsame := enC_eq e
  rw [← hq5] at hsame
  refine sem_of (esc := fun _ => false) tab_ok mixed ?_
  refine ⟨[enM e (mvV 5 mA' nA) (mvV 3 mL' nL) (mvV 1 mC' nC), enX e], LeL.refl _, Con.look (args' := [enX (enC e), enX e]) (q := !q) ((declSame_con (enC e) e).as hsame) (fun M hM => ⟨look_mv hA' hL' hC' hM, LeM.refl _, trivial⟩) ?_⟩
  intro hz1 hz2; clear hz1 hz2
  have fin2 : ∀ H0 : Heap, H.Sublist H0 → ∃ r H', Le (.b true) r ∧ List.Sublist H' H0 ∧ Q r H' := fun H0 h0 => ⟨_, H, Le.refl _, h0, hq⟩
  have hsub : H.Sublist (mvH mC' (mvH mL' (mvH mA' H))) := (mvH_sub mA' H).trans ((mvH_sub mL' _).trans (mvH_sub mC' _))
  cases q with
  | false =>
    by_cases h1 : enRight e = true
    · refine ⟨_, LeL.refl _, (declRight_con e).yes h1 _ _ ?_⟩
      intro hz1 hz2; clear hz1 hz2
      have hz := loose_zero (enRight_type h1)
      refine ⟨_, LeL.refl _, (ref04Loose_con e.type).to (congrArg AV.i hz) _ _ ?_⟩
      intro hz1 hz2; clear hz1 hz2
      exact fin2 _ hsub
    · refine ⟨_, LeL.refl _, (declRight_con e).no h1 _ _ ?_⟩
      intro hz1 hz2; clear hz1 hz2
      exact fin2 _ hsub
  | true =>
    by_cases h1 : enRight e = true
    · refine ⟨_, LeL.refl _, (declRight_con e).yes h1 _ _ ?_⟩
      intro hz1 hz2; clear hz1 hz2
      have hz := loose_zero (enRight_type h1)
      refine ⟨_, LeL.refl _, (ref04Loose_con e.type).to (congrArg AV.i hz) _ _ ?_⟩
      intro hz1 hz2; clear hz1 hz2
      exact fin2 _ hsub
    · refine ⟨_, LeL.refl _, (declRight_con e).no h1 _ _ ?_⟩
      intro hz1 hz2; clear hz1 hz2
      exact fin2 _ hsub
end Go.Proofs.YtnjnfegafmhgnaaGreatDoor
