/-
  Texts put together: H15. No condition.
-/
import Derived.Test.YtaldgcnhmnfocaaGreatDoorM13
import Derived.Test.YtaldgcnhmnfocaaGreatDoorM12
/-
  decl.Clone, whose new memory may turn later: term's fresh, App of nothing, slices.Clone. No condition.
-/
namespace Go.Proofs.YtaldgcnhmnfocaaGreatDoor
open Go.RowKit

theorem flat_len {size : Nat} : ∀ {xs : List AV}, wide size xs → (xs.flatMap AV.cells).length = xs.length * size
  | [], _ => by simp
  | x :: xs, h => by
    have h1 := h.2 x (by simp)
    have h2 : wide size xs := ⟨fun hs => (by have := h.1 hs; cases this), fun y hy => h.2 y (List.mem_cons_of_mem _ hy)⟩
    rw [List.flatMap_cons, List.length_append, h1, flat_len h2, List.length_cons, Nat.add_mul, Nat.one_mul, Nat.add_comm]
theorem wide_tms (ts : List Tm) : wide 5 (ts.map tmA) := ⟨fun h => (by cases h), fun y hy => by
  obtain ⟨t, _, rfl⟩ := List.mem_map.1 hy
  rw [tmA_eq]
  rfl⟩
theorem wide_lvs (ts : List Lv) : wide 3 (ts.map lvA) := ⟨fun h => (by cases h), fun y hy => by
  obtain ⟨t, _, rfl⟩ := List.mem_map.1 hy
  rw [lvA_eq]
  rfl⟩
theorem wide_sts (ts : List (List UInt8)) : wide 1 (ts.map AV.str) := ⟨fun h => (by cases h), fun y hy => by
  obtain ⟨t, _, rfl⟩ := List.mem_map.1 hy
  rfl⟩
/-- what stands in memory that may turn -/
structure TurnOk (size n : Nat) (xs : List AV) (H : Heap) (b cap : Nat) (cs : List AV) : Prop where
  len : xs.length = n
  out : b ∉ H.keys
  le : n ≤ cap
  max : cap ≤ maxLen
  room : cap * size ≤ cs.length
  here : cs.take (n * size) = xs.flatMap AV.cells
theorem TurnOk.first {size : Nat} {y : AV} {H : Heap} {b cap : Nat} {rest : List AV} (hy : y.cells.length = size) (h0 : b ∉ H.keys) (h1 : 0 + 1 ≤ cap) (h2 : cap ≤ maxLen) (h3 : rest.length = (cap - (0 + 1)) * size) : TurnOk size 1 [y] H b cap (([] ++ [y]).flatMap AV.cells ++ rest) := by
  have e : (([] ++ [y]).flatMap AV.cells ++ rest) = y.cells ++ rest := by simp
  rw [e]
  refine ⟨rfl, h0, h1, h2, ?_, ?_⟩
  · obtain ⟨c, rfl⟩ : ∃ c, cap = c + 1 := ⟨cap - 1, by omega⟩
    rw [List.length_append, hy, h3, Nat.add_mul]
    simp
    omega
  · rw [Nat.one_mul, ← hy, List.take_left']
    · simp
    · rfl
theorem TurnOk.next {size n : Nat} {xs : List AV} {y : AV} {H : Heap} {b0 cap0 : Nat} {cs : List AV} (h : TurnOk size n xs H b0 cap0 cs) (hw : wide size xs) {b cap : Nat} {rest : List AV} (hy : y.cells.length = size) (k1 : b ∉ H.keys) (k2 : n + 1 ≤ cap) (k3 : cap ≤ maxLen) (k4 : cap * size ≤ (n + 1) * size + rest.length) :
    TurnOk size (n + 1) (xs ++ [y]) H b cap (cs.take (n * size) ++ [y].flatMap AV.cells ++ rest) := by
  have hl : (xs.flatMap AV.cells).length = n * size := by rw [flat_len hw, h.len]
  have hl1 : (([y] : List AV).flatMap AV.cells).length = size := by simp [hy]
  refine ⟨by simp [h.len], k1, k2, k3, ?_, ?_⟩
  · rw [List.length_append, List.length_append, h.here, hl, hl1, ← Nat.succ_mul]
    exact k4
  · rw [h.here, ← List.flatMap_append, List.take_left']
    rw [List.flatMap_append, List.length_append, hl, hl1, Nat.add_mul, Nat.one_mul]
theorem TurnOk.see {size n : Nat} {xs : List AV} {H : Heap} {b cap : Nat} {cs : List AV} (h : TurnOk size n xs H b cap cs) (hw : wide size xs) {M : Mem} (hat : atL M cs b 0) : LeM M (hs b n cap) (.sl .no size xs) := by
  have e : xs.flatMap AV.cells ++ cs.drop (n * size) = cs := by rw [← h.here, List.take_append_drop]
  rw [← e] at hat
  exact hs_ice hat h.len.symm h.le h.max hw
/-- an owned slice that may turn later -/
abbrev Mv := Option (Nat × Nat × List AV)
def mvV (size : Nat) (m : Mv) (n : Nat) : AV :=
  match m with
  | none => .sl .no size []
  | some (b, cap, _) => hs b n cap
def mvS (m : Mv) (n : Nat) : AV :=
  match m with
  | none => .sl .full 0 []
  | some (b, cap, _) => hs b n cap
def mvH (m : Mv) (H : Heap) : Heap :=
  match m with
  | none => H
  | some (b, _, cs) => (b, .cells cs) :: H
def MvOk (size n : Nat) (xs : List AV) (H : Heap) : Mv → Prop
  | none => n = 0 ∧ xs = []
  | some (b, cap, cs) => n ≠ 0 ∧ TurnOk size n xs H b cap cs
theorem mvS_le (size : Nat) (m : Mv) (n : Nat) : Le (mvS m n) (mvV size m n) := by
  cases m with
  | none => exact Le.nil _ _
  | some p => exact Le.refl _
theorem MvOk.see {size n : Nat} {xs : List AV} {H : Heap} {m : Mv} (h : MvOk size n xs H m) (hw : wide size xs) {M : Mem} (hat : ∀ b cs, (b, .cells cs) ∈ mvH m H → atL M cs b 0) : LeM M (mvV size m n) (.sl .no size xs) := by
  cases m with
  | none =>
    obtain ⟨_, rfl⟩ := h
    exact LeM.refl _
  | some p => exact h.2.see hw (hat _ _ (by simp [mvH]))
theorem mvH_mem {m : Mv} {H : Heap} {p : Nat × AObj} (h : p ∈ H) : p ∈ mvH m H := by
  cases m with
  | none => exact h
  | some p => exact List.mem_cons_of_mem _ h

set_option maxRecDepth 100000 in
set_option maxHeartbeats 1000000 in
/-- the new memory of the parts may turn -/
theorem freshA_con (t : Tm) (hN1 : t.nodes ≤ 1000000) (H : Heap) (Q : AV → Heap → Prop) (hq : ∀ m : Mv, MvOk 5 t.args.length (t.args.map tmA) H m → Q (.agg [.i t.kind, .i t.n, .str t.name, .sl .no 3 (t.levels.map lvA), mvV 5 m t.args.length]) (mvH m H)) : Con Tryz.prog 104 [tmX t] H Q := by
  have hnd := t.nodes_eq
  have hll := lvLen_nodes t.levels
  have htl := tmLen_nodes t.args
  refine con_of_awp (esc := ([43].contains ·)) tab_ok mixed Tryz.func104 rfl (ent Tryz.func104 (by kernel_rfl) rfl) (by kernel_rfl) ?_
  intro hw hn
  clear hw hn
  refine ⟨Option Cap × Nat, fun p => ⟨[(1, .lp 1 0), (2, .lp 2 0), (3, .lp 3 0), (16, .g (.sl .no 3 (t.levels.map lvA))), (17, .g (.i t.levels.length)), (18, .g (.i p.2))], [(3, [.i t.kind, .i t.n, .str t.name, .sl (ownQ p.1) 3 ((t.levels.take p.2).map lvA), .sl .full 0 []]), (2, [.i 0, .i 0, .str [], .sl .full 0 [], .sl .full 0 []]), (1, (tmX t).cells)], bufH p.1 H⟩,
    fun p => p.2 ≤ t.levels.length, fun p => t.levels.length - p.2, ⟨(none, 0), Nat.zero_le _, ?_⟩, ?_⟩
  · refine ⟨⟨⟨rfl, rfl⟩, ⟨rfl, rfl⟩, ⟨rfl, rfl⟩, Le.refl _, le_of_eq ?_, Le.refl _, trivial⟩, ⟨⟨rfl, ⟨Le.refl _, Le.refl _, Le.refl _, Le.nil' _, Le.refl _, trivial⟩⟩, ⟨rfl, LeL.refl _⟩, ⟨rfl, LeL.refl _⟩, trivial⟩, List.Sublist.refl _⟩
    show AV.i _ = AV.i _
    rw [List.length_map]
  · rintro ⟨q, j⟩ hj
    simp only at hj
    refine ifB_dec (fun h1 => ?_) (fun h1 => ?_)
    · simp only at h1
      have hlt : j < t.levels.length := by omega
      have hmem := Lv.nodesL_mem (List.getElem_mem hlt)
      have hsn : (t.levels.take j).map lvA ++ [lvX t.levels[j]] = (t.levels.take (j + 1)).map lvA := by rw [List.take_succ_eq_append_getElem hlt, List.map_append, ← lvA_eq]; rfl
      have hnext : ∀ c' : Cap, Le (.sl (.own c') 3 ((t.levels.take j).map lvA ++ [lvX t.levels[j]])) (.sl (ownQ (some c')) 3 ((t.levels.take (j + 1)).map lvA)) := fun c' => by rw [hsn]; exact Le.refl _
      refine ⟨j, rfl, _, lvAt hlt, ?_⟩
      refine ⟨[0, 1, 2, 3, 4, 5, 6, 7, 8], [], by kernel_rfl, by simp, ?_⟩
      refine ⟨_, LeL.refl _, Max1_con _ t.levels[j] (by omega) _ _ ?_⟩
      intro hz1 hz2; clear hz1 hz2
      refine ⟨?_, ?_⟩
      · simp only [List.length_map, List.length_cons, List.length_nil]
        try simp only [List.length_take]
        show _ * (40 + 1) ≤ _
        omega
      refine own_of (q := q) (H0 := H) ?_ ?_ ?_ (fun c hc => ?_)
      · exact rfl
      · exact rfl
      · exact fun _ h => h
      refine ⟨in64_of (by first | omega | (dsimp only; omega)) (by first | omega | (dsimp only; omega)), ?_⟩
      exact ⟨(some c, j + 1), (by simp only; omega), by (try dsimp only); omega, ⟨⟨⟨rfl, rfl⟩, ⟨rfl, rfl⟩, ⟨rfl, rfl⟩, Le.refl _, Le.refl _, Le.refl _, trivial⟩, ⟨⟨rfl, ⟨Le.refl _, Le.refl _, Le.refl _, hnext c, Le.refl _, trivial⟩⟩, ⟨rfl, LeL.refl _⟩, ⟨rfl, LeL.refl _⟩, trivial⟩, List.Sublist.refl _⟩⟩
    · simp only at h1
      have hj' : t.levels.length = j := by omega
      subst hj'
      have hlv : Le (.sl (ownQ q) 3 ((t.levels.take t.levels.length).map lvA)) (.sl .no 3 (t.levels.map lvA)) := Le.trans (ownQ_le _ _ _) (le_of_eq (by rw [List.take_length]))
      refine ⟨Mv × Nat, fun p => ⟨[(2, .lp 2 0), (3, .lp 3 0), (32, .g (.sl .no 5 (t.args.map tmA))), (33, .g (.i t.args.length)), (34, .g (.i p.2))], [(3, [.i t.kind, .i t.n, .str t.name, .sl .no 3 (t.levels.map lvA), mvS p.1 p.2]), (2, [.i 0, .i 0, .str [], .sl .full 0 [], .sl .full 0 []]), (1, (tmX t).cells)], mvH p.1 H⟩,
        fun p => p.2 ≤ t.args.length ∧ MvOk 5 p.2 ((t.args.take p.2).map tmA) H p.1, fun p => t.args.length - p.2, ⟨(none, 0), ⟨Nat.zero_le _, ⟨rfl, rfl⟩⟩, ?_⟩, ?_⟩
      · refine ⟨⟨⟨rfl, rfl⟩, ⟨rfl, rfl⟩, Le.refl _, le_of_eq ?_, Le.refl _, trivial⟩, ⟨⟨rfl, ⟨Le.refl _, Le.refl _, Le.refl _, hlv, Le.refl _, trivial⟩⟩, ⟨rfl, LeL.refl _⟩, ⟨rfl, LeL.refl _⟩, trivial⟩, bufH_sub q _⟩
        show AV.i _ = AV.i _
        rw [List.length_map]
      · rintro ⟨m, j⟩ ⟨hj, hz⟩
        simp only at hj hz
        refine ifB_dec (fun h1 => ?_) (fun h1 => ?_)
        · simp only at h1
          have hlt : j < t.args.length := by omega
          have hmem := Tm.nodesL_mem (List.getElem_mem hlt)
          have hsn : (t.args.take j).map tmA ++ [tmX t.args[j]] = (t.args.take (j + 1)).map tmA := by rw [List.take_succ_eq_append_getElem hlt, List.map_append, ← tmA_eq]; rfl
          refine ⟨j, rfl, _, tmAt' hlt, ?_⟩
          refine ⟨[0, 1, 2, 3, 4, 5, 6, 7], [], by kernel_rfl, by simp, ?_⟩
          refine ⟨_, LeL.refl _, fresh_con _ t.args[j] (Nat.le_refl _) (by omega) _ _ ?_⟩
          intro hz1 hz2; clear hz1 hz2
          cases m with
          | none =>
            have hj0 : j = 0 := hz.1
            subst hj0
            refine ⟨(by show (0 + 1) * (80 + 1) ≤ 140737488355328; decide), by simp, rfl, fun b cap rest k1 k2 k3 k4 => ?_⟩
            have hok : MvOk 5 1 ((t.args.take (0 + 1)).map tmA) H (some (b, cap, ([] ++ [tmX t.args[0]]).flatMap AV.cells ++ rest)) := by
              rw [← hsn]
              exact ⟨by decide, TurnOk.first rfl k1 k2 k3 k4⟩
            refine ⟨in64_of (by first | omega | (dsimp only; omega)) (by first | omega | (dsimp only; omega)), ?_⟩
            exact ⟨(some (b, cap, ([] ++ [tmX t.args[0]]).flatMap AV.cells ++ rest), 1), ⟨by simp only; omega, hok⟩, by (try dsimp only); omega, ⟨⟨⟨rfl, rfl⟩, ⟨rfl, rfl⟩, Le.refl _, Le.refl _, Le.refl _, trivial⟩, ⟨⟨rfl, ⟨Le.refl _, Le.refl _, Le.refl _, Le.refl _, Le.refl _, trivial⟩⟩, ⟨rfl, LeL.refl _⟩, ⟨rfl, LeL.refl _⟩, trivial⟩, List.Sublist.refl _⟩⟩
          | some p =>
            obtain ⟨b0, cap0, cs0⟩ := p
            obtain ⟨hj0, htk⟩ := hz
            refine ⟨?_, by simp, cs0, H, Heap.Rem.here, htk.le, htk.max, htk.room, fun b cap rest k1 k2 k3 k4 => ?_⟩
            · simp only [List.length_cons, List.length_nil]
              show _ * (80 + 1) ≤ _
              omega
            have hok : MvOk 5 (j + 1) ((t.args.take (j + 1)).map tmA) H (some (b, cap, cs0.take (j * 5) ++ [tmX t.args[j]].flatMap AV.cells ++ rest)) := by
              rw [← hsn]
              exact ⟨by omega, htk.next (wide_tms _) rfl k1 k2 k3 k4⟩
            refine ⟨in64_of (by first | omega | (dsimp only; omega)) (by first | omega | (dsimp only; omega)), ?_⟩
            exact ⟨(some (b, cap, cs0.take (j * 5) ++ [tmX t.args[j]].flatMap AV.cells ++ rest), j + 1), ⟨by simp only; omega, hok⟩, by (try dsimp only); omega, ⟨⟨⟨rfl, rfl⟩, ⟨rfl, rfl⟩, Le.refl _, Le.refl _, Le.refl _, trivial⟩, ⟨⟨rfl, ⟨Le.refl _, Le.refl _, Le.refl _, Le.refl _, Le.refl _, trivial⟩⟩, ⟨rfl, LeL.refl _⟩, ⟨rfl, LeL.refl _⟩, trivial⟩, List.Sublist.refl _⟩⟩
        · simp only at h1
          have hj' : t.args.length = j := by omega
          subst hj'
          rw [List.take_length] at hz
          have hfin : Le (.agg [.i t.kind, .i t.n, .str t.name, .sl .no 3 (t.levels.map lvA), mvS m t.args.length]) (.agg [.i t.kind, .i t.n, .str t.name, .sl .no 3 (t.levels.map lvA), mvV 5 m t.args.length]) := Le.agg ⟨Le.refl _, Le.refl _, Le.refl _, Le.refl _, mvS_le 5 m _, trivial⟩
          exact ⟨_, _, hfin, List.Sublist.refl _, hq m hz⟩
set_option maxRecDepth 100000 in
set_option maxHeartbeats 1000000 in
/-- the new memory of the levels may turn -/
theorem freshL_con (t : Tm) (hN1 : t.nodes ≤ 1000000) (H : Heap) (Q : AV → Heap → Prop) (hq : ∀ m : Mv, MvOk 3 t.levels.length (t.levels.map lvA) H m → Q (.agg [.i t.kind, .i t.n, .str t.name, mvV 3 m t.levels.length, .sl .no 5 (t.args.map tmA)]) (mvH m H)) : Con Tryz.prog 104 [tmX t] H Q := by
  have hnd := t.nodes_eq
  have hll := lvLen_nodes t.levels
  have htl := tmLen_nodes t.args
  refine con_of_awp (esc := ([28].contains ·)) tab_ok mixed Tryz.func104 rfl (ent Tryz.func104 (by kernel_rfl) rfl) (by kernel_rfl) ?_
  intro hw hn
  clear hw hn
  refine ⟨Mv × Nat, fun p => ⟨[(1, .lp 1 0), (2, .lp 2 0), (3, .lp 3 0), (16, .g (.sl .no 3 (t.levels.map lvA))), (17, .g (.i t.levels.length)), (18, .g (.i p.2))], [(3, [.i t.kind, .i t.n, .str t.name, mvS p.1 p.2, .sl .full 0 []]), (2, [.i 0, .i 0, .str [], .sl .full 0 [], .sl .full 0 []]), (1, (tmX t).cells)], mvH p.1 H⟩,
    fun p => p.2 ≤ t.levels.length ∧ MvOk 3 p.2 ((t.levels.take p.2).map lvA) H p.1, fun p => t.levels.length - p.2, ⟨(none, 0), ⟨Nat.zero_le _, ⟨rfl, rfl⟩⟩, ?_⟩, ?_⟩
  · refine ⟨⟨⟨rfl, rfl⟩, ⟨rfl, rfl⟩, ⟨rfl, rfl⟩, Le.refl _, le_of_eq ?_, Le.refl _, trivial⟩, ⟨⟨rfl, LeL.refl _⟩, ⟨rfl, LeL.refl _⟩, ⟨rfl, LeL.refl _⟩, trivial⟩, List.Sublist.refl _⟩
    show AV.i _ = AV.i _
    rw [List.length_map]
  · rintro ⟨m, j⟩ ⟨hj, hz⟩
    simp only at hj hz
    refine ifB_dec (fun h1 => ?_) (fun h1 => ?_)
    · simp only at h1
      have hlt : j < t.levels.length := by omega
      have hmem := Lv.nodesL_mem (List.getElem_mem hlt)
      have hsn : (t.levels.take j).map lvA ++ [lvX t.levels[j]] = (t.levels.take (j + 1)).map lvA := by rw [List.take_succ_eq_append_getElem hlt, List.map_append, ← lvA_eq]; rfl
      refine ⟨j, rfl, _, lvAt hlt, ?_⟩
      refine ⟨[0, 1, 2, 3, 4, 5, 6, 7, 8], [], by kernel_rfl, by simp, ?_⟩
      refine ⟨_, LeL.refl _, Max1_con _ t.levels[j] (by omega) _ _ ?_⟩
      intro hz1 hz2; clear hz1 hz2
      cases m with
      | none =>
        have hj0 : j = 0 := hz.1
        subst hj0
        refine ⟨(by show (0 + 1) * (40 + 1) ≤ 140737488355328; decide), by simp, rfl, fun b cap rest k1 k2 k3 k4 => ?_⟩
        have hok : MvOk 3 1 ((t.levels.take (0 + 1)).map lvA) H (some (b, cap, ([] ++ [lvX t.levels[0]]).flatMap AV.cells ++ rest)) := by
          rw [← hsn]
          exact ⟨by decide, TurnOk.first rfl k1 k2 k3 k4⟩
        refine ⟨in64_of (by first | omega | (dsimp only; omega)) (by first | omega | (dsimp only; omega)), ?_⟩
        exact ⟨(some (b, cap, ([] ++ [lvX t.levels[0]]).flatMap AV.cells ++ rest), 1), ⟨by simp only; omega, hok⟩, by (try dsimp only); omega, ⟨⟨⟨rfl, rfl⟩, ⟨rfl, rfl⟩, ⟨rfl, rfl⟩, Le.refl _, Le.refl _, Le.refl _, trivial⟩, ⟨⟨rfl, ⟨Le.refl _, Le.refl _, Le.refl _, Le.refl _, Le.refl _, trivial⟩⟩, ⟨rfl, LeL.refl _⟩, ⟨rfl, LeL.refl _⟩, trivial⟩, List.Sublist.refl _⟩⟩
      | some p =>
        obtain ⟨b0, cap0, cs0⟩ := p
        obtain ⟨hj0, htk⟩ := hz
        refine ⟨?_, by simp, cs0, H, Heap.Rem.here, htk.le, htk.max, htk.room, fun b cap rest k1 k2 k3 k4 => ?_⟩
        · simp only [List.length_cons, List.length_nil]
          show _ * (40 + 1) ≤ _
          omega
        have hok : MvOk 3 (j + 1) ((t.levels.take (j + 1)).map lvA) H (some (b, cap, cs0.take (j * 3) ++ [lvX t.levels[j]].flatMap AV.cells ++ rest)) := by
          rw [← hsn]
          exact ⟨by omega, htk.next (wide_lvs _) rfl k1 k2 k3 k4⟩
        refine ⟨in64_of (by first | omega | (dsimp only; omega)) (by first | omega | (dsimp only; omega)), ?_⟩
        exact ⟨(some (b, cap, cs0.take (j * 3) ++ [lvX t.levels[j]].flatMap AV.cells ++ rest), j + 1), ⟨by simp only; omega, hok⟩, by (try dsimp only); omega, ⟨⟨⟨rfl, rfl⟩, ⟨rfl, rfl⟩, ⟨rfl, rfl⟩, Le.refl _, Le.refl _, Le.refl _, trivial⟩, ⟨⟨rfl, ⟨Le.refl _, Le.refl _, Le.refl _, Le.refl _, Le.refl _, trivial⟩⟩, ⟨rfl, LeL.refl _⟩, ⟨rfl, LeL.refl _⟩, trivial⟩, List.Sublist.refl _⟩⟩
    · simp only at h1
      have hj' : t.levels.length = j := by omega
      subst hj'
      rw [List.take_length] at hz
      refine ⟨Option Cap × Nat, fun p => ⟨[(2, .lp 2 0), (3, .lp 3 0), (32, .g (.sl .no 5 (t.args.map tmA))), (33, .g (.i t.args.length)), (34, .g (.i p.2))], [(3, [.i t.kind, .i t.n, .str t.name, mvV 3 m t.levels.length, .sl (ownQ p.1) 5 ((t.args.take p.2).map tmA)]), (2, [.i 0, .i 0, .str [], .sl .full 0 [], .sl .full 0 []]), (1, (tmX t).cells)], bufH p.1 (mvH m H)⟩,
        fun p => p.2 ≤ t.args.length, fun p => t.args.length - p.2, ⟨(none, 0), Nat.zero_le _, ?_⟩, ?_⟩
      · refine ⟨⟨⟨rfl, rfl⟩, ⟨rfl, rfl⟩, Le.refl _, le_of_eq ?_, Le.refl _, trivial⟩, ⟨⟨rfl, ⟨Le.refl _, Le.refl _, Le.refl _, mvS_le 3 m _, Le.nil' _, trivial⟩⟩, ⟨rfl, LeL.refl _⟩, ⟨rfl, LeL.refl _⟩, trivial⟩, List.Sublist.refl _⟩
        show AV.i _ = AV.i _
        rw [List.length_map]
      · rintro ⟨q, j⟩ hj
        simp only at hj
        refine ifB_dec (fun h1 => ?_) (fun h1 => ?_)
        · simp only at h1
          have hlt : j < t.args.length := by omega
          have hmem := Tm.nodesL_mem (List.getElem_mem hlt)
          have hsn : (t.args.take j).map tmA ++ [tmX t.args[j]] = (t.args.take (j + 1)).map tmA := by rw [List.take_succ_eq_append_getElem hlt, List.map_append, ← tmA_eq]; rfl
          have hnext : ∀ c' : Cap, Le (.sl (.own c') 5 ((t.args.take j).map tmA ++ [tmX t.args[j]])) (.sl (ownQ (some c')) 5 ((t.args.take (j + 1)).map tmA)) := fun c' => by rw [hsn]; exact Le.refl _
          refine ⟨j, rfl, _, tmAt' hlt, ?_⟩
          refine ⟨[0, 1, 2, 3, 4, 5, 6, 7], [], by kernel_rfl, by simp, ?_⟩
          refine ⟨_, LeL.refl _, fresh_con _ t.args[j] (Nat.le_refl _) (by omega) _ _ ?_⟩
          intro hz1 hz2; clear hz1 hz2
          refine ⟨?_, ?_⟩
          · simp only [List.length_map, List.length_cons, List.length_nil]
            try simp only [List.length_take]
            show _ * (80 + 1) ≤ _
            omega
          refine own_of (q := q) (H0 := (mvH m H)) ?_ ?_ ?_ (fun c hc => ?_)
          · exact rfl
          · exact rfl
          · exact fun _ h => h
          refine ⟨in64_of (by first | omega | (dsimp only; omega)) (by first | omega | (dsimp only; omega)), ?_⟩
          exact ⟨(some c, j + 1), (by simp only; omega), by (try dsimp only); omega, ⟨⟨⟨rfl, rfl⟩, ⟨rfl, rfl⟩, Le.refl _, Le.refl _, Le.refl _, trivial⟩, ⟨⟨rfl, ⟨Le.refl _, Le.refl _, Le.refl _, Le.refl _, hnext c, trivial⟩⟩, ⟨rfl, LeL.refl _⟩, ⟨rfl, LeL.refl _⟩, trivial⟩, List.Sublist.refl _⟩⟩
        · simp only at h1
          have hj' : t.args.length = j := by omega
          subst hj'
          have hfin : Le (.agg [.i t.kind, .i t.n, .str t.name, mvV 3 m t.levels.length, .sl (ownQ q) 5 ((t.args.take t.args.length).map tmA)]) (.agg [.i t.kind, .i t.n, .str t.name, mvV 3 m t.levels.length, .sl .no 5 (t.args.map tmA)]) := Le.agg ⟨Le.refl _, Le.refl _, Le.refl _, Le.refl _, Le.trans (ownQ_le _ _ _) (le_of_eq (by rw [List.take_length])), trivial⟩
          exact ⟨_, _, hfin, bufH_sub q _, hq m hz⟩
set_option maxRecDepth 100000 in
theorem App0A_con (t : Tm) (hl : t.nodes ≤ 1000000) (H : Heap) (Q : AV → Heap → Prop) (hq : ∀ m : Mv, MvOk 5 t.args.length (t.args.map tmA) H m → Q (.agg [.i t.kind, .i t.n, .str t.name, .sl .no 3 (t.levels.map lvA), mvV 5 m t.args.length]) (mvH m H)) : Con Tryz.prog 80 [tmX t, .sl .full 0 []] H Q := by
  refine con_of_awp (esc := fun _ => false) tab_ok mixed Tryz.func80 rfl (ent Tryz.func80 (by kernel_rfl) rfl) (by kernel_rfl) ?_
  intro hw hn
  refine ⟨_, LeL.refl _, freshA_con t hl _ _ fun m hm => ?_⟩
  intro hz1 hz2; clear hz1 hz2
  refine ⟨Unit, fun _ => ⟨[(4, .lp 4 0), (5, .lp 5 0), (10, .g (.sl .full 0 [])), (11, .g (.i 0)), (12, .g (.i 0))], [(5, [.i t.kind, .i t.n, .str t.name, .sl .no 3 (t.levels.map lvA), mvV 5 m t.args.length]), (4, [.i 0, .i 0, .str [], .sl .full 0 [], .sl .full 0 []]), (2, (tmX t).cells)], mvH m H⟩, fun _ => True, fun _ => 0, ⟨(), trivial, ?_⟩, ?_⟩
  · exact ⟨⟨⟨rfl, rfl⟩, ⟨rfl, rfl⟩, Le.refl _, Le.refl _, Le.refl _, trivial⟩, ⟨⟨rfl, LeL.refl _⟩, ⟨rfl, LeL.refl _⟩, ⟨rfl, LeL.refl _⟩, trivial⟩, List.Sublist.refl _⟩
  · intro u hu
    exact ⟨_, _, Le.refl _, List.Sublist.refl _, hq m hm⟩
set_option maxRecDepth 100000 in
theorem App0L_con (t : Tm) (hl : t.nodes ≤ 1000000) (H : Heap) (Q : AV → Heap → Prop) (hq : ∀ m : Mv, MvOk 3 t.levels.length (t.levels.map lvA) H m → Q (.agg [.i t.kind, .i t.n, .str t.name, mvV 3 m t.levels.length, .sl .no 5 (t.args.map tmA)]) (mvH m H)) : Con Tryz.prog 80 [tmX t, .sl .full 0 []] H Q := by
  refine con_of_awp (esc := fun _ => false) tab_ok mixed Tryz.func80 rfl (ent Tryz.func80 (by kernel_rfl) rfl) (by kernel_rfl) ?_
  intro hw hn
  refine ⟨_, LeL.refl _, freshL_con t hl _ _ fun m hm => ?_⟩
  intro hz1 hz2; clear hz1 hz2
  refine ⟨Unit, fun _ => ⟨[(4, .lp 4 0), (5, .lp 5 0), (10, .g (.sl .full 0 [])), (11, .g (.i 0)), (12, .g (.i 0))], [(5, [.i t.kind, .i t.n, .str t.name, mvV 3 m t.levels.length, .sl .no 5 (t.args.map tmA)]), (4, [.i 0, .i 0, .str [], .sl .full 0 [], .sl .full 0 []]), (2, (tmX t).cells)], mvH m H⟩, fun _ => True, fun _ => 0, ⟨(), trivial, ?_⟩, ?_⟩
  · exact ⟨⟨⟨rfl, rfl⟩, ⟨rfl, rfl⟩, Le.refl _, Le.refl _, Le.refl _, trivial⟩, ⟨⟨rfl, LeL.refl _⟩, ⟨rfl, LeL.refl _⟩, ⟨rfl, LeL.refl _⟩, trivial⟩, List.Sublist.refl _⟩
  · intro u hu
    exact ⟨_, _, Le.refl _, List.Sublist.refl _, hq m hm⟩
set_option maxRecDepth 100000 in
theorem CloneSts2_con (ss : List (List UInt8)) (hl : ss.length ≤ 1000000) (H : Heap) (Q : AV → Heap → Prop) (h0 : ss = [] → Q (.sl .no 1 []) H) (h1 : ∀ b cap cs, ss.length ≠ 0 → TurnOk 1 ss.length (ss.map .str) H b cap cs → Q (hs b ss.length cap) ((b, .cells cs) :: H)) : Con Tryz.prog 138 [.sl .no 1 (ss.map .str)] H Q := by
  cases ss with
  | nil => exact CloneSts_con .no [] hl H Q (h0 rfl)
  | cons s0 ss0 =>
    obtain ⟨ss, hss⟩ : ∃ ss, ss = s0 :: ss0 := ⟨_, rfl⟩
    rw [← hss] at hl h0 h1 ⊢
    have hne : ss.length ≠ 0 := by rw [hss]; simp
    have e1 : ([] : List AV).length + (ss.map AV.str).length = ss.length := by simp
    have hfl := flat_len (wide_sts ss)
    refine con_of_awp (esc := ([7].contains ·)) tab_ok mixed Tryz.func138 rfl (ent Tryz.func138 (by kernel_rfl) rfl) (by kernel_rfl) ?_
    intro hw hn
    clear hw hn
    refine ifNil_or (fun h => ?_) (fun h => ?_)
    · have h0 : ss.length = 0 := by simpa using congrArg List.length h
      exact absurd h0 hne
    · refine ifNil_or (fun h2 => absurd h2 h) (fun _ => ?_)
      refine ⟨?_, h, rfl, fun b cap rest k1 k2 k3 k4 => ?_⟩
      · simp only [List.length_map, List.length_nil]
        show _ * (16 + 1) ≤ _
        omega
      have k2' : ss.length ≤ cap := by rw [e1] at k2; exact k2
      have k4' : rest.length = cap - ss.length := by rw [e1] at k4; rw [k4]; exact Nat.mul_one _
      have hok : TurnOk 1 ss.length (ss.map .str) H b cap (([] ++ ss.map AV.str).flatMap AV.cells ++ rest) := by
        refine ⟨by simp, k1, k2', k3, ?_, ?_⟩
        · rw [List.nil_append, List.length_append, hfl, k4', List.length_map]; omega
        · rw [List.nil_append, List.take_left']
          rw [hfl, List.length_map]
      refine ⟨_, _, le_of_eq ?_, List.Sublist.refl _, h1 b cap _ hne hok⟩
      show hs b (([] : List AV).length + (ss.map AV.str).length) cap = hs b ss.length cap
      rw [e1]
def enM (e : En) (SA SL SC : AV) : AV := .agg [.i e.kind, .i e.params, .str e.name, .i e.type.kind, .i e.type.n, .str e.type.name, .sl .no 3 (e.type.levels.map lvA), SA, .i e.value.kind, .i e.value.n, .str e.value.name, SL, .sl .no 5 (e.value.args.map tmA), .i e.height, .str e.family, .i e.fixed, .i e.index, .i e.fields, SC]
set_option maxRecDepth 100000 in
set_option maxHeartbeats 1000000 in
theorem declClone2_con (e : En) (h1 : e.type.nodes ≤ 1000000) (h2 : e.value.nodes ≤ 1000000) (h3 : e.ctors.length ≤ 1000000) (H : Heap) (Q : AV → Heap → Prop)
    (hq : ∀ mA mL mC : Mv, MvOk 5 e.type.args.length (e.type.args.map tmA) H mA → MvOk 3 e.value.levels.length (e.value.levels.map lvA) (mvH mA H) mL → MvOk 1 e.ctors.length (e.ctors.map .str) (mvH mL (mvH mA H)) mC →
      Q (enM e (mvV 5 mA e.type.args.length) (mvV 3 mL e.value.levels.length) (mvV 1 mC e.ctors.length)) (mvH mC (mvH mL (mvH mA H)))) : Con Tryz.prog 113 [enX e] H Q := by
  refine con_of_awp (esc := fun _ => false) tab_ok mixed Tryz.func113 rfl (ent Tryz.func113 (by kernel_rfl) rfl) (by kernel_rfl) ?_
  intro hw hn
  refine ⟨[0, 1, 3, 4, 6, 7, 2, 9, 5, 8, 10, 11, 12, 13, 14], [], by kernel_rfl, by simp, ?_⟩
  refine ⟨_, LeL.refl _, App0A_con e.type h1 _ _ fun mA hA => ?_⟩
  intro hz1 hz2; clear hz1 hz2
  refine ⟨_, LeL.refl _, App0L_con e.value h2 _ _ fun mL hL => ?_⟩
  intro hz1 hz2; clear hz1 hz2
  refine ⟨_, LeL.refl _, CloneSts2_con e.ctors h3 _ _ (fun hC => ?_) (fun b cap cs hne hC => ?_)⟩
  · intro hz1 hz2; clear hz1 hz2
    exact ⟨_, _, Le.refl _, List.Sublist.refl _, hq mA mL none hA hL ⟨by rw [hC]; rfl, by rw [hC]; rfl⟩⟩
  · intro hz1 hz2; clear hz1 hz2
    exact ⟨_, _, Le.refl _, List.Sublist.refl _, hq mA mL (some (b, cap, cs)) hA hL ⟨hne, hC⟩⟩
end Go.Proofs.YtaldgcnhmnfocaaGreatDoor
