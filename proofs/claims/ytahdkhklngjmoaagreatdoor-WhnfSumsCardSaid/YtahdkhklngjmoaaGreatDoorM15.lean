/-
  Texts put together: R1, R2, R3, R4, R5, H11, H15, H16. No condition.
-/
import Derived.Test.YtahdkhklngjmoaaGreatDoorM13
import Derived.Test.YtahdkhklngjmoaaGreatDoorM12
/-
  The references' name.Right, term.Right, Formed. No condition.
-/
namespace Go.Proofs.YtahdkhklngjmoaaGreatDoor
open Go.RowKit

end Go.Proofs.YtahdkhklngjmoaaGreatDoor

/-
  The references' term.Right, Formed. No condition.
-/
namespace Go.Proofs.YtahdkhklngjmoaaGreatDoor
open Go.RowKit

end Go.Proofs.YtahdkhklngjmoaaGreatDoor

/-
  The reference's Formed. No condition.
-/
namespace Go.Proofs.YtahdkhklngjmoaaGreatDoor
open Go.RowKit

end Go.Proofs.YtahdkhklngjmoaaGreatDoor

/-
  The references' copies of levels and terms. No condition.
-/
namespace Go.Proofs.YtahdkhklngjmoaaGreatDoor
open Go.RowKit

end Go.Proofs.YtahdkhklngjmoaaGreatDoor

/-
  The references' levels put in. No condition.
-/
namespace Go.Proofs.YtahdkhklngjmoaaGreatDoor
open Go.RowKit

end Go.Proofs.YtahdkhklngjmoaaGreatDoor

/-
  A level, a term at its own parameters is itself; an entry made of a declaration is right (plain laws of law 11). No condition.
-/
namespace Go.Proofs.YtahdkhklngjmoaaGreatDoor
open Go.RowKit

theorem lvNode_param {n m : Int} {len : Nat} (h : lvNode n 2 m len = true) : 0 ≤ m ∧ m < n ∧ len = 0 := by
  simp only [lvNode, show ¬ (2 : Int) = 1 by decide, if_false, if_true, Bool.and_eq_true, decide_eq_true_eq] at h
  exact ⟨h.1.1, h.1.2, h.2⟩
theorem tmNode_mono {v w k m : Int} {nm : List UInt8} {ls xs : Nat} (hv : v ≤ w) (h : tmNode v k m nm ls xs = true) : tmNode w k m nm ls xs = true := by
  unfold tmNode at *
  split
  · rename_i hk
    rw [if_pos hk] at h
    simp only [Bool.and_eq_true, decide_eq_true_eq] at h ⊢
    exact ⟨⟨⟨⟨h.1.1.1.1, by omega⟩, h.1.1.2⟩, h.1.2⟩, h.2⟩
  · rename_i hk
    rwa [if_neg hk] at h
mutual
theorem tmFit_mono (n : Int) : ∀ (t : Tm) (v w : Int), v ≤ w → tmFit n t v = true → tmFit n t w = true
  | .mk k m nm ls xs, v, w, hv, h => by
    rw [tmFit, Bool.and_eq_true, Bool.and_eq_true] at h ⊢
    exact ⟨⟨tmNode_mono hv h.1.1, h.1.2⟩, tmFitL_mono n k xs 0 v w hv h.2⟩
theorem tmFitL_mono (n k : Int) : ∀ (ts : List Tm) (i : Nat) (v w : Int), v ≤ w → tmFitL n k ts i v = true → tmFitL n k ts i w = true
  | [], _, _, _, _, _ => rfl
  | t :: ts, i, v, w, hv, h => by
    rw [tmFitL, Bool.and_eq_true] at h ⊢
    refine ⟨tmFit_mono n t _ _ ?_ h.1, tmFitL_mono n k ts (i + 1) v w hv h.2⟩
    split <;> omega
end
/-! entries of declarations -/
end Go.Proofs.YtahdkhklngjmoaaGreatDoor

/-
  decl.Clone, whose new memory may turn later: term's fresh, App of nothing, slices.Clone. No condition.
-/
namespace Go.Proofs.YtahdkhklngjmoaaGreatDoor
open Go.RowKit

theorem flat_len {size : Nat} : ∀ {xs : List AV}, wide size xs → (xs.flatMap AV.cells).length = xs.length * size
  | [], _ => by simp
  | x :: xs, h => by
    have h1 := h.2 x (by simp)
    have h2 : wide size xs := ⟨fun hs => (by have := h.1 hs; cases this), fun y hy => h.2 y (List.mem_cons_of_mem _ hy)⟩
    rw [List.flatMap_cons, List.length_append, h1, flat_len h2, List.length_cons, Nat.add_mul, Nat.one_mul, Nat.add_comm]
theorem wide_tms (ts : List Tm) : wide 5 (ts.map tmA) := ⟨fun h => (by cases h), fun y hy => by
  obtain ⟨t, _, rfl⟩ := List.mem_map.1 hy
  rw [tmA_eq]
  rfl⟩
/-- what stands in memory that may turn -/
structure TurnOk (size n : Nat) (xs : List AV) (H : Heap) (b cap : Nat) (cs : List AV) : Prop where
  len : xs.length = n
  out : b ∉ H.keys
  le : n ≤ cap
  max : cap ≤ maxLen
  room : cap * size ≤ cs.length
  here : cs.take (n * size) = xs.flatMap AV.cells
theorem TurnOk.first {size : Nat} {y : AV} {H : Heap} {b cap : Nat} {rest : List AV} (hy : y.cells.length = size) (h0 : b ∉ H.keys) (h1 : 0 + 1 ≤ cap) (h2 : cap ≤ maxLen) (h3 : rest.length = (cap - (0 + 1)) * size) : TurnOk size 1 [y] H b cap (([] ++ [y]).flatMap AV.cells ++ rest) := by
  have e : (([] ++ [y]).flatMap AV.cells ++ rest) = y.cells ++ rest := by simp
  rw [e]
  refine ⟨rfl, h0, h1, h2, ?_, ?_⟩
  · obtain ⟨c, rfl⟩ : ∃ c, cap = c + 1 := ⟨cap - 1, by omega⟩
    rw [List.length_append, hy, h3, Nat.add_mul]
    simp
    omega
  · rw [Nat.one_mul, ← hy, List.take_left']
    · simp
    · rfl
theorem TurnOk.next {size n : Nat} {xs : List AV} {y : AV} {H : Heap} {b0 cap0 : Nat} {cs : List AV} (h : TurnOk size n xs H b0 cap0 cs) (hw : wide size xs) {b cap : Nat} {rest : List AV} (hy : y.cells.length = size) (k1 : b ∉ H.keys) (k2 : n + 1 ≤ cap) (k3 : cap ≤ maxLen) (k4 : cap * size ≤ (n + 1) * size + rest.length) :
    TurnOk size (n + 1) (xs ++ [y]) H b cap (cs.take (n * size) ++ [y].flatMap AV.cells ++ rest) := by
  have hl : (xs.flatMap AV.cells).length = n * size := by rw [flat_len hw, h.len]
  have hl1 : (([y] : List AV).flatMap AV.cells).length = size := by simp [hy]
  refine ⟨by simp [h.len], k1, k2, k3, ?_, ?_⟩
  · rw [List.length_append, List.length_append, h.here, hl, hl1, ← Nat.succ_mul]
    exact k4
  · rw [h.here, ← List.flatMap_append, List.take_left']
    rw [List.flatMap_append, List.length_append, hl, hl1, Nat.add_mul, Nat.one_mul]
theorem TurnOk.see {size n : Nat} {xs : List AV} {H : Heap} {b cap : Nat} {cs : List AV} (h : TurnOk size n xs H b cap cs) (hw : wide size xs) {M : Mem} (hat : atL M cs b 0) : LeM M (hs b n cap) (.sl .no size xs) := by
  have e : xs.flatMap AV.cells ++ cs.drop (n * size) = cs := by rw [← h.here, List.take_append_drop]
  rw [← e] at hat
  exact hs_ice hat h.len.symm h.le h.max hw
/-- an owned slice that may turn later -/
abbrev Mv := Option (Nat × Nat × List AV)
def mvV (size : Nat) (m : Mv) (n : Nat) : AV :=
  match m with
  | none => .sl .no size []
  | some (b, cap, _) => hs b n cap
def mvS (m : Mv) (n : Nat) : AV :=
  match m with
  | none => .sl .full 0 []
  | some (b, cap, _) => hs b n cap
def mvH (m : Mv) (H : Heap) : Heap :=
  match m with
  | none => H
  | some (b, _, cs) => (b, .cells cs) :: H
def MvOk (size n : Nat) (xs : List AV) (H : Heap) : Mv → Prop
  | none => n = 0 ∧ xs = []
  | some (b, cap, cs) => n ≠ 0 ∧ TurnOk size n xs H b cap cs
theorem mvS_le (size : Nat) (m : Mv) (n : Nat) : Le (mvS m n) (mvV size m n) := by
  cases m with
  | none => exact Le.nil _ _
  | some p => exact Le.refl _
theorem MvOk.see {size n : Nat} {xs : List AV} {H : Heap} {m : Mv} (h : MvOk size n xs H m) (hw : wide size xs) {M : Mem} (hat : ∀ b cs, (b, .cells cs) ∈ mvH m H → atL M cs b 0) : LeM M (mvV size m n) (.sl .no size xs) := by
  cases m with
  | none =>
    obtain ⟨_, rfl⟩ := h
    exact LeM.refl _
  | some p => exact h.2.see hw (hat _ _ (by simp [mvH]))
set_option maxRecDepth 100000 in
set_option maxHeartbeats 1000000 in
/-- the new memory of the parts may turn -/
theorem freshA_con (t : Tm) (hN1 : t.nodes ≤ 1000000) (H : Heap) (Q : AV → Heap → Prop) (hq : ∀ m : Mv, MvOk 5 t.args.length (t.args.map tmA) H m → Q (.agg [.i t.kind, .i t.n, .str t.name, .sl .no 3 (t.levels.map lvA), mvV 5 m t.args.length]) (mvH m H)) : Con Tryz.prog 68 [tmX t] H Q := by
  have hnd := t.nodes_eq
  have hll := lvLen_nodes t.levels
  have htl := tmLen_nodes t.args
  refine con_of_awp (esc := ([43].contains ·)) tab_ok mixed Tryz.func68 rfl (ent Tryz.func68 (by kernel_rfl) rfl) (by kernel_rfl) ?_
  intro hw hn
  clear hw hn
  refine ⟨Option Cap × Nat, fun p => ⟨[(1, .lp 1 0), (2, .lp 2 0), (3, .lp 3 0), (16, .g (.sl .no 3 (t.levels.map lvA))), (17, .g (.i t.levels.length)), (18, .g (.i p.2))], [(3, [.i t.kind, .i t.n, .str t.name, .sl (ownQ p.1) 3 ((t.levels.take p.2).map lvA), .sl .full 0 []]), (2, [.i 0, .i 0, .str [], .sl .full 0 [], .sl .full 0 []]), (1, (tmX t).cells)], bufH p.1 H⟩,
    fun p => p.2 ≤ t.levels.length, fun p => t.levels.length - p.2, ⟨(none, 0), Nat.zero_le _, ?_⟩, ?_⟩
  · refine ⟨⟨⟨rfl, rfl⟩, ⟨rfl, rfl⟩, ⟨rfl, rfl⟩, Le.refl _, le_of_eq ?_, Le.refl _, trivial⟩, ⟨⟨rfl, ⟨Le.refl _, Le.refl _, Le.refl _, Le.nil' _, Le.refl _, trivial⟩⟩, ⟨rfl, LeL.refl _⟩, ⟨rfl, LeL.refl _⟩, trivial⟩, List.Sublist.refl _⟩
    show AV.i _ = AV.i _
    rw [List.length_map]
  · rintro ⟨q, j⟩ hj
    simp only at hj
    refine ifB_dec (fun h1 => ?_) (fun h1 => ?_)
    · simp only at h1
      have hlt : j < t.levels.length := by omega
      have hmem := Lv.nodesL_mem (List.getElem_mem hlt)
      have hsn : (t.levels.take j).map lvA ++ [lvX t.levels[j]] = (t.levels.take (j + 1)).map lvA := by rw [List.take_succ_eq_append_getElem hlt, List.map_append, ← lvA_eq]; rfl
      have hnext : ∀ c' : Cap, Le (.sl (.own c') 3 ((t.levels.take j).map lvA ++ [lvX t.levels[j]])) (.sl (ownQ (some c')) 3 ((t.levels.take (j + 1)).map lvA)) := fun c' => by rw [hsn]; exact Le.refl _
      refine ⟨j, rfl, _, lvAt hlt, ?_⟩
      refine ⟨[0, 1, 2, 3, 4, 5, 6, 7, 8], [], by kernel_rfl, by simp, ?_⟩
      refine ⟨_, LeL.refl _, Max1_con _ t.levels[j] (by omega) _ _ ?_⟩
      intro hz1 hz2; clear hz1 hz2
      refine ⟨?_, ?_⟩
      · simp only [List.length_map, List.length_cons, List.length_nil]
        try simp only [List.length_take]
        show _ * (40 + 1) ≤ _
        omega
      refine own_of (q := q) (H0 := H) ?_ ?_ ?_ (fun c hc => ?_)
      · exact rfl
      · exact rfl
      · exact fun _ h => h
      refine ⟨in64_of (by first | omega | (dsimp only; omega)) (by first | omega | (dsimp only; omega)), ?_⟩
      exact ⟨(some c, j + 1), (by simp only; omega), by (try dsimp only); omega, ⟨⟨⟨rfl, rfl⟩, ⟨rfl, rfl⟩, ⟨rfl, rfl⟩, Le.refl _, Le.refl _, Le.refl _, trivial⟩, ⟨⟨rfl, ⟨Le.refl _, Le.refl _, Le.refl _, hnext c, Le.refl _, trivial⟩⟩, ⟨rfl, LeL.refl _⟩, ⟨rfl, LeL.refl _⟩, trivial⟩, List.Sublist.refl _⟩⟩
    · simp only at h1
      have hj' : t.levels.length = j := by omega
      subst hj'
      have hlv : Le (.sl (ownQ q) 3 ((t.levels.take t.levels.length).map lvA)) (.sl .no 3 (t.levels.map lvA)) := Le.trans (ownQ_le _ _ _) (le_of_eq (by rw [List.take_length]))
      refine ⟨Mv × Nat, fun p => ⟨[(2, .lp 2 0), (3, .lp 3 0), (32, .g (.sl .no 5 (t.args.map tmA))), (33, .g (.i t.args.length)), (34, .g (.i p.2))], [(3, [.i t.kind, .i t.n, .str t.name, .sl .no 3 (t.levels.map lvA), mvS p.1 p.2]), (2, [.i 0, .i 0, .str [], .sl .full 0 [], .sl .full 0 []]), (1, (tmX t).cells)], mvH p.1 H⟩,
        fun p => p.2 ≤ t.args.length ∧ MvOk 5 p.2 ((t.args.take p.2).map tmA) H p.1, fun p => t.args.length - p.2, ⟨(none, 0), ⟨Nat.zero_le _, ⟨rfl, rfl⟩⟩, ?_⟩, ?_⟩
      · refine ⟨⟨⟨rfl, rfl⟩, ⟨rfl, rfl⟩, Le.refl _, le_of_eq ?_, Le.refl _, trivial⟩, ⟨⟨rfl, ⟨Le.refl _, Le.refl _, Le.refl _, hlv, Le.refl _, trivial⟩⟩, ⟨rfl, LeL.refl _⟩, ⟨rfl, LeL.refl _⟩, trivial⟩, bufH_sub q _⟩
        show AV.i _ = AV.i _
        rw [List.length_map]
      · rintro ⟨m, j⟩ ⟨hj, hz⟩
        simp only at hj hz
        refine ifB_dec (fun h1 => ?_) (fun h1 => ?_)
        · simp only at h1
          have hlt : j < t.args.length := by omega
          have hmem := Tm.nodesL_mem (List.getElem_mem hlt)
          have hsn : (t.args.take j).map tmA ++ [tmX t.args[j]] = (t.args.take (j + 1)).map tmA := by rw [List.take_succ_eq_append_getElem hlt, List.map_append, ← tmA_eq]; rfl
          refine ⟨j, rfl, _, tmAt' hlt, ?_⟩
          refine ⟨[0, 1, 2, 3, 4, 5, 6, 7], [], by kernel_rfl, by simp, ?_⟩
          refine ⟨_, LeL.refl _, fresh_con _ t.args[j] (Nat.le_refl _) (by omega) _ _ ?_⟩
          intro hz1 hz2; clear hz1 hz2
          cases m with
          | none =>
            have hj0 : j = 0 := hz.1
            subst hj0
            refine ⟨(by show (0 + 1) * (80 + 1) ≤ 140737488355328; decide), by simp, rfl, fun b cap rest k1 k2 k3 k4 => ?_⟩
            have hok : MvOk 5 1 ((t.args.take (0 + 1)).map tmA) H (some (b, cap, ([] ++ [tmX t.args[0]]).flatMap AV.cells ++ rest)) := by
              rw [← hsn]
              exact ⟨by decide, TurnOk.first rfl k1 k2 k3 k4⟩
            refine ⟨in64_of (by first | omega | (dsimp only; omega)) (by first | omega | (dsimp only; omega)), ?_⟩
            exact ⟨(some (b, cap, ([] ++ [tmX t.args[0]]).flatMap AV.cells ++ rest), 1), ⟨by simp only; omega, hok⟩, by (try dsimp only); omega, ⟨⟨⟨rfl, rfl⟩, ⟨rfl, rfl⟩, Le.refl _, Le.refl _, Le.refl _, trivial⟩, ⟨⟨rfl, ⟨Le.refl _, Le.refl _, Le.refl _, Le.refl _, Le.refl _, trivial⟩⟩, ⟨rfl, LeL.refl _⟩, ⟨rfl, LeL.refl _⟩, trivial⟩, List.Sublist.refl _⟩⟩
          | some p =>
            obtain ⟨b0, cap0, cs0⟩ := p
            obtain ⟨hj0, htk⟩ := hz
            refine ⟨?_, by simp, cs0, H, Heap.Rem.here, htk.le, htk.max, htk.room, fun b cap rest k1 k2 k3 k4 => ?_⟩
            · simp only [List.length_cons, List.length_nil]
              show _ * (80 + 1) ≤ _
              omega
            have hok : MvOk 5 (j + 1) ((t.args.take (j + 1)).map tmA) H (some (b, cap, cs0.take (j * 5) ++ [tmX t.args[j]].flatMap AV.cells ++ rest)) := by
              rw [← hsn]
              exact ⟨by omega, htk.next (wide_tms _) rfl k1 k2 k3 k4⟩
            refine ⟨in64_of (by first | omega | (dsimp only; omega)) (by first | omega | (dsimp only; omega)), ?_⟩
            exact ⟨(some (b, cap, cs0.take (j * 5) ++ [tmX t.args[j]].flatMap AV.cells ++ rest), j + 1), ⟨by simp only; omega, hok⟩, by (try dsimp only); omega, ⟨⟨⟨rfl, rfl⟩, ⟨rfl, rfl⟩, Le.refl _, Le.refl _, Le.refl _, trivial⟩, ⟨⟨rfl, ⟨Le.refl _, Le.refl _, Le.refl _, Le.refl _, Le.refl _, trivial⟩⟩, ⟨rfl, LeL.refl _⟩, ⟨rfl, LeL.refl _⟩, trivial⟩, List.Sublist.refl _⟩⟩
        · simp only at h1
          have hj' : t.args.length = j := by omega
          subst hj'
          rw [List.take_length] at hz
          have hfin : Le (.agg [.i t.kind, .i t.n, .str t.name, .sl .no 3 (t.levels.map lvA), mvS m t.args.length]) (.agg [.i t.kind, .i t.n, .str t.name, .sl .no 3 (t.levels.map lvA), mvV 5 m t.args.length]) := Le.agg ⟨Le.refl _, Le.refl _, Le.refl _, Le.refl _, mvS_le 5 m _, trivial⟩
          exact ⟨_, _, hfin, List.Sublist.refl _, hq m hz⟩
end Go.Proofs.YtahdkhklngjmoaaGreatDoor

/-
  ref04's Loose. No condition.
-/
namespace Go.Proofs.YtahdkhklngjmoaaGreatDoor
open Go.RowKit

theorem tmFit_var {p vars : Int} {t : Tm} (h : tmFit p t vars = true) (h1 : t.kind = 1) : 0 ≤ t.n ∧ t.n < vars := by
  rw [tmFit_eq, Bool.and_eq_true, Bool.and_eq_true] at h
  have h2 := h.1.1
  unfold tmNode at h2
  rw [if_pos h1] at h2
  simp only [Bool.and_eq_true, decide_eq_true_eq] at h2
  omega
theorem tmFit_argL {p vars : Int} {t : Tm} (h : tmFit p t vars = true) : tmFitL p t.kind t.args 0 vars = true := by
  rw [tmFit_eq, Bool.and_eq_true] at h
  exact h.2

end Go.Proofs.YtahdkhklngjmoaaGreatDoor

