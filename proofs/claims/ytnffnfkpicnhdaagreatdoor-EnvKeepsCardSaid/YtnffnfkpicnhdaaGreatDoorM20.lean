/-
  Texts put together: Z5, Z6. No condition.
-/
import Derived.Test.YtnffnfkpicnhdaaGreatDoorM19
import Derived.Test.YtnffnfkpicnhdaaGreatDoorM18
/-
  Fresh memory that may turn later: term's App, decl.Clone, env.Get, with all rows; the reference's CopyTerm, CopyTexts. No condition.
-/
namespace Go.Proofs.YtnffnfkpicnhdaaGreatDoor
open Go.RowKit

set_option maxRecDepth 100000 in
theorem App0AL_con (t : Tm) (hl : t.nodes ≤ 1000000) (H : Heap) (Q : AV → Heap → Prop) (hq : TmNew t H Q) : Con Tryz.prog 82 [tmX t, .sl .full 0 []] H Q := by
  refine con_of_awp (esc := fun _ => false) tab_ok mixed Tryz.func82 rfl (ent Tryz.func82 (by kernel_rfl) rfl) (by kernel_rfl) ?_
  intro hw hn
  refine ⟨_, LeL.refl _, freshAL_con t hl _ _ fun mL mA hL hA => ?_⟩
  intro hz1 hz2; clear hz1 hz2
  refine ⟨Unit, fun _ => ⟨[(4, .lp 4 0), (5, .lp 5 0), (10, .g (.sl .full 0 [])), (11, .g (.i 0)), (12, .g (.i 0))], [(5, (tmM t mL mA).cells), (4, [.i 0, .i 0, .str [], .sl .full 0 [], .sl .full 0 []]), (2, (tmX t).cells)], mvH mA (mvH mL H)⟩, fun _ => True, fun _ => 0, ⟨(), trivial, ?_⟩, ?_⟩
  · exact ⟨⟨⟨rfl, rfl⟩, ⟨rfl, rfl⟩, Le.refl _, Le.refl _, Le.refl _, trivial⟩, ⟨⟨rfl, LeL.refl _⟩, ⟨rfl, LeL.refl _⟩, ⟨rfl, LeL.refl _⟩, trivial⟩, List.Sublist.refl _⟩
  · intro u hu
    exact ⟨_, _, Le.refl _, List.Sublist.refl _, hq mL mA hL hA⟩
/-- an entry whose rows are new -/
def EnNew (e : En) (H : Heap) (Q : AV → Heap → Prop) : Prop := ∀ mL mA mC : Mv, MvOk 3 e.type.levels.length (e.type.levels.map lvA) H mL → MvOk 5 e.type.args.length (e.type.args.map tmA) (mvH mL H) mA → MvOk 1 e.ctors.length (e.ctors.map .str) (mvH mA (mvH mL H)) mC →
  Q (enM3 e (mvV 3 mL e.type.levels.length) (mvV 5 mA e.type.args.length) (mvV 1 mC e.ctors.length)) (mvH mC (mvH mA (mvH mL H)))
set_option maxRecDepth 100000 in
set_option maxHeartbeats 1000000 in
theorem declClone3_con (e : En) (h1 : e.type.nodes ≤ 1000000) (h2 : e.value.nodes ≤ 1000000) (h3 : e.ctors.length ≤ 1000000) (H : Heap) (Q : AV → Heap → Prop) (hq : EnNew e H Q) : Con Tryz.prog 62 [enX e] H Q := by
  refine con_of_awp (esc := fun _ => false) tab_ok mixed Tryz.func62 rfl (ent Tryz.func62 (by kernel_rfl) rfl) (by kernel_rfl) ?_
  intro hw hn
  clear hw hn
  refine ⟨[0, 1, 3, 4, 6, 7, 2, 9, 5, 8, 10, 11, 12, 13, 14], [], by kernel_rfl, by simp, ?_⟩
  refine ⟨[tmX e.type, .sl .full 0 []], LeL.refl _, App0AL_con e.type h1 _ _ fun mL mA hL hA => ?_⟩
  intro hz1 hz2; clear hz1 hz2
  refine ⟨_, LeL.refl _, App0_con e.value h2 _ _ ?_⟩
  intro hz1 hz2; clear hz1 hz2
  refine ⟨_, LeL.refl _, CloneSts2_con e.ctors h3 _ _ (fun hC => ?_) (fun b cap cs hne hC => ?_)⟩
  · intro hz1 hz2; clear hz1 hz2
    exact ⟨_, _, Le.refl _, List.Sublist.refl _, hq mL mA none hL hA ⟨by rw [hC]; rfl, by rw [hC]; rfl⟩⟩
  · intro hz1 hz2; clear hz1 hz2
    exact ⟨_, _, Le.refl _, List.Sublist.refl _, hq mL mA (some (b, cap, cs)) hL hA ⟨hne, hC⟩⟩
set_option maxRecDepth 100000 in
theorem envGetM_con (t : Tre) (l : List En) (hp : Places t l) (x : List UInt8) {e : En} (he : envGet l x = (e, true)) (hr : enRight e = true) (H : Heap) (Q : AV → Heap → Prop) (hq : EnNew e H fun r H' => Q (.tup [r, .b true]) H') : Con Tryz.prog 38 [envX t l, .str x] H Q := by
  obtain ⟨k1, k2, k3⟩ := enRight_small hr
  refine con_of_awp (esc := fun _ => false) tab_ok mixed Tryz.func38 rfl (ent Tryz.func38 (by kernel_rfl) rfl) (by kernel_rfl) ?_
  intro hw hn
  clear hw hn
  refine ⟨_, LeL.refl _, (envEntry_con t l hp x).to (congrArg (fun p : En × Bool => AV.tup [enX p.1, .b p.2]) he) _ _ ?_⟩
  intro hz1 hz2; clear hz1 hz2
  refine ⟨[enX e], LeL.refl _, declClone3_con e (by omega) (by omega) (by omega) _ _ fun mL mA mC hL hA hC => ?_⟩
  intro hz1 hz2; clear hz1 hz2
  exact ⟨_, _, Le.refl _, List.Sublist.refl _, hq mL mA mC hL hA hC⟩
set_option maxRecDepth 100000 in
set_option maxHeartbeats 2000000 in
theorem CopyTerm2_con (t : Tm) (hN1 : t.nodes ≤ 1000000) (H : Heap) (Q : AV → Heap → Prop) (hq : TmNew t H Q) : Con Tryz.prog 42 [tmX t] H Q := by
  have hnd := t.nodes_eq
  have hll := lvLen_nodes t.levels
  have htl := tmLen_nodes t.args
  refine con_of_awp (esc := ([29,47].contains ·)) tab_ok mixed Tryz.func42 rfl (ent Tryz.func42 (by kernel_rfl) rfl) (by kernel_rfl) ?_
  intro hw hn
  clear hw hn
  refine ⟨Mv × Nat, fun p => ⟨[(1, .lp 1 0), (2, .lp 2 0), (3, .lp 3 0), (4, .g (.i p.2))], [(3, [.i t.kind, .i t.n, .str t.name, mvS p.1 p.2, .sl .full 0 []]), (2, [.i 0, .i 0, .str [], .sl .full 0 [], .sl .full 0 []]), (1, (tmX t).cells)], mvH p.1 H⟩,
    fun p => p.2 ≤ t.levels.length ∧ MvOk 3 p.2 ((t.levels.take p.2).map lvA) H p.1, fun p => t.levels.length - p.2, ⟨(none, 0), ⟨Nat.zero_le _, ⟨rfl, rfl⟩⟩, ?_⟩, ?_⟩
  · exact ⟨⟨⟨rfl, rfl⟩, ⟨rfl, rfl⟩, ⟨rfl, rfl⟩, Le.refl _, trivial⟩, ⟨⟨rfl, LeL.refl _⟩, ⟨rfl, LeL.refl _⟩, ⟨rfl, LeL.refl _⟩, trivial⟩, List.Sublist.refl _⟩
  · rintro ⟨m, j⟩ ⟨hj, hz⟩
    simp only at hj hz
    refine ifB_dec (fun h1 => ?_) (fun h1 => ?_)
    · simp only [List.length_map] at h1
      have hlt : j < t.levels.length := by omega
      have hmem := Lv.nodesL_mem (List.getElem_mem hlt)
      have hsn : (t.levels.take j).map lvA ++ [lvX t.levels[j]] = (t.levels.take (j + 1)).map lvA := by rw [List.take_succ_eq_append_getElem hlt, List.map_append, ← lvA_eq]; rfl
      refine ⟨[0, 1, 2, 3, 4, 5, 6, 7, 8, 9, 10, 11], [], by kernel_rfl, by simp, ?_⟩
      refine ⟨j, rfl, _, lvAt hlt, ?_⟩
      refine ⟨_, LeL.refl _, CopyLevel_con _ t.levels[j] (Nat.le_refl _) (by omega) _ _ ?_⟩
      intro hz1 hz2; clear hz1 hz2
      cases m with
      | none =>
        have hj0 : j = 0 := hz.1
        subst hj0
        refine ⟨(by show (0 + 1) * (40 + 1) ≤ 140737488355328; decide), by simp, rfl, fun b cap rest k1 k2 k3 k4 => ?_⟩
        have hok : MvOk 3 1 ((t.levels.take (0 + 1)).map lvA) (H) (some (b, cap, ([] ++ [lvX t.levels[0]]).flatMap AV.cells ++ rest)) := by
          rw [← hsn]
          exact ⟨by decide, TurnOk.first rfl k1 k2 k3 k4⟩
        refine ⟨in64_of (by first | omega | (dsimp only; omega)) (by first | omega | (dsimp only; omega)), ?_⟩
        exact ⟨(some (b, cap, ([] ++ [lvX t.levels[0]]).flatMap AV.cells ++ rest), 1), ⟨by simp only; omega, hok⟩, by (try dsimp only); omega, ⟨⟨⟨rfl, rfl⟩, ⟨rfl, rfl⟩, ⟨rfl, rfl⟩, Le.refl _, trivial⟩, ⟨⟨rfl, ⟨Le.refl _, Le.refl _, Le.refl _, Le.refl _, Le.refl _, trivial⟩⟩, ⟨rfl, LeL.refl _⟩, ⟨rfl, LeL.refl _⟩, trivial⟩, List.Sublist.refl _⟩⟩
      | some p =>
        obtain ⟨b0, cap0, cs0⟩ := p
        obtain ⟨hj0, htk⟩ := hz
        refine ⟨?_, by simp, cs0, (H), Heap.Rem.here, htk.le, htk.max, htk.room, fun b cap rest k1 k2 k3 k4 => ?_⟩
        · simp only [List.length_cons, List.length_nil]
          show _ * (40 + 1) ≤ _
          omega
        have hok : MvOk 3 (j + 1) ((t.levels.take (j + 1)).map lvA) (H) (some (b, cap, cs0.take (j * 3) ++ [lvX t.levels[j]].flatMap AV.cells ++ rest)) := by
          rw [← hsn]
          exact ⟨by omega, htk.next (wide_lvs _) rfl k1 k2 k3 k4⟩
        refine ⟨in64_of (by first | omega | (dsimp only; omega)) (by first | omega | (dsimp only; omega)), ?_⟩
        exact ⟨(some (b, cap, cs0.take (j * 3) ++ [lvX t.levels[j]].flatMap AV.cells ++ rest), j + 1), ⟨by simp only; omega, hok⟩, by (try dsimp only); omega, ⟨⟨⟨rfl, rfl⟩, ⟨rfl, rfl⟩, ⟨rfl, rfl⟩, Le.refl _, trivial⟩, ⟨⟨rfl, ⟨Le.refl _, Le.refl _, Le.refl _, Le.refl _, Le.refl _, trivial⟩⟩, ⟨rfl, LeL.refl _⟩, ⟨rfl, LeL.refl _⟩, trivial⟩, List.Sublist.refl _⟩⟩
    · simp only [List.length_map] at h1
      have hj' : t.levels.length = j := by omega
      subst hj'
      rw [List.take_length] at hz
      refine ⟨Mv × Nat, fun p => ⟨[(1, .lp 1 0), (2, .lp 2 0), (3, .lp 3 0), (5, .g (.i p.2))], [(3, [.i t.kind, .i t.n, .str t.name, mvV 3 m t.levels.length, mvS p.1 p.2]), (2, [.i 0, .i 0, .str [], .sl .full 0 [], .sl .full 0 []]), (1, (tmX t).cells)], mvH p.1 (mvH m H)⟩,
        fun p => p.2 ≤ t.args.length ∧ MvOk 5 p.2 ((t.args.take p.2).map tmA) (mvH m H) p.1, fun p => t.args.length - p.2, ⟨(none, 0), ⟨Nat.zero_le _, ⟨rfl, rfl⟩⟩, ?_⟩, ?_⟩
      · exact ⟨⟨⟨rfl, rfl⟩, ⟨rfl, rfl⟩, ⟨rfl, rfl⟩, Le.refl _, trivial⟩, ⟨⟨rfl, ⟨Le.refl _, Le.refl _, Le.refl _, mvS_le 3 m _, Le.refl _, trivial⟩⟩, ⟨rfl, LeL.refl _⟩, ⟨rfl, LeL.refl _⟩, trivial⟩, List.Sublist.refl _⟩
      · rintro ⟨mA, j⟩ ⟨hj, hzA⟩
        simp only at hj hzA
        refine ifB_dec (fun h1 => ?_) (fun h1 => ?_)
        · simp only [List.length_map] at h1
          have hlt : j < t.args.length := by omega
          have hmem := Tm.nodesL_mem (List.getElem_mem hlt)
          have hsn : (t.args.take j).map tmA ++ [tmX t.args[j]] = (t.args.take (j + 1)).map tmA := by rw [List.take_succ_eq_append_getElem hlt, List.map_append, ← tmA_eq]; rfl
          refine ⟨[0, 1, 2, 3, 4, 5, 6, 7, 8, 9, 10, 11], [], by kernel_rfl, by simp, ?_⟩
          refine ⟨j, rfl, _, tmAt' hlt, ?_⟩
          refine ⟨_, LeL.refl _, CopyTerm_con _ t.args[j] (Nat.le_refl _) (by omega) _ _ ?_⟩
          intro hz1 hz2; clear hz1 hz2
          cases mA with
          | none =>
            have hj0 : j = 0 := hzA.1
            subst hj0
            refine ⟨(by show (0 + 1) * (80 + 1) ≤ 140737488355328; decide), by simp, rfl, fun b cap rest k1 k2 k3 k4 => ?_⟩
            have hok : MvOk 5 1 ((t.args.take (0 + 1)).map tmA) (mvH m H) (some (b, cap, ([] ++ [tmX t.args[0]]).flatMap AV.cells ++ rest)) := by
              rw [← hsn]
              exact ⟨by decide, TurnOk.first rfl k1 k2 k3 k4⟩
            refine ⟨in64_of (by first | omega | (dsimp only; omega)) (by first | omega | (dsimp only; omega)), ?_⟩
            exact ⟨(some (b, cap, ([] ++ [tmX t.args[0]]).flatMap AV.cells ++ rest), 1), ⟨by simp only; omega, hok⟩, by (try dsimp only); omega, ⟨⟨⟨rfl, rfl⟩, ⟨rfl, rfl⟩, ⟨rfl, rfl⟩, Le.refl _, trivial⟩, ⟨⟨rfl, ⟨Le.refl _, Le.refl _, Le.refl _, Le.refl _, Le.refl _, trivial⟩⟩, ⟨rfl, LeL.refl _⟩, ⟨rfl, LeL.refl _⟩, trivial⟩, List.Sublist.refl _⟩⟩
          | some p =>
            obtain ⟨b0, cap0, cs0⟩ := p
            obtain ⟨hj0, htk⟩ := hzA
            refine ⟨?_, by simp, cs0, (mvH m H), Heap.Rem.here, htk.le, htk.max, htk.room, fun b cap rest k1 k2 k3 k4 => ?_⟩
            · simp only [List.length_cons, List.length_nil]
              show _ * (80 + 1) ≤ _
              omega
            have hok : MvOk 5 (j + 1) ((t.args.take (j + 1)).map tmA) (mvH m H) (some (b, cap, cs0.take (j * 5) ++ [tmX t.args[j]].flatMap AV.cells ++ rest)) := by
              rw [← hsn]
              exact ⟨by omega, htk.next (wide_tms _) rfl k1 k2 k3 k4⟩
            refine ⟨in64_of (by first | omega | (dsimp only; omega)) (by first | omega | (dsimp only; omega)), ?_⟩
            exact ⟨(some (b, cap, cs0.take (j * 5) ++ [tmX t.args[j]].flatMap AV.cells ++ rest), j + 1), ⟨by simp only; omega, hok⟩, by (try dsimp only); omega, ⟨⟨⟨rfl, rfl⟩, ⟨rfl, rfl⟩, ⟨rfl, rfl⟩, Le.refl _, trivial⟩, ⟨⟨rfl, ⟨Le.refl _, Le.refl _, Le.refl _, Le.refl _, Le.refl _, trivial⟩⟩, ⟨rfl, LeL.refl _⟩, ⟨rfl, LeL.refl _⟩, trivial⟩, List.Sublist.refl _⟩⟩
        · simp only [List.length_map] at h1
          have hj' : t.args.length = j := by omega
          subst hj'
          rw [List.take_length] at hzA
          have hfin : Le (.agg [.i t.kind, .i t.n, .str t.name, mvV 3 m t.levels.length, mvS mA t.args.length]) (tmM t m mA) := Le.agg ⟨Le.refl _, Le.refl _, Le.refl _, Le.refl _, mvS_le 5 mA _, trivial⟩
          exact ⟨_, _, hfin, List.Sublist.refl _, hq m mA hz hzA⟩
set_option maxRecDepth 100000 in
theorem CopyTexts2_con (ss : List (List UInt8)) (hl : ss.length ≤ 1000000) (H : Heap) (Q : AV → Heap → Prop) (hq : ∀ m : Mv, MvOk 1 ss.length (ss.map .str) H m → Q (mvV 1 m ss.length) (mvH m H)) : Con Tryz.prog 43 [.sl .no 1 (ss.map .str)] H Q := by
  cases ss with
  | nil =>
    refine con_of_awp (esc := fun _ => false) tab_ok mixed Tryz.func43 rfl (ent Tryz.func43 (by kernel_rfl) rfl) (by kernel_rfl) ?_
    intro hw hn
    refine ⟨by decide, ?_⟩
    exact ⟨_, H, Le.own _ _ _, List.Sublist.refl _, hq none ⟨rfl, rfl⟩⟩
  | cons s0 ss0 =>
    obtain ⟨ss, hss⟩ : ∃ ss, ss = s0 :: ss0 := ⟨_, rfl⟩
    rw [← hss] at hl hq ⊢
    have hne : ss.length ≠ 0 := by rw [hss]; simp
    have e1 : ([] : List AV).length + (ss.map AV.str).length = ss.length := by simp
    have hfl := flat_len (wide_sts ss)
    refine con_of_awp (esc := ([7].contains ·)) tab_ok mixed Tryz.func43 rfl (ent Tryz.func43 (by kernel_rfl) rfl) (by kernel_rfl) ?_
    intro hw hn
    clear hw hn
    refine ifNil_or (fun h => ?_) (fun h => ?_)
    · have h0 : ss.length = 0 := by simpa using congrArg List.length h
      exact absurd h0 hne
    · refine ⟨?_, h, rfl, fun b cap rest k1 k2 k3 k4 => ?_⟩
      · simp only [List.length_map, List.length_nil]
        show _ * (16 + 1) ≤ _
        omega
      have k2' : ss.length ≤ cap := by rw [e1] at k2; exact k2
      have k4' : rest.length = cap - ss.length := by rw [e1] at k4; rw [k4]; exact Nat.mul_one _
      have hok : TurnOk 1 ss.length (ss.map .str) H b cap (([] ++ ss.map AV.str).flatMap AV.cells ++ rest) := by
        refine ⟨by simp, k1, k2', k3, ?_, ?_⟩
        · rw [List.nil_append, List.length_append, hfl, k4', List.length_map]; omega
        · rw [List.nil_append, List.take_left']
          rw [hfl, List.length_map]
      refine ⟨_, _, le_of_eq ?_, List.Sublist.refl _, hq (some (b, cap, _)) ⟨hne, hok⟩⟩
      show hs b (([] : List AV).length + (ss.map AV.str).length) cap = hs b ss.length cap
      rw [e1]
end Go.Proofs.YtnffnfkpicnhdaaGreatDoor

/-
  EnvKeeps: the law's walk. No condition.
-/
namespace Go.Proofs.YtnffnfkpicnhdaaGreatDoor
open Go.RowKit

/-! how great a right term's first numbers are -/
theorem node_n {v k m : Int} {nm : List UInt8} {ls xs : Nat} (h : tmNode v k m nm ls xs = true) : 0 ≤ m ∧ (m < v ∨ m = 0) := by
  unfold tmNode at h
  split at h
  · simp only [Bool.and_eq_true, decide_eq_true_eq] at h; omega
  · split at h
    · simp only [Bool.and_eq_true, decide_eq_true_eq] at h; omega
    · split at h
      · simp only [Bool.and_eq_true, decide_eq_true_eq] at h; omega
      · split at h
        · simp only [Bool.and_eq_true, decide_eq_true_eq] at h; omega
        · split at h
          · simp only [Bool.and_eq_true, decide_eq_true_eq] at h; omega
          · cases h
theorem lnode_n {v k m : Int} {xs : Nat} (hv : v ≤ 4) (h : lvNode v k m xs = true) : 0 ≤ m ∧ m ≤ 100 := by
  unfold lvNode at h
  split at h
  · simp only [Bool.and_eq_true, decide_eq_true_eq] at h; omega
  · split at h
    · simp only [Bool.and_eq_true, decide_eq_true_eq] at h; omega
    · split at h
      · simp only [Bool.and_eq_true, decide_eq_true_eq] at h; omega
      · split at h
        · simp only [Bool.and_eq_true, decide_eq_true_eq] at h; omega
        · cases h
theorem fit_n {p v : Int} {t : Tm} (h : tmFit p t v = true) : 0 ≤ t.n ∧ (t.n < v ∨ t.n = 0) := by
  cases t with
  | mk k m nm ls xs =>
    rw [tmFit, Bool.and_eq_true, Bool.and_eq_true] at h
    exact node_n h.1.1
theorem head_n {p : Int} {t : Tm} (h : tmRight p 0 t = true) (hp : 0 < t.args.length) : 0 ≤ (t.args[0]).n ∧ (t.args[0]).n ≤ 1 := by
  unfold tmRight at h
  simp only [Bool.and_eq_true, decide_eq_true_eq] at h
  obtain ⟨_, hf⟩ := h
  cases t with
  | mk k m nm ls xs =>
    rw [tmFit, Bool.and_eq_true] at hf
    obtain ⟨_, hx⟩ := hf
    cases xs with
    | nil => exact absurd hp (Nat.not_lt_zero _)
    | cons a r =>
      rw [tmFitL, Bool.and_eq_true] at hx
      have := fit_n hx.1
      show 0 ≤ a.n ∧ a.n ≤ 1
      split at this <;> omega
theorem head_ln {p : Int} {t : Tm} (h : tmRight p 0 t = true) (hp : 0 < t.levels.length) : 0 ≤ (t.levels[0]).n ∧ (t.levels[0]).n ≤ 100 := by
  unfold tmRight at h
  simp only [Bool.and_eq_true, decide_eq_true_eq] at h
  obtain ⟨⟨⟨⟨_, hp4⟩, _⟩, _⟩, hf⟩ := h
  cases t with
  | mk k m nm ls xs =>
    rw [tmFit, Bool.and_eq_true, Bool.and_eq_true] at hf
    have hl := hf.1.2
    unfold lvRightL at hl
    have hp2 : 0 < ls.length := hp
    have h0 : lvRight p (ls[0]'hp2) = true := List.all_eq_true.1 hl _ (List.getElem_mem hp2)
    unfold lvRight at h0
    rw [Bool.and_eq_true] at h0
    have h1 := h0.2
    obtain ⟨l, hle⟩ : ∃ l, l = ls[0]'hp2 := ⟨_, rfl⟩
    rw [← hle] at h1
    show 0 ≤ (ls[0]'hp2).n ∧ (ls[0]'hp2).n ≤ 100
    rw [← hle]
    cases l with
    | mk k2 m2 r =>
      rw [lvFit, Bool.and_eq_true] at h1
      exact lnode_n hp4 h1.1
/-! rows in memory -/
theorem MvOk.bare {size n : Nat} {xs : List AV} {H : Heap} {m : Mv} (h : MvOk size n xs H m) : MvOk size n xs [] m := by
  cases m with
  | none => exact h
  | some p => exact ⟨h.1, h.2.len, by simp [Heap.keys], h.2.le, h.2.max, h.2.room, h.2.here⟩
theorem MvIn.at {size n : Nat} {xs : List AV} {H H' : Heap} {m : Mv} (h : MvOk size n xs H m) (hin : ∀ p, p ∈ mvH m [] → p ∈ H') : MvIn n xs H' m := by
  cases m with
  | none => exact h.1
  | some p =>
    obtain ⟨b, cap, cs⟩ := p
    exact ⟨hin _ List.mem_cons_self, cs.drop (n * size), by rw [← h.2.here, List.take_append_drop], h.2.le, h.2.max⟩
theorem mv_in {m : Mv} {H : Heap} {p : Nat × AObj} (h : p ∈ mvH m []) : p ∈ mvH m H := by
  cases m with
  | none => cases h
  | some q =>
    rcases List.mem_cons.1 h with h | h
    · rw [h]; exact List.mem_cons_self
    · cases h
theorem sub_mv (m : Mv) (H : Heap) : H.Sublist (mvH m H) := by
  cases m with
  | none => exact List.Sublist.refl _
  | some p => exact List.sublist_cons_self _ _
theorem sub3 (mL mA mC : Mv) (H : Heap) : H.Sublist (mvH mC (mvH mA (mvH mL H))) := (sub_mv mL H).trans ((sub_mv mA _).trans (sub_mv mC _))
theorem at_mv {b : Nat} {x y : AObj} {H H' : Heap} (h : Heap.At b x y H H') (m : Mv) : Heap.At b x y (mvH m H) (mvH m H') := by
  cases m with
  | none => exact h
  | some p => exact .there h
theorem TurnOk.headTm {n : Nat} {ts : List Tm} {H : Heap} {b cap : Nat} {cs : List AV} (h : TurnOk 5 n (ts.map tmA) H b cap cs) (hp : 0 < ts.length) : ∃ r, cs = .i ts[0].kind :: .i ts[0].n :: .str ts[0].name :: .sl .no 3 (ts[0].levels.map lvA) :: .sl .no 5 (ts[0].args.map tmA) :: r := by
  rw [← List.take_append_drop (n * 5) cs, h.here]
  exact ⟨_, row_tm hp⟩
theorem TurnOk.headLv {n : Nat} {ts : List Lv} {H : Heap} {b cap : Nat} {cs : List AV} (h : TurnOk 3 n (ts.map lvA) H b cap cs) (hp : 0 < ts.length) : ∃ r, cs = .i ts[0].kind :: .i ts[0].n :: .sl .no 3 (ts[0].args.map lvA) :: r := by
  rw [← List.take_append_drop (n * 3) cs, h.here]
  exact ⟨_, row_lv hp⟩
theorem TurnOk.headSt {n : Nat} {ss : List (List UInt8)} {H : Heap} {b cap : Nat} {cs : List AV} (h : TurnOk 1 n (ss.map .str) H b cap cs) (hp : 0 < ss.length) : ∃ r, cs = .str ss[0] :: r := by
  rw [← List.take_append_drop (n * 1) cs, h.here, flat_strs]
  cases ss with
  | nil => exact absurd hp (Nat.not_lt_zero _)
  | cons s ss => exact ⟨_, rfl⟩
set_option maxRecDepth 100000 in
set_option maxHeartbeats 4000000 in
theorem envKeeps_con (e : En) : Ans Tryz.prog 7 [enX e] (.b true) := by
  intro H Q hq
  have fin : ∃ r H', Le (.b true) r ∧ List.Sublist H' H ∧ Q r H' := ⟨_, H, Le.refl _, List.Sublist.refl _, hq⟩
  refine con_of_sem tab_ok Tryz.func7 rfl (ent Tryz.func7 (by kernel_rfl) rfl) (by kernel_rfl) ?_
  intro hw hn
  clear hw hn
  refine sem_seq (esc := fun _ => false) tab_ok mixed ?_
  refine sem_seq (esc := fun _ => false) tab_ok mixed ?_
  refine ⟨_, LeL.refl _, alive12_con _ _ ?_⟩
  intro hz1 hz2; clear hz1 hz2
  refine sem_seq (esc := fun _ => false) tab_ok mixed ?_
  refine ⟨_, LeL.refl _, Great11_con e _ _ fun g _ => ?_⟩
  intro hz1 hz2; clear hz1 hz2
  cases g with
  | true => exact fin
  | false =>
    cases hr : enRight e with
    | false =>
      refine ⟨_, LeL.refl _, (ref11Right_con e).as hr _ _ ?_⟩
      intro hz1 hz2; clear hz1 hz2
      exact fin
    | true =>
      obtain ⟨s1, s2, s3⟩ := enRight_small hr
      have htr : tmRight e.params 0 e.type = true := by
        have := hr
        unfold enRight at this
        simp only [Bool.and_eq_true] at this
        exact this.2.2.2.1
      have hpl : Places (putT e.name ((0 : Nat) : Int) .nil) [e] := Places.nil.put (e := e) (fun d hd => by cases hd)
      have hge : envGet [e] e.name = (e, true) := envGet_yes hpl (i := 0) (by simp)
      have hself : enEq e e = true := (enEq_iff _ _).2 rfl
      refine ⟨_, LeL.refl _, (ref11Right_con e).as hr _ _ ?_⟩
      intro hz1 hz2; clear hz1 hz2
      refine sem_seq (esc := fun _ => false) tab_ok mixed ?_
      refine sem_seq (esc := fun _ => false) tab_ok mixed ?_
      refine ⟨[tmX e.type], LeL.refl _, CopyTerm2_con e.type (by omega) _ _ fun mL mA hL hA => ?_⟩
      intro hz1 hz2; clear hz1 hz2
      refine sem_join (esc := fun _ => false) tab_ok mixed (X := Mv) (fun q => ⟨[(1, .lp 1 0), (2, .g (.b false)), (3, .lp 3 0)], [(3, (enM3 e (mvV 3 mL e.type.levels.length) (mvV 5 mA e.type.args.length) (mvV 1 q e.ctors.length)).cells), (1, (enX e).cells)], mvH q (mvH mA (mvH mL H))⟩) (fun q => MvOk 1 e.ctors.length (e.ctors.map .str) (mvH mA (mvH mL H)) q) ?_ (fun mC hC => ?_)
      · refine ⟨[.sl .no 1 (e.ctors.map .str)], LeL.refl _, CopyTexts2_con e.ctors (by omega) _ _ fun q hC => ?_⟩
        intro hz1 hz2; clear hz1 hz2
        cases q with
        | none =>
          refine ⟨none, hC, ?_⟩
          exact ⟨⟨⟨rfl, rfl⟩, Le.refl _, ⟨rfl, rfl⟩, trivial⟩, ⟨⟨rfl, LeL.refl _⟩, ⟨rfl, LeL.refl _⟩, trivial⟩, List.Sublist.refl _⟩
        | some p =>
          obtain ⟨b, cap, cs⟩ := p
          refine ⟨some (b, cap, cs), hC, ?_⟩
          exact ⟨⟨⟨rfl, rfl⟩, Le.refl _, ⟨rfl, rfl⟩, trivial⟩, ⟨⟨rfl, LeL.refl _⟩, ⟨rfl, LeL.refl _⟩, trivial⟩, List.Sublist.refl _⟩
      refine sem_seq (esc := fun _ => false) tab_ok mixed ?_
      refine ⟨[1, 2, 0, 3, 4, 5, 6, 7, 8], [], by kernel_rfl, by simp, ?_⟩
      refine ⟨_, LeL.refl _, envNew_con _ _ ?_⟩
      intro hz1 hz2; clear hz1 hz2
      refine ⟨[envX .nil [], .sl .full 19 [enM3 e (mvV 3 mL e.type.levels.length) (mvV 5 mA e.type.args.length) (mvV 1 mC e.ctors.length)]], LeL.refl _, envAddOneM_con hr _ (MvIn.at hL fun p hp => mvH_mem (mvH_mem (mv_in hp))) (MvIn.at hA fun p hp => mvH_mem (mv_in hp)) (MvIn.at hC fun p hp => mv_in hp) ?_⟩
      intro hz1 hz2; clear hz1 hz2
      refine sem_le ⟨[(1, .lp 1 0), (2, .g (.b false)), (3, .lp 3 0), (4, .g (envX (putT e.name ((0 : Nat) : Int) .nil) [e])), (5, .g (.i 0))], [(3, (enM3 e (mvV 3 mL e.type.levels.length) (mvV 5 mA e.type.args.length) (mvV 1 mC e.ctors.length)).cells), (1, (enX e).cells)], mvH mC (mvH mA (mvH mL H))⟩ ?_ ?_
      · exact ⟨⟨⟨rfl, rfl⟩, Le.refl _, ⟨rfl, rfl⟩, Le.refl _, Le.refl _, trivial⟩, ⟨⟨rfl, LeL.refl _⟩, ⟨rfl, LeL.refl _⟩, trivial⟩, List.Sublist.refl _⟩
      refine sem_seq (esc := fun _ => false) tab_ok mixed ?_
      refine sem_of (esc := fun _ => false) tab_ok mixed ?_
      refine ⟨Mv × Mv × Mv × Nat, fun x => ⟨[(1, .lp 1 0), (2, .g (.b false)), (3, .lp 3 0), (4, .g (envX (putT e.name ((0 : Nat) : Int) .nil) [e])), (6, .g (.i x.2.2.2))], [(3, (enM3 e (mvV 3 x.1 e.type.levels.length) (mvV 5 x.2.1 e.type.args.length) (mvV 1 x.2.2.1 e.ctors.length)).cells), (1, (enX e).cells)], mvH x.2.2.1 (mvH x.2.1 (mvH x.1 H))⟩,
        fun x => x.2.2.2 ≤ 2 ∧ MvOk 3 e.type.levels.length (e.type.levels.map lvA) [] x.1 ∧ MvOk 5 e.type.args.length (e.type.args.map tmA) [] x.2.1 ∧ MvOk 1 e.ctors.length (e.ctors.map .str) [] x.2.2.1, fun x => 2 - x.2.2.2, ⟨(mL, mA, mC, 0), ⟨Nat.zero_le _, hL.bare, hA.bare, hC.bare⟩, ?_⟩, ?_⟩
      · exact ⟨⟨⟨rfl, rfl⟩, Le.refl _, ⟨rfl, rfl⟩, Le.refl _, Le.refl _, trivial⟩, ⟨⟨rfl, LeL.refl _⟩, ⟨rfl, LeL.refl _⟩, trivial⟩, List.Sublist.refl _⟩
      · clear hL hA hC mL mA mC
        rintro ⟨mL, mA, mC, i⟩ ⟨hi, hL, hA, hC⟩
        simp only at hi hL hA hC
        by_cases hi2 : i < 2
        · cases mC with
          | none =>
            cases mL with
            | none =>
              cases mA with
              | none =>
                refine ifB_t (show (i : Int) < 2 by omega) ?_
                refine ⟨[envX (putT e.name ((0 : Nat) : Int) .nil) [e], .str e.name], LeL.refl _, envGetM_con (putT e.name ((0 : Nat) : Int) .nil) [e] hpl e.name hge hr (mvH (none) (mvH (none) (mvH (none) H))) _ fun mL2 mA2 mC2 hL2 hA2 hC2 => ?_⟩
                intro hz1 hz2; clear hz1 hz2
                refine ⟨[enM3 e (mvV 3 mL2 e.type.levels.length) (mvV 5 mA2 e.type.args.length) (mvV 1 mC2 e.ctors.length), enX e], LeL.refl _, Con.look (args' := [enX e, enX e]) (q := true) ((SameEntry_con e e).as hself) (fun M hM => ⟨see3 (MvIn.at hL2 fun p hp => mvH_mem (mvH_mem (mv_in hp))) (MvIn.at hA2 fun p hp => mvH_mem (mv_in hp)) (MvIn.at hC2 fun p hp => mv_in hp) hM, LeM.refl _, trivial⟩) ?_⟩
                intro hz1 hz2; clear hz1 hz2
                refine ⟨in64_of (by first | omega | (dsimp only; omega)) (by first | omega | (dsimp only; omega)), ?_⟩
                refine ⟨(mL2, mA2, mC2, i + 1), ⟨by simp only; omega, hL2.bare, hA2.bare, hC2.bare⟩, by (try dsimp only); omega, ?_⟩
                exact ⟨⟨⟨rfl, rfl⟩, Le.refl _, ⟨rfl, rfl⟩, Le.refl _, Le.refl _, trivial⟩, ⟨⟨rfl, LeL.refl _⟩, ⟨rfl, LeL.refl _⟩, trivial⟩, mvH_sub (mvH_sub (mvH_sub (sub3 (none) (none) (none) H)))⟩
              | some p =>
                obtain ⟨bA, capA, csA⟩ := p
                have hposA : 0 < e.type.args.length := Nat.pos_of_ne_zero hA.1
                have hbA := head_n htr hposA
                obtain ⟨rA, rfl⟩ := hA.2.headTm hposA
                refine ifB_t (show (i : Int) < 2 by omega) ?_
                refine ifB_t (show (0 : Int) < (e.type.args.length : Nat) by omega) ?_
                refine ⟨0, rfl, hposA, ?_⟩
                refine ⟨_, mvH_mem (m := none) (H := (bA, AObj.cells (.i e.type.args[0].kind :: .i e.type.args[0].n :: .str e.type.args[0].name :: .sl .no 3 (e.type.args[0].levels.map lvA) :: .sl .no 5 (e.type.args[0].args.map tmA) :: rA)) :: mvH (none) H) List.mem_cons_self, ?_⟩
                refine ⟨in64_of (by first | omega | (dsimp only; omega)) (by first | omega | (dsimp only; omega)), ?_⟩
                refine ⟨0, rfl, hposA, ?_⟩
                refine ⟨_, mvH (none) ((bA, .cells (.i e.type.args[0].kind :: .i (e.type.args[0].n + 7) :: .str e.type.args[0].name :: .sl .no 3 (e.type.args[0].levels.map lvA) :: .sl .no 5 (e.type.args[0].args.map tmA) :: rA)) :: mvH (none) H), at_mv .here (none), (by show 1 + 1 ≤ List.length _; simp only [List.length_cons]; omega), ?_⟩
                refine ⟨[envX (putT e.name ((0 : Nat) : Int) .nil) [e], .str e.name], LeL.refl _, envGetM_con (putT e.name ((0 : Nat) : Int) .nil) [e] hpl e.name hge hr (mvH (none) (mvH (some (bA, capA, .i e.type.args[0].kind :: .i (e.type.args[0].n + 7) :: .str e.type.args[0].name :: .sl .no 3 (e.type.args[0].levels.map lvA) :: .sl .no 5 (e.type.args[0].args.map tmA) :: rA)) (mvH (none) H))) _ fun mL2 mA2 mC2 hL2 hA2 hC2 => ?_⟩
                intro hz1 hz2; clear hz1 hz2
                refine ⟨[enM3 e (mvV 3 mL2 e.type.levels.length) (mvV 5 mA2 e.type.args.length) (mvV 1 mC2 e.ctors.length), enX e], LeL.refl _, Con.look (args' := [enX e, enX e]) (q := true) ((SameEntry_con e e).as hself) (fun M hM => ⟨see3 (MvIn.at hL2 fun p hp => mvH_mem (mvH_mem (mv_in hp))) (MvIn.at hA2 fun p hp => mvH_mem (mv_in hp)) (MvIn.at hC2 fun p hp => mv_in hp) hM, LeM.refl _, trivial⟩) ?_⟩
                intro hz1 hz2; clear hz1 hz2
                refine ⟨in64_of (by first | omega | (dsimp only; omega)) (by first | omega | (dsimp only; omega)), ?_⟩
                refine ⟨(mL2, mA2, mC2, i + 1), ⟨by simp only; omega, hL2.bare, hA2.bare, hC2.bare⟩, by (try dsimp only); omega, ?_⟩
                exact ⟨⟨⟨rfl, rfl⟩, Le.refl _, ⟨rfl, rfl⟩, Le.refl _, Le.refl _, trivial⟩, ⟨⟨rfl, LeL.refl _⟩, ⟨rfl, LeL.refl _⟩, trivial⟩, mvH_sub (mvH_sub (mvH_sub (sub3 (none) (some (bA, capA, .i e.type.args[0].kind :: .i (e.type.args[0].n + 7) :: .str e.type.args[0].name :: .sl .no 3 (e.type.args[0].levels.map lvA) :: .sl .no 5 (e.type.args[0].args.map tmA) :: rA)) (none) H)))⟩
            | some p =>
              obtain ⟨bL, capL, csL⟩ := p
              have hposL : 0 < e.type.levels.length := Nat.pos_of_ne_zero hL.1
              have hbL := head_ln htr hposL
              obtain ⟨rL, rfl⟩ := hL.2.headLv hposL
              cases mA with
              | none =>
                refine ifB_t (show (i : Int) < 2 by omega) ?_
                refine ifB_t (show (0 : Int) < (e.type.levels.length : Nat) by omega) ?_
                refine ⟨0, rfl, hposL, ?_⟩
                refine ⟨_, mvH_mem (m := none) (H := mvH (none) ((bL, AObj.cells (.i e.type.levels[0].kind :: .i e.type.levels[0].n :: .sl .no 3 (e.type.levels[0].args.map lvA) :: rL)) :: H)) (mvH_mem (m := none) (H := (bL, AObj.cells (.i e.type.levels[0].kind :: .i e.type.levels[0].n :: .sl .no 3 (e.type.levels[0].args.map lvA) :: rL)) :: H) List.mem_cons_self), ?_⟩
                refine ⟨in64_of (by first | omega | (dsimp only; omega)) (by first | omega | (dsimp only; omega)), ?_⟩
                refine ⟨0, rfl, hposL, ?_⟩
                refine ⟨_, mvH (none) (mvH (none) ((bL, .cells (.i e.type.levels[0].kind :: .i (e.type.levels[0].n + 7) :: .sl .no 3 (e.type.levels[0].args.map lvA) :: rL)) :: H)), at_mv (at_mv .here (none)) (none), (by show 1 + 1 ≤ List.length _; simp only [List.length_cons]; omega), ?_⟩
                refine ⟨[envX (putT e.name ((0 : Nat) : Int) .nil) [e], .str e.name], LeL.refl _, envGetM_con (putT e.name ((0 : Nat) : Int) .nil) [e] hpl e.name hge hr (mvH (none) (mvH (none) (mvH (some (bL, capL, .i e.type.levels[0].kind :: .i (e.type.levels[0].n + 7) :: .sl .no 3 (e.type.levels[0].args.map lvA) :: rL)) H))) _ fun mL2 mA2 mC2 hL2 hA2 hC2 => ?_⟩
                intro hz1 hz2; clear hz1 hz2
                refine ⟨[enM3 e (mvV 3 mL2 e.type.levels.length) (mvV 5 mA2 e.type.args.length) (mvV 1 mC2 e.ctors.length), enX e], LeL.refl _, Con.look (args' := [enX e, enX e]) (q := true) ((SameEntry_con e e).as hself) (fun M hM => ⟨see3 (MvIn.at hL2 fun p hp => mvH_mem (mvH_mem (mv_in hp))) (MvIn.at hA2 fun p hp => mvH_mem (mv_in hp)) (MvIn.at hC2 fun p hp => mv_in hp) hM, LeM.refl _, trivial⟩) ?_⟩
                intro hz1 hz2; clear hz1 hz2
                refine ⟨in64_of (by first | omega | (dsimp only; omega)) (by first | omega | (dsimp only; omega)), ?_⟩
                refine ⟨(mL2, mA2, mC2, i + 1), ⟨by simp only; omega, hL2.bare, hA2.bare, hC2.bare⟩, by (try dsimp only); omega, ?_⟩
                exact ⟨⟨⟨rfl, rfl⟩, Le.refl _, ⟨rfl, rfl⟩, Le.refl _, Le.refl _, trivial⟩, ⟨⟨rfl, LeL.refl _⟩, ⟨rfl, LeL.refl _⟩, trivial⟩, mvH_sub (mvH_sub (mvH_sub (sub3 (some (bL, capL, .i e.type.levels[0].kind :: .i (e.type.levels[0].n + 7) :: .sl .no 3 (e.type.levels[0].args.map lvA) :: rL)) (none) (none) H)))⟩
              | some p =>
                obtain ⟨bA, capA, csA⟩ := p
                have hposA : 0 < e.type.args.length := Nat.pos_of_ne_zero hA.1
                have hbA := head_n htr hposA
                obtain ⟨rA, rfl⟩ := hA.2.headTm hposA
                refine ifB_t (show (i : Int) < 2 by omega) ?_
                refine ifB_t (show (0 : Int) < (e.type.args.length : Nat) by omega) ?_
                refine ⟨0, rfl, hposA, ?_⟩
                refine ⟨_, mvH_mem (m := none) (H := (bA, AObj.cells (.i e.type.args[0].kind :: .i e.type.args[0].n :: .str e.type.args[0].name :: .sl .no 3 (e.type.args[0].levels.map lvA) :: .sl .no 5 (e.type.args[0].args.map tmA) :: rA)) :: mvH (some (bL, capL, .i e.type.levels[0].kind :: .i e.type.levels[0].n :: .sl .no 3 (e.type.levels[0].args.map lvA) :: rL)) H) List.mem_cons_self, ?_⟩
                refine ⟨in64_of (by first | omega | (dsimp only; omega)) (by first | omega | (dsimp only; omega)), ?_⟩
                refine ⟨0, rfl, hposA, ?_⟩
                refine ⟨_, mvH (none) ((bA, .cells (.i e.type.args[0].kind :: .i (e.type.args[0].n + 7) :: .str e.type.args[0].name :: .sl .no 3 (e.type.args[0].levels.map lvA) :: .sl .no 5 (e.type.args[0].args.map tmA) :: rA)) :: mvH (some (bL, capL, .i e.type.levels[0].kind :: .i e.type.levels[0].n :: .sl .no 3 (e.type.levels[0].args.map lvA) :: rL)) H), at_mv .here (none), (by show 1 + 1 ≤ List.length _; simp only [List.length_cons]; omega), ?_⟩
                refine ifB_t (show (0 : Int) < (e.type.levels.length : Nat) by omega) ?_
                refine ⟨0, rfl, hposL, ?_⟩
                refine ⟨_, mvH_mem (m := none) (H := mvH (some (bA, capA, .i e.type.args[0].kind :: .i (e.type.args[0].n + 7) :: .str e.type.args[0].name :: .sl .no 3 (e.type.args[0].levels.map lvA) :: .sl .no 5 (e.type.args[0].args.map tmA) :: rA)) ((bL, AObj.cells (.i e.type.levels[0].kind :: .i e.type.levels[0].n :: .sl .no 3 (e.type.levels[0].args.map lvA) :: rL)) :: H)) (mvH_mem (m := some (bA, capA, .i e.type.args[0].kind :: .i (e.type.args[0].n + 7) :: .str e.type.args[0].name :: .sl .no 3 (e.type.args[0].levels.map lvA) :: .sl .no 5 (e.type.args[0].args.map tmA) :: rA)) (H := (bL, AObj.cells (.i e.type.levels[0].kind :: .i e.type.levels[0].n :: .sl .no 3 (e.type.levels[0].args.map lvA) :: rL)) :: H) List.mem_cons_self), ?_⟩
                refine ⟨in64_of (by first | omega | (dsimp only; omega)) (by first | omega | (dsimp only; omega)), ?_⟩
                refine ⟨0, rfl, hposL, ?_⟩
                refine ⟨_, mvH (none) (mvH (some (bA, capA, .i e.type.args[0].kind :: .i (e.type.args[0].n + 7) :: .str e.type.args[0].name :: .sl .no 3 (e.type.args[0].levels.map lvA) :: .sl .no 5 (e.type.args[0].args.map tmA) :: rA)) ((bL, .cells (.i e.type.levels[0].kind :: .i (e.type.levels[0].n + 7) :: .sl .no 3 (e.type.levels[0].args.map lvA) :: rL)) :: H)), at_mv (at_mv .here (some (bA, capA, .i e.type.args[0].kind :: .i (e.type.args[0].n + 7) :: .str e.type.args[0].name :: .sl .no 3 (e.type.args[0].levels.map lvA) :: .sl .no 5 (e.type.args[0].args.map tmA) :: rA))) (none), (by show 1 + 1 ≤ List.length _; simp only [List.length_cons]; omega), ?_⟩
                refine ⟨[envX (putT e.name ((0 : Nat) : Int) .nil) [e], .str e.name], LeL.refl _, envGetM_con (putT e.name ((0 : Nat) : Int) .nil) [e] hpl e.name hge hr (mvH (none) (mvH (some (bA, capA, .i e.type.args[0].kind :: .i (e.type.args[0].n + 7) :: .str e.type.args[0].name :: .sl .no 3 (e.type.args[0].levels.map lvA) :: .sl .no 5 (e.type.args[0].args.map tmA) :: rA)) (mvH (some (bL, capL, .i e.type.levels[0].kind :: .i (e.type.levels[0].n + 7) :: .sl .no 3 (e.type.levels[0].args.map lvA) :: rL)) H))) _ fun mL2 mA2 mC2 hL2 hA2 hC2 => ?_⟩
                intro hz1 hz2; clear hz1 hz2
                refine ⟨[enM3 e (mvV 3 mL2 e.type.levels.length) (mvV 5 mA2 e.type.args.length) (mvV 1 mC2 e.ctors.length), enX e], LeL.refl _, Con.look (args' := [enX e, enX e]) (q := true) ((SameEntry_con e e).as hself) (fun M hM => ⟨see3 (MvIn.at hL2 fun p hp => mvH_mem (mvH_mem (mv_in hp))) (MvIn.at hA2 fun p hp => mvH_mem (mv_in hp)) (MvIn.at hC2 fun p hp => mv_in hp) hM, LeM.refl _, trivial⟩) ?_⟩
                intro hz1 hz2; clear hz1 hz2
                refine ⟨in64_of (by first | omega | (dsimp only; omega)) (by first | omega | (dsimp only; omega)), ?_⟩
                refine ⟨(mL2, mA2, mC2, i + 1), ⟨by simp only; omega, hL2.bare, hA2.bare, hC2.bare⟩, by (try dsimp only); omega, ?_⟩
                exact ⟨⟨⟨rfl, rfl⟩, Le.refl _, ⟨rfl, rfl⟩, Le.refl _, Le.refl _, trivial⟩, ⟨⟨rfl, LeL.refl _⟩, ⟨rfl, LeL.refl _⟩, trivial⟩, mvH_sub (mvH_sub (mvH_sub (sub3 (some (bL, capL, .i e.type.levels[0].kind :: .i (e.type.levels[0].n + 7) :: .sl .no 3 (e.type.levels[0].args.map lvA) :: rL)) (some (bA, capA, .i e.type.args[0].kind :: .i (e.type.args[0].n + 7) :: .str e.type.args[0].name :: .sl .no 3 (e.type.args[0].levels.map lvA) :: .sl .no 5 (e.type.args[0].args.map tmA) :: rA)) (none) H)))⟩
          | some p =>
            obtain ⟨bC, capC, csC⟩ := p
            have hposC : 0 < e.ctors.length := Nat.pos_of_ne_zero hC.1
            obtain ⟨rC, rfl⟩ := hC.2.headSt hposC
            cases mL with
            | none =>
              cases mA with
              | none =>
                refine ifB_t (show (i : Int) < 2 by omega) ?_
                refine ifB_t (show (0 : Int) < (e.ctors.length : Nat) by omega) ?_
                refine ⟨0, rfl, hposC, ?_⟩
                refine ⟨_, (bC, .cells (.str [113] :: rC)) :: mvH (none) (mvH (none) H), .here, (by show 0 + 1 ≤ List.length _; simp only [List.length_cons]; omega), ?_⟩
                refine ⟨[envX (putT e.name ((0 : Nat) : Int) .nil) [e], .str e.name], LeL.refl _, envGetM_con (putT e.name ((0 : Nat) : Int) .nil) [e] hpl e.name hge hr (mvH (some (bC, capC, .str [113] :: rC)) (mvH (none) (mvH (none) H))) _ fun mL2 mA2 mC2 hL2 hA2 hC2 => ?_⟩
                intro hz1 hz2; clear hz1 hz2
                refine ⟨[enM3 e (mvV 3 mL2 e.type.levels.length) (mvV 5 mA2 e.type.args.length) (mvV 1 mC2 e.ctors.length), enX e], LeL.refl _, Con.look (args' := [enX e, enX e]) (q := true) ((SameEntry_con e e).as hself) (fun M hM => ⟨see3 (MvIn.at hL2 fun p hp => mvH_mem (mvH_mem (mv_in hp))) (MvIn.at hA2 fun p hp => mvH_mem (mv_in hp)) (MvIn.at hC2 fun p hp => mv_in hp) hM, LeM.refl _, trivial⟩) ?_⟩
                intro hz1 hz2; clear hz1 hz2
                refine ⟨in64_of (by first | omega | (dsimp only; omega)) (by first | omega | (dsimp only; omega)), ?_⟩
                refine ⟨(mL2, mA2, mC2, i + 1), ⟨by simp only; omega, hL2.bare, hA2.bare, hC2.bare⟩, by (try dsimp only); omega, ?_⟩
                exact ⟨⟨⟨rfl, rfl⟩, Le.refl _, ⟨rfl, rfl⟩, Le.refl _, Le.refl _, trivial⟩, ⟨⟨rfl, LeL.refl _⟩, ⟨rfl, LeL.refl _⟩, trivial⟩, mvH_sub (mvH_sub (mvH_sub (sub3 (none) (none) (some (bC, capC, .str [113] :: rC)) H)))⟩
              | some p =>
                obtain ⟨bA, capA, csA⟩ := p
                have hposA : 0 < e.type.args.length := Nat.pos_of_ne_zero hA.1
                have hbA := head_n htr hposA
                obtain ⟨rA, rfl⟩ := hA.2.headTm hposA
                refine ifB_t (show (i : Int) < 2 by omega) ?_
                refine ifB_t (show (0 : Int) < (e.type.args.length : Nat) by omega) ?_
                refine ⟨0, rfl, hposA, ?_⟩
                refine ⟨_, mvH_mem (m := some (bC, capC, .str e.ctors[0] :: rC)) (H := (bA, AObj.cells (.i e.type.args[0].kind :: .i e.type.args[0].n :: .str e.type.args[0].name :: .sl .no 3 (e.type.args[0].levels.map lvA) :: .sl .no 5 (e.type.args[0].args.map tmA) :: rA)) :: mvH (none) H) List.mem_cons_self, ?_⟩
                refine ⟨in64_of (by first | omega | (dsimp only; omega)) (by first | omega | (dsimp only; omega)), ?_⟩
                refine ⟨0, rfl, hposA, ?_⟩
                refine ⟨_, mvH (some (bC, capC, .str e.ctors[0] :: rC)) ((bA, .cells (.i e.type.args[0].kind :: .i (e.type.args[0].n + 7) :: .str e.type.args[0].name :: .sl .no 3 (e.type.args[0].levels.map lvA) :: .sl .no 5 (e.type.args[0].args.map tmA) :: rA)) :: mvH (none) H), at_mv .here (some (bC, capC, .str e.ctors[0] :: rC)), (by show 1 + 1 ≤ List.length _; simp only [List.length_cons]; omega), ?_⟩
                refine ifB_t (show (0 : Int) < (e.ctors.length : Nat) by omega) ?_
                refine ⟨0, rfl, hposC, ?_⟩
                refine ⟨_, (bC, .cells (.str [113] :: rC)) :: mvH (some (bA, capA, .i e.type.args[0].kind :: .i (e.type.args[0].n + 7) :: .str e.type.args[0].name :: .sl .no 3 (e.type.args[0].levels.map lvA) :: .sl .no 5 (e.type.args[0].args.map tmA) :: rA)) (mvH (none) H), .here, (by show 0 + 1 ≤ List.length _; simp only [List.length_cons]; omega), ?_⟩
                refine ⟨[envX (putT e.name ((0 : Nat) : Int) .nil) [e], .str e.name], LeL.refl _, envGetM_con (putT e.name ((0 : Nat) : Int) .nil) [e] hpl e.name hge hr (mvH (some (bC, capC, .str [113] :: rC)) (mvH (some (bA, capA, .i e.type.args[0].kind :: .i (e.type.args[0].n + 7) :: .str e.type.args[0].name :: .sl .no 3 (e.type.args[0].levels.map lvA) :: .sl .no 5 (e.type.args[0].args.map tmA) :: rA)) (mvH (none) H))) _ fun mL2 mA2 mC2 hL2 hA2 hC2 => ?_⟩
                intro hz1 hz2; clear hz1 hz2
                refine ⟨[enM3 e (mvV 3 mL2 e.type.levels.length) (mvV 5 mA2 e.type.args.length) (mvV 1 mC2 e.ctors.length), enX e], LeL.refl _, Con.look (args' := [enX e, enX e]) (q := true) ((SameEntry_con e e).as hself) (fun M hM => ⟨see3 (MvIn.at hL2 fun p hp => mvH_mem (mvH_mem (mv_in hp))) (MvIn.at hA2 fun p hp => mvH_mem (mv_in hp)) (MvIn.at hC2 fun p hp => mv_in hp) hM, LeM.refl _, trivial⟩) ?_⟩
                intro hz1 hz2; clear hz1 hz2
                refine ⟨in64_of (by first | omega | (dsimp only; omega)) (by first | omega | (dsimp only; omega)), ?_⟩
                refine ⟨(mL2, mA2, mC2, i + 1), ⟨by simp only; omega, hL2.bare, hA2.bare, hC2.bare⟩, by (try dsimp only); omega, ?_⟩
                exact ⟨⟨⟨rfl, rfl⟩, Le.refl _, ⟨rfl, rfl⟩, Le.refl _, Le.refl _, trivial⟩, ⟨⟨rfl, LeL.refl _⟩, ⟨rfl, LeL.refl _⟩, trivial⟩, mvH_sub (mvH_sub (mvH_sub (sub3 (none) (some (bA, capA, .i e.type.args[0].kind :: .i (e.type.args[0].n + 7) :: .str e.type.args[0].name :: .sl .no 3 (e.type.args[0].levels.map lvA) :: .sl .no 5 (e.type.args[0].args.map tmA) :: rA)) (some (bC, capC, .str [113] :: rC)) H)))⟩
            | some p =>
              obtain ⟨bL, capL, csL⟩ := p
              have hposL : 0 < e.type.levels.length := Nat.pos_of_ne_zero hL.1
              have hbL := head_ln htr hposL
              obtain ⟨rL, rfl⟩ := hL.2.headLv hposL
              cases mA with
              | none =>
                refine ifB_t (show (i : Int) < 2 by omega) ?_
                refine ifB_t (show (0 : Int) < (e.type.levels.length : Nat) by omega) ?_
                refine ⟨0, rfl, hposL, ?_⟩
                refine ⟨_, mvH_mem (m := some (bC, capC, .str e.ctors[0] :: rC)) (H := mvH (none) ((bL, AObj.cells (.i e.type.levels[0].kind :: .i e.type.levels[0].n :: .sl .no 3 (e.type.levels[0].args.map lvA) :: rL)) :: H)) (mvH_mem (m := none) (H := (bL, AObj.cells (.i e.type.levels[0].kind :: .i e.type.levels[0].n :: .sl .no 3 (e.type.levels[0].args.map lvA) :: rL)) :: H) List.mem_cons_self), ?_⟩
                refine ⟨in64_of (by first | omega | (dsimp only; omega)) (by first | omega | (dsimp only; omega)), ?_⟩
                refine ⟨0, rfl, hposL, ?_⟩
                refine ⟨_, mvH (some (bC, capC, .str e.ctors[0] :: rC)) (mvH (none) ((bL, .cells (.i e.type.levels[0].kind :: .i (e.type.levels[0].n + 7) :: .sl .no 3 (e.type.levels[0].args.map lvA) :: rL)) :: H)), at_mv (at_mv .here (none)) (some (bC, capC, .str e.ctors[0] :: rC)), (by show 1 + 1 ≤ List.length _; simp only [List.length_cons]; omega), ?_⟩
                refine ifB_t (show (0 : Int) < (e.ctors.length : Nat) by omega) ?_
                refine ⟨0, rfl, hposC, ?_⟩
                refine ⟨_, (bC, .cells (.str [113] :: rC)) :: mvH (none) (mvH (some (bL, capL, .i e.type.levels[0].kind :: .i (e.type.levels[0].n + 7) :: .sl .no 3 (e.type.levels[0].args.map lvA) :: rL)) H), .here, (by show 0 + 1 ≤ List.length _; simp only [List.length_cons]; omega), ?_⟩
                refine ⟨[envX (putT e.name ((0 : Nat) : Int) .nil) [e], .str e.name], LeL.refl _, envGetM_con (putT e.name ((0 : Nat) : Int) .nil) [e] hpl e.name hge hr (mvH (some (bC, capC, .str [113] :: rC)) (mvH (none) (mvH (some (bL, capL, .i e.type.levels[0].kind :: .i (e.type.levels[0].n + 7) :: .sl .no 3 (e.type.levels[0].args.map lvA) :: rL)) H))) _ fun mL2 mA2 mC2 hL2 hA2 hC2 => ?_⟩
                intro hz1 hz2; clear hz1 hz2
                refine ⟨[enM3 e (mvV 3 mL2 e.type.levels.length) (mvV 5 mA2 e.type.args.length) (mvV 1 mC2 e.ctors.length), enX e], LeL.refl _, Con.look (args' := [enX e, enX e]) (q := true) ((SameEntry_con e e).as hself) (fun M hM => ⟨see3 (MvIn.at hL2 fun p hp => mvH_mem (mvH_mem (mv_in hp))) (MvIn.at hA2 fun p hp => mvH_mem (mv_in hp)) (MvIn.at hC2 fun p hp => mv_in hp) hM, LeM.refl _, trivial⟩) ?_⟩
                intro hz1 hz2; clear hz1 hz2
                refine ⟨in64_of (by first | omega | (dsimp only; omega)) (by first | omega | (dsimp only; omega)), ?_⟩
                refine ⟨(mL2, mA2, mC2, i + 1), ⟨by simp only; omega, hL2.bare, hA2.bare, hC2.bare⟩, by (try dsimp only); omega, ?_⟩
                exact ⟨⟨⟨rfl, rfl⟩, Le.refl _, ⟨rfl, rfl⟩, Le.refl _, Le.refl _, trivial⟩, ⟨⟨rfl, LeL.refl _⟩, ⟨rfl, LeL.refl _⟩, trivial⟩, mvH_sub (mvH_sub (mvH_sub (sub3 (some (bL, capL, .i e.type.levels[0].kind :: .i (e.type.levels[0].n + 7) :: .sl .no 3 (e.type.levels[0].args.map lvA) :: rL)) (none) (some (bC, capC, .str [113] :: rC)) H)))⟩
              | some p =>
                obtain ⟨bA, capA, csA⟩ := p
                have hposA : 0 < e.type.args.length := Nat.pos_of_ne_zero hA.1
                have hbA := head_n htr hposA
                obtain ⟨rA, rfl⟩ := hA.2.headTm hposA
                refine ifB_t (show (i : Int) < 2 by omega) ?_
                refine ifB_t (show (0 : Int) < (e.type.args.length : Nat) by omega) ?_
                refine ⟨0, rfl, hposA, ?_⟩
                refine ⟨_, mvH_mem (m := some (bC, capC, .str e.ctors[0] :: rC)) (H := (bA, AObj.cells (.i e.type.args[0].kind :: .i e.type.args[0].n :: .str e.type.args[0].name :: .sl .no 3 (e.type.args[0].levels.map lvA) :: .sl .no 5 (e.type.args[0].args.map tmA) :: rA)) :: mvH (some (bL, capL, .i e.type.levels[0].kind :: .i e.type.levels[0].n :: .sl .no 3 (e.type.levels[0].args.map lvA) :: rL)) H) List.mem_cons_self, ?_⟩
                refine ⟨in64_of (by first | omega | (dsimp only; omega)) (by first | omega | (dsimp only; omega)), ?_⟩
                refine ⟨0, rfl, hposA, ?_⟩
                refine ⟨_, mvH (some (bC, capC, .str e.ctors[0] :: rC)) ((bA, .cells (.i e.type.args[0].kind :: .i (e.type.args[0].n + 7) :: .str e.type.args[0].name :: .sl .no 3 (e.type.args[0].levels.map lvA) :: .sl .no 5 (e.type.args[0].args.map tmA) :: rA)) :: mvH (some (bL, capL, .i e.type.levels[0].kind :: .i e.type.levels[0].n :: .sl .no 3 (e.type.levels[0].args.map lvA) :: rL)) H), at_mv .here (some (bC, capC, .str e.ctors[0] :: rC)), (by show 1 + 1 ≤ List.length _; simp only [List.length_cons]; omega), ?_⟩
                refine ifB_t (show (0 : Int) < (e.type.levels.length : Nat) by omega) ?_
                refine ⟨0, rfl, hposL, ?_⟩
                refine ⟨_, mvH_mem (m := some (bC, capC, .str e.ctors[0] :: rC)) (H := mvH (some (bA, capA, .i e.type.args[0].kind :: .i (e.type.args[0].n + 7) :: .str e.type.args[0].name :: .sl .no 3 (e.type.args[0].levels.map lvA) :: .sl .no 5 (e.type.args[0].args.map tmA) :: rA)) ((bL, AObj.cells (.i e.type.levels[0].kind :: .i e.type.levels[0].n :: .sl .no 3 (e.type.levels[0].args.map lvA) :: rL)) :: H)) (mvH_mem (m := some (bA, capA, .i e.type.args[0].kind :: .i (e.type.args[0].n + 7) :: .str e.type.args[0].name :: .sl .no 3 (e.type.args[0].levels.map lvA) :: .sl .no 5 (e.type.args[0].args.map tmA) :: rA)) (H := (bL, AObj.cells (.i e.type.levels[0].kind :: .i e.type.levels[0].n :: .sl .no 3 (e.type.levels[0].args.map lvA) :: rL)) :: H) List.mem_cons_self), ?_⟩
                refine ⟨in64_of (by first | omega | (dsimp only; omega)) (by first | omega | (dsimp only; omega)), ?_⟩
                refine ⟨0, rfl, hposL, ?_⟩
                refine ⟨_, mvH (some (bC, capC, .str e.ctors[0] :: rC)) (mvH (some (bA, capA, .i e.type.args[0].kind :: .i (e.type.args[0].n + 7) :: .str e.type.args[0].name :: .sl .no 3 (e.type.args[0].levels.map lvA) :: .sl .no 5 (e.type.args[0].args.map tmA) :: rA)) ((bL, .cells (.i e.type.levels[0].kind :: .i (e.type.levels[0].n + 7) :: .sl .no 3 (e.type.levels[0].args.map lvA) :: rL)) :: H)), at_mv (at_mv .here (some (bA, capA, .i e.type.args[0].kind :: .i (e.type.args[0].n + 7) :: .str e.type.args[0].name :: .sl .no 3 (e.type.args[0].levels.map lvA) :: .sl .no 5 (e.type.args[0].args.map tmA) :: rA))) (some (bC, capC, .str e.ctors[0] :: rC)), (by show 1 + 1 ≤ List.length _; simp only [List.length_cons]; omega), ?_⟩
                refine ifB_t (show (0 : Int) < (e.ctors.length : Nat) by omega) ?_
                refine ⟨0, rfl, hposC, ?_⟩
                refine ⟨_, (bC, .cells (.str [113] :: rC)) :: mvH (some (bA, capA, .i e.type.args[0].kind :: .i (e.type.args[0].n + 7) :: .str e.type.args[0].name :: .sl .no 3 (e.type.args[0].levels.map lvA) :: .sl .no 5 (e.type.args[0].args.map tmA) :: rA)) (mvH (some (bL, capL, .i e.type.levels[0].kind :: .i (e.type.levels[0].n + 7) :: .sl .no 3 (e.type.levels[0].args.map lvA) :: rL)) H), .here, (by show 0 + 1 ≤ List.length _; simp only [List.length_cons]; omega), ?_⟩
                refine ⟨[envX (putT e.name ((0 : Nat) : Int) .nil) [e], .str e.name], LeL.refl _, envGetM_con (putT e.name ((0 : Nat) : Int) .nil) [e] hpl e.name hge hr (mvH (some (bC, capC, .str [113] :: rC)) (mvH (some (bA, capA, .i e.type.args[0].kind :: .i (e.type.args[0].n + 7) :: .str e.type.args[0].name :: .sl .no 3 (e.type.args[0].levels.map lvA) :: .sl .no 5 (e.type.args[0].args.map tmA) :: rA)) (mvH (some (bL, capL, .i e.type.levels[0].kind :: .i (e.type.levels[0].n + 7) :: .sl .no 3 (e.type.levels[0].args.map lvA) :: rL)) H))) _ fun mL2 mA2 mC2 hL2 hA2 hC2 => ?_⟩
                intro hz1 hz2; clear hz1 hz2
                refine ⟨[enM3 e (mvV 3 mL2 e.type.levels.length) (mvV 5 mA2 e.type.args.length) (mvV 1 mC2 e.ctors.length), enX e], LeL.refl _, Con.look (args' := [enX e, enX e]) (q := true) ((SameEntry_con e e).as hself) (fun M hM => ⟨see3 (MvIn.at hL2 fun p hp => mvH_mem (mvH_mem (mv_in hp))) (MvIn.at hA2 fun p hp => mvH_mem (mv_in hp)) (MvIn.at hC2 fun p hp => mv_in hp) hM, LeM.refl _, trivial⟩) ?_⟩
                intro hz1 hz2; clear hz1 hz2
                refine ⟨in64_of (by first | omega | (dsimp only; omega)) (by first | omega | (dsimp only; omega)), ?_⟩
                refine ⟨(mL2, mA2, mC2, i + 1), ⟨by simp only; omega, hL2.bare, hA2.bare, hC2.bare⟩, by (try dsimp only); omega, ?_⟩
                exact ⟨⟨⟨rfl, rfl⟩, Le.refl _, ⟨rfl, rfl⟩, Le.refl _, Le.refl _, trivial⟩, ⟨⟨rfl, LeL.refl _⟩, ⟨rfl, LeL.refl _⟩, trivial⟩, mvH_sub (mvH_sub (mvH_sub (sub3 (some (bL, capL, .i e.type.levels[0].kind :: .i (e.type.levels[0].n + 7) :: .sl .no 3 (e.type.levels[0].args.map lvA) :: rL)) (some (bA, capA, .i e.type.args[0].kind :: .i (e.type.args[0].n + 7) :: .str e.type.args[0].name :: .sl .no 3 (e.type.args[0].levels.map lvA) :: .sl .no 5 (e.type.args[0].args.map tmA) :: rA)) (some (bC, capC, .str [113] :: rC)) H)))⟩
        · refine ifB_f (show ¬ (i : Int) < 2 by omega) ?_
          exact ⟨_, H, Le.refl _, sub3 mL mA mC H, hq⟩
end Go.Proofs.YtnffnfkpicnhdaaGreatDoor
