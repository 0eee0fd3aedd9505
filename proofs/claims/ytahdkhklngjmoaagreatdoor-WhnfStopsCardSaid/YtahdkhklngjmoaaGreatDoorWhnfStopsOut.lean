/-
  WhnfStops: whatever the input, the law answers true, and each argument reads as it read before. The tied card. No condition beyond the statement's own.
-/
import Derived.Test.YtahdkhklngjmoaaGreatDoorM23
import Derived.Test.YtahdkhklngjmoaaGreatDoorM8
import Derived.Test.YtahdkhklngjmoaaGreatDoorCards
import Derived.Test.YtahdkhklngjmoaaGreatDoorTie
import Derived.JoinedCond
import Derived.OpenShut
namespace Go.Proofs.YtahdkhklngjmoaaGreatDoor.whnfStops
open Go.ChangeShapes Go.WideShapes Go.ChangeAt Go.RowKit

set_option maxRecDepth 100000 in
theorem lifted (os : Os) (started : os.Started) (H : Type) (enc : TypeId × Value → H) :
    ReturnsInHanded {} Tryz.checked os 4 .any (fun w args => (Rows.whnfStopsSpec.pre enc Tryz.prog Tryz.f4 Rows.whnfStopsRow.domain false w args ∧ laidMetH Tryz.prog laidRows w) ∧ sizedMet enc Tryz.prog Tryz.f4 (OpenSpec.ofChange Rows.whnfStopsSpec) false w args)
      (Rows.whnfStopsSpec.post enc Tryz.prog Tryz.f4 false true false false) := by
  refine returnsInHanded_of_change_and (C := Tryz.checked) (X := fun w _ => laidMetH Tryz.prog laidRows w) (fun _ _ _ hh h => h.of_heap hh) Tryz.own started (by kernel_rfl) Tryz.func4
    (ChangeSpec.witness_shaped (enc := enc) (C := Tryz.checked) (os := os) (X := fun w _ => laidMetH Tryz.prog laidRows w) false (World.laidAll Tryz.prog os laidRows) #[.agg #[.int .i64 0, .int .i64 0, .string .empty, .slice none 0 0, .slice none 0 0], .slice none 0 0] 8 (World.laidAll_os _ _ _)
      (World.shaped_of_ZipB (by kernel_rfl) (by kernel_rfl)) (by kernel_rfl) (by kernel_rfl) (by kernel_rfl) (laid_met os _)) ?_
  intro W base args ds gs before hval0 hW _ hsz0 _ _
  have hsz : (DataW.weightsEach Tryz.prog (Tryz.f4.params.toList ++ Rows.whnfStopsSpec.plain.varTypes Tryz.prog) (ds ++ gs)).all (· ≤ reachBytes) = true := hsz0
  clear hsz0
  have hval : ∀ (j : Nat) t v, Tryz.f4.params[j]? = some t → args[j]? = some v → Value.okWide Tryz.prog W .any base t v := hval0
  have hW' := hW
  obtain ⟨p, q, hA0, hV, rfl, hfz, hnd⟩ := hW
  have hA : DataW.TrodAll enc Tryz.prog W 0 (fun _ => true) true Tryz.f4.params.toList args.toList ds p := hA0
  rw [Tryz.params4] at hA hval hsz
  obtain ⟨v0, vs0, d0, ds0, p0, q0, hargs, rfl, rfl, h0, tr0⟩ := trodAll_cons hA
  obtain ⟨v1, vs1, d1, ds1, p1, q1, rfl, rfl, rfl, h1, tr1⟩ := trodAll_cons tr0
  obtain ⟨rfl, rfl, rfl⟩ := trodAll_nil tr1
  obtain rfl : args = #[v0, v1] := by cases args; simp_all
  obtain ⟨rfl, rfl⟩ := trodVars_none hV
  simp only [List.append_nil] at hW' hsz
  have hs : small (DataW.weightsEach Tryz.prog [30, 25] [d0, d1]) := hsz
  simp only [DataW.weightsEach] at hs
  have hltA : ∀ x ∈ p0 ++ (p1), x.block < W.heap.size := fun x hx => by simpa using hW'.lt x (by simpa using hx)
  have k0 : ∀ W', Below W.heap.size W W' → DataW.Trod enc Tryz.prog W' 0 (fun b => decide (b < W.heap.size)) true 30 v0 d0 p0 := fun W' hB => Below.trod Tryz.laidOut (by kernel_rfl) (of_decide_eq_true (by kernel_rfl)) h0 hB (fun x hx => hltA x (by simp [hx]))
  have k1 : ∀ W', Below W.heap.size W W' → DataW.Trod enc Tryz.prog W' 0 (fun b => decide (b < W.heap.size)) true 25 v1 d1 p1 := fun W' hB => Below.trod Tryz.laidOut (by kernel_rfl) (of_decide_eq_true (by kernel_rfl)) h1 hB (fun x hx => hltA x (by simp [hx]))
  have hs0 := (small_app hs).1
  replace hs := (small_app hs).2
  obtain ⟨a0, r0⟩ := arg_struct Tryz.underlying30 op_tm (hval 0 30 v0 rfl rfl) h0 hs0
  have hs1 := (small_app hs).1
  replace hs := (small_app hs).2
  obtain ⟨x1, y1, z1, hv1⟩ := okWide_slice Tryz.underlying25 (hval 1 25 v1 rfl rfl)
  obtain ⟨a1, r1⟩ := arg_one op_ensL (by rw [hv1]; rfl) h1 hs1
  clear hA0 hval0
  have hr : repT (memW W) [tmX a0, ensLX a1] [v0, v1] := by
    simp only [repT]
    exact ⟨v0, _, rfl, r0, ⟨v1, _, rfl, r1, rfl⟩⟩
  refine Calls.mono (law_calls (ent Tryz.func4 (by kernel_rfl) rfl) (whnfStopsL_con a0 a1) ⟨trivial, Nat.zero_le _⟩ hr) fun e W' ⟨he, hB⟩ => ?_
  subst he
  exact ⟨_, rfl, _, _, _, [], _, [], hW', (trodAll_cons_mk (shut_bool Tryz.underlying4 _) trodAll_mk0), (trodAll_cons_mk (k0 _ hB) (trodAll_cons_mk (k1 _ hB) trodAll_mk0)), rfl, hB.frame _, fun h => by cases h⟩

theorem over : Rows.WhnfStopsSaid :=
  OpenClaim.holds_of_wide 4 Tryz.f4 rfl rfl rfl rfl rfl rfl rfl ⟨rfl, rfl, rfl, rfl, rfl⟩ rfl rfl rfl rfl rfl (by kernel_rfl) Tryz.func4 (by kernel_rfl)
    (of_decide_eq_true (by kernel_rfl)) (by unfold Func.isWrapper; first | (rw [if_pos (by decide +kernel)]; kernel_rfl) | (rw [if_neg (by decide +kernel)]; exact ⟨rfl, rfl⟩))
    (fun os started H enc _ => lifted os started H enc)

theorem proved : Rows.WhnfStopsCardSaid :=
  Claim7.holds_tied_plain_at .later [] [.data, .pinned] true (true, Rows.whnfStopsCard.stood.harness.2) Rows.whnfStopsCard.stood.looks
    over (fun _ h => by cases h) (by kernel_rfl) (fun _ h => by cases h) whnfStops_row_tie rfl ⟨rfl, rfl⟩ (by kernel_rfl) rfl
    (fun f fn hf hfn => by
      obtain rfl : f = 4 := Option.some.inj ((show Tryz.prog.funcNamed "scholium/scholiumlaw13.WhnfStops" = some 4 by kernel_rfl).symm.trans hf) |>.symm
      obtain rfl : fn = Tryz.f4 := (Option.some.inj (Tryz.func4.symm.trans hfn)).symm
      exact ⟨by kernel_rfl, fun j t ht => by
        rw [Tryz.params4] at ht
        have hm : t ∈ [30, 25] := by simpa using Array.mem_of_getElem? ht
        have hall : ([30, 25].all fun u => !Tryz.prog.wantsStandIn u) = true := by kernel_rfl
        exact (show Tryz.prog.wantsStandIn t = false by simpa using List.all_eq_true.1 hall t hm)⟩)
    (by kernel_rfl)
#print axioms proved
end Go.Proofs.YtahdkhklngjmoaaGreatDoor.whnfStops
