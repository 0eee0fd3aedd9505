/-
  WireAnswers: whatever the input, the law answers true, and each argument reads as it read before. No condition beyond the statement's own.
-/
import Derived.Test.YtnpiipflpmhpbaaW13
import Derived.JoinedCond
namespace Go.Proofs.Ytnpiipflpmhpbaa.wireAnswers
open Go.ChangeShapes Go.WideShapes Go.ChangeAt Go.RowKit
open Go.ChangeMaps (open_string shut_string)

set_option maxRecDepth 100000 in
theorem lifted (os : Os) (started : os.Started) (H : Type) (enc : TypeId × Value → H) :
    ReturnsInHanded {} Try.checked os 3 .any (Rows.wireAnswersSpec.pre6 enc Try.prog Try.f3 Rows.wireAnswersRow.domain false) (Rows.wireAnswersSpec.post enc Try.prog Try.f3 false true false false) := by
  refine returnsInHanded_of_change_sized (C := Try.checked) Try.own started (by kernel_rfl) Try.func3
    (ChangeSpec.witness6 (enc := enc) (C := Try.checked) false ⟨#[], #[.slice none 0 0, .slice none 0 0, .slice none 0 0, .int .i64 0, .int .i64 0], []⟩ 8 (by kernel_rfl) (by kernel_rfl) (by kernel_rfl) (by kernel_rfl)) ?_
  intro W base args ds gs before hval0 hW _ hsz0 _
  have hsz : (DataW.weightsEach Try.prog (Try.f3.params.toList ++ Rows.wireAnswersSpec.plain.varTypes Try.prog) (ds ++ gs)).all (· ≤ reachBytes) = true := hsz0
  clear hsz0
  have hval : ∀ (j : Nat) t v, Try.f3.params[j]? = some t → args[j]? = some v → Value.okWide Try.prog W .any base t v := hval0
  have hW' := hW
  obtain ⟨p, q, hA0, hV, rfl, hfz, hnd⟩ := hW
  have hA : DataW.TrodAll enc Try.prog W 0 (fun _ => true) true Try.f3.params.toList args.toList ds p := hA0
  rw [Try.params3] at hA hval hsz
  obtain ⟨v0, vs0, d0, ds0, p0, q0, hargs, rfl, rfl, h0, tr0⟩ := trodAll_cons hA
  obtain ⟨v1, vs1, d1, ds1, p1, q1, rfl, rfl, rfl, h1, tr1⟩ := trodAll_cons tr0
  obtain ⟨v2, vs2, d2, ds2, p2, q2, rfl, rfl, rfl, h2, tr2⟩ := trodAll_cons tr1
  obtain ⟨v3, vs3, d3, ds3, p3, q3, rfl, rfl, rfl, h3, tr3⟩ := trodAll_cons tr2
  obtain ⟨v4, vs4, d4, ds4, p4, q4, rfl, rfl, rfl, h4, tr4⟩ := trodAll_cons tr3
  obtain ⟨rfl, rfl, rfl⟩ := trodAll_nil tr4
  obtain rfl : args = #[v0, v1, v2, v3, v4] := by cases args; simp_all
  obtain ⟨rfl, rfl⟩ := trodVars_none hV
  simp only [List.append_nil] at hW' hsz
  have hs : ((DataW.weightsEach Try.prog [22, 23, 24, 3, 3] [d0, d1, d2, d3, d4]).all (fun x => decide (x ≤ reachBytes))) = true := hsz
  simp only [DataW.weightsEach, List.all_append, Bool.and_eq_true] at hs
  have hltA : ∀ x ∈ p0 ++ (p1 ++ (p2 ++ (p3 ++ (p4)))), x.block < W.heap.size := fun x hx => by simpa using hW'.lt x (by simpa using hx)
  have k0 : ∀ W', Below W.heap.size W W' → DataW.Trod enc Try.prog W' 0 (fun b => decide (b < W.heap.size)) true 22 v0 d0 p0 := fun W' hB => Below.trod Try.laidOut (by kernel_rfl) (of_decide_eq_true (by kernel_rfl)) h0 hB (fun x hx => hltA x (by simp [hx]))
  have k1 : ∀ W', Below W.heap.size W W' → DataW.Trod enc Try.prog W' 0 (fun b => decide (b < W.heap.size)) true 23 v1 d1 p1 := fun W' hB => Below.trod Try.laidOut (by kernel_rfl) (of_decide_eq_true (by kernel_rfl)) h1 hB (fun x hx => hltA x (by simp [hx]))
  have k2 : ∀ W', Below W.heap.size W W' → DataW.Trod enc Try.prog W' 0 (fun b => decide (b < W.heap.size)) true 24 v2 d2 p2 := fun W' hB => Below.trod Try.laidOut (by kernel_rfl) (of_decide_eq_true (by kernel_rfl)) h2 hB (fun x hx => hltA x (by simp [hx]))
  have k3 : ∀ W', Below W.heap.size W W' → DataW.Trod enc Try.prog W' 0 (fun b => decide (b < W.heap.size)) true 3 v3 d3 p3 := fun W' hB => Below.trod Try.laidOut (by kernel_rfl) (of_decide_eq_true (by kernel_rfl)) h3 hB (fun x hx => hltA x (by simp [hx]))
  have k4 : ∀ W', Below W.heap.size W W' → DataW.Trod enc Try.prog W' 0 (fun b => decide (b < W.heap.size)) true 3 v4 d4 p4 := fun W' hB => Below.trod Try.laidOut (by kernel_rfl) (of_decide_eq_true (by kernel_rfl)) h4 hB (fun x hx => hltA x (by simp [hx]))
  obtain ⟨a0, r0⟩ := open_nums (hval 0 22 v0 rfl rfl) h0
  obtain ⟨a1, r1, sz1⟩ := open_texts (hval 1 23 v1 rfl rfl) h1 hs.2.1
  obtain ⟨a2, r2⟩ := open_bytes (hval 2 24 v2 rfl rfl) h2
  obtain ⟨a3, rfl, rfl, rfl, wf3⟩ := open_int Try.underlying3 (hval 3 3 v3 rfl rfl) h3
  obtain ⟨a4, rfl, rfl, rfl, wf4⟩ := open_int Try.underlying3 (hval 4 3 v4 rfl rfl) h4
  clear hA0 hval0
  refine (wans_any W v0 v1 v2 a0 a1 a2 a3 a4 r0 r1 r2 sz1).mono fun e W' ⟨he, hB⟩ => ?_
  subst he
  exact ⟨_, rfl, _, _, _, [], _, [], hW', (trodAll_cons_mk (shut_bool Try.underlying4 _) trodAll_mk0), (trodAll_cons_mk (k0 _ hB) (trodAll_cons_mk (k1 _ hB) (trodAll_cons_mk (k2 _ hB) (trodAll_cons_mk (k3 _ hB) (trodAll_cons_mk (k4 _ hB) trodAll_mk0))))), rfl, hB.frame _, fun h => by cases h⟩

theorem over : Rows.wireAnswersRow.holds Try.pinned (OpenSpec.ofChange Rows.wireAnswersSpec) :=
  OpenClaim.holds_of_wide 3 Try.f3 rfl rfl rfl rfl rfl rfl rfl ⟨rfl, rfl, rfl, rfl, rfl⟩ rfl rfl rfl rfl rfl (by kernel_rfl) Try.func3 (by kernel_rfl)
    (of_decide_eq_true (by kernel_rfl)) (by unfold Func.isWrapper; first | (rw [if_pos (by decide +kernel)]; kernel_rfl) | (rw [if_neg (by decide +kernel)]; exact ⟨rfl, rfl⟩))
    (fun os started H enc _ => lifted os started H enc)

theorem proved : Rows.WireAnswersSaid := over
#print axioms proved
end Go.Proofs.Ytnpiipflpmhpbaa.wireAnswers
