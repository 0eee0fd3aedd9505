/-
  TreeOrder: whatever the input, the law answers true, and each argument reads as it read before. No condition beyond the statement's own.
-/
import Derived.Test.YtegkjnibkilbpaaT30
import Derived.JoinedCond
namespace Go.Proofs.Ytegkjnibkilbpaa.treeOrder
open Go.ChangeShapes Go.WideShapes Go.ChangeAt Go.RowKit
open Go.ChangeMaps (open_string shut_string)

set_option maxRecDepth 100000 in
theorem lifted (os : Os) (started : os.Started) (H : Type) (enc : TypeId × Value → H) :
    ReturnsInHanded {} Try.checked os 4 .any (Rows.treeOrderSpec.pre6 enc Try.prog Try.f4 Rows.treeOrderRow.domain false) (Rows.treeOrderSpec.post enc Try.prog Try.f4 false true false false) := by
  refine returnsInHanded_of_change_sized (C := Try.checked) Try.own started (by kernel_rfl) Try.func4
    (ChangeSpec.witness6 (enc := enc) (C := Try.checked) false ⟨#[], #[.slice none 0 0, .string .empty], []⟩ 8 (by kernel_rfl) (by kernel_rfl) (by kernel_rfl) (by kernel_rfl)) ?_
  intro W base args ds gs before hval0 hW _ hsz0 _
  have hsz : (DataW.weightsEach Try.prog (Try.f4.params.toList ++ Rows.treeOrderSpec.plain.varTypes Try.prog) (ds ++ gs)).all (· ≤ reachBytes) = true := hsz0
  clear hsz0
  have hval : ∀ (j : Nat) t v, Try.f4.params[j]? = some t → args[j]? = some v → Value.okWide Try.prog W .any base t v := hval0
  have hW' := hW
  obtain ⟨p, q, hA0, hV, rfl, hfz, hnd⟩ := hW
  have hA : DataW.TrodAll enc Try.prog W 0 (fun _ => true) true Try.f4.params.toList args.toList ds p := hA0
  rw [Try.params4] at hA hval hsz
  obtain ⟨v0, vs0, d0, ds0, p0, q0, hargs, rfl, rfl, h0, tr0⟩ := trodAll_cons hA
  obtain ⟨v1, vs1, d1, ds1, p1, q1, rfl, rfl, rfl, h1, tr1⟩ := trodAll_cons tr0
  obtain ⟨rfl, rfl, rfl⟩ := trodAll_nil tr1
  obtain rfl : args = #[v0, v1] := by cases args; simp_all
  obtain ⟨rfl, rfl⟩ := trodVars_none hV
  simp only [List.append_nil] at hW' hsz
  have hs : ((DataW.weightsEach Try.prog [22, 9] [d0, d1]).all (fun x => decide (x ≤ reachBytes))) = true := hsz
  simp only [DataW.weightsEach, List.all_append, Bool.and_eq_true] at hs
  have hltA : ∀ x ∈ p0 ++ (p1), x.block < W.heap.size := fun x hx => by simpa using hW'.lt x (by simpa using hx)
  have k0 : ∀ W', Below W.heap.size W W' → DataW.Trod enc Try.prog W' 0 (fun b => decide (b < W.heap.size)) true 22 v0 d0 p0 := fun W' hB => Below.trod Try.laidOut (by kernel_rfl) (of_decide_eq_true (by kernel_rfl)) h0 hB (fun x hx => hltA x (by simp [hx]))
  have k1 : ∀ W', Below W.heap.size W W' → DataW.Trod enc Try.prog W' 0 (fun b => decide (b < W.heap.size)) true 9 v1 d1 p1 := fun W' hB => Below.trod Try.laidOut (by kernel_rfl) (of_decide_eq_true (by kernel_rfl)) h1 hB (fun x hx => hltA x (by simp [hx]))
  obtain ⟨a0, r0, sz0⟩ := open_calls (hval 0 22 v0 rfl rfl) h0 hs.1
  obtain ⟨a1, rfl, rfl, rfl, wf1⟩ := open_string Try.underlying9 (hval 1 9 v1 rfl rfl) h1
  have sz1 : a1.size ≤ 1125899906842624 := by
    have h := hs.2.1
    simp only [DataW.weights, List.all_cons, List.all_nil, Bool.and_true, reachBytes] at h
    have h2 := of_decide_eq_true h
    have h3 : a1.data.toList.length = a1.size := Array.length_toList
    omega
  clear hA0 hval0
  refine (order_str W v0 a0 a1 r0 sz0 sz1).mono fun e W' ⟨he, hB⟩ => ?_
  subst he
  exact ⟨_, rfl, _, _, _, [], _, [], hW', (trodAll_cons_mk (shut_bool Try.underlying4 _) trodAll_mk0), (trodAll_cons_mk (k0 _ hB) (trodAll_cons_mk (k1 _ hB) trodAll_mk0)), rfl, hB.frame _, fun h => by cases h⟩

theorem over : Rows.treeOrderRow.holds Try.pinned (OpenSpec.ofChange Rows.treeOrderSpec) :=
  OpenClaim.holds_of_wide 4 Try.f4 rfl rfl rfl rfl rfl rfl rfl ⟨rfl, rfl, rfl, rfl, rfl⟩ rfl rfl rfl rfl rfl (by kernel_rfl) Try.func4 (by kernel_rfl)
    (of_decide_eq_true (by kernel_rfl)) (by unfold Func.isWrapper; first | (rw [if_pos (by decide +kernel)]; kernel_rfl) | (rw [if_neg (by decide +kernel)]; exact ⟨rfl, rfl⟩))
    (fun os started H enc _ => lifted os started H enc)

theorem proved : Rows.TreeOrderSaid := over
#print axioms proved
end Go.Proofs.Ytegkjnibkilbpaa.treeOrder
