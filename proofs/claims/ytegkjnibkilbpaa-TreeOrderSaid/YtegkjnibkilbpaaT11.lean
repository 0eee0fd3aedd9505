import Derived.Test.YtegkjnibkilbpaaT10
namespace Go.Proofs.Ytegkjnibkilbpaa
open Go.RowKit Go.Shelf

attribute [local go_sem] Oper.semAt_some

set_option maxHeartbeats 1000000 in
theorem from_in (F : Fence) (n : Nat) (h25 : F.fn 25) (hro : F.round = none) (b : Nat) (s : List UInt8) (w : World) :
    CallsIn F n Try.prog 25 #[rad b, .string ⟨s.toArray⟩] w fun e w' => e = .returned (.func (.func 30) #[] #[.pointer (some ⟨w.heap.size, 0, none⟩), .pointer (some ⟨w.heap.size + 1, 0, none⟩)]) ∧
      w' = (w.alloc (.cells #[rad b] 27)).alloc (.cells #[.string ⟨s.toArray⟩] 9) := by
  unfold rad
  refine callsIn_of_wp Try.func25 rfl h25 ?_ hro
  simp only [Try.ntmps25, List.size_toArray, List.length_cons, List.length_nil, Nat.reduceAdd, Nat.reduceSub, Array.replicate_succ, Array.replicate_zero, List.push_toArray, List.append_toArray, List.nil_append, List.cons_append]
  gi_wp2
  go_ret
  exact ⟨rfl, rfl⟩

set_option maxHeartbeats 1000000 in
theorem from1_in (F : Fence) (hd : F.depth = none) (n : Nat) (h30 : F.fn 30) (h31 : F.fn 31) (hro : F.round = none) (l B1 B2 b n₀ : Nat) (s : List UInt8) (t : T) (J Jx : List (List UInt8) → World → Prop)
    (hY : ∀ pre (x : List UInt8) W, J pre W → pre.length < (fromT s t).length → YieldAt F (n - 1) Try.prog l #[.string ⟨x.toArray⟩] W fun e W' =>
      (e = .returned (.bool true) ∧ J (pre ++ [x]) W' ∧ Below n₀ W W') ∨ (e = .returned (.bool false) ∧ Jx (pre ++ [x]) W'))
    (W : World) (hB1 : W.cell? ⟨B1, 0, none⟩ = some (rad b)) (hB2 : W.cell? ⟨B2, 0, none⟩ = some (.string ⟨s.toArray⟩)) (hT : okR n₀ W b t) (h0 : J [] W.drew) :
    CallsIn F n Try.prog 30 #[.func (.yield l) #[] #[], .pointer (some ⟨B1, 0, none⟩), .pointer (some ⟨B2, 0, none⟩)] W fun e W' => (∃ v, e = .returned v) ∧
      ((∃ ys, ys = fromT s t ∧ J ys W') ∨ (∃ pre, pre <+: fromT s t ∧ Jx pre W')) := by
  have hdd : ∀ k : Nat, (F.depth.isSome = true → 1 ≤ k) := fun k h => by rw [hd] at h; cases h
  have hp := fun W => each_in F hd h31 hro l n₀ (fromT s t).length s J Jx (fun m pre x W hj hl => YieldAt_anyDepth hd m (hY pre x W hj hl)) t (n - 1) [] W
  obtain ⟨hb0, hb1, hb2⟩ := hT
  unfold rad at hB1
  refine callsIn_of_wp Try.func30 rfl h30 ?_ hro
  simp only [Try.ntmps30, List.size_toArray, List.length_cons, List.length_nil, Nat.reduceAdd, Nat.reduceSub, Array.replicate_succ, Array.replicate_zero, List.push_toArray, List.append_toArray, List.nil_append, List.cons_append]
  gi_wp2
  have hm : Try.prog.follows .mixedOrders = true := by kernel_rfl
  have hC : Below n₀ W W.drew := (Below.refl _ _).drew
  have hp2 := (hp W.drew (okT.below hC hb2) h0 (by simp)).mono (R' := fun e W' => ∃ bv : Bool, e = .returned (.bool bv) ∧ ((∃ ys, ys = fromT s t ∧ J ys W') ∨ (∃ pre, pre <+: fromT s t ∧ Jx pre W')))
    (fun e W' h => h.elim (fun ⟨he, hj, _⟩ => ⟨true, he, .inl ⟨_, rfl, by simpa using hj⟩⟩) (fun ⟨he, q, hq, hx⟩ => ⟨false, he, .inr ⟨q, hq, by simpa using hx⟩⟩))
  gi_region_with_o ((try refine ⟨hdd _, ?_⟩); gi_at_call 31; refine hp2.mono ?_; rintro e W1 ⟨bv, rfl, hres⟩)
  all_goals gi_wp2
  all_goals go_end0
  all_goals exact ⟨⟨_, rfl⟩, hres⟩
end Go.Proofs.Ytegkjnibkilbpaa
