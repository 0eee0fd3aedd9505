/-
  The arguments of the laws, opened. No condition.
-/
import Derived.Test.YtnpiipflpmhpbaaW9
import Derived.Test.YtnpiipflpmhpbaaRows
import Derived.OpenShut
import Derived.SliceStrings
import Derived.SizedLaws
namespace Go.Proofs.Ytnpiipflpmhpbaa
open Go.ChangeShapes Go.WideShapes Go.ChangeAt Go.RowKit

theorem Try.cells5 : Try.prog.cellsOf 5 = 1 := by kernel_rfl
theorem Try.cells3 : Try.prog.cellsOf 3 = 1 := by kernel_rfl
theorem Try.cells9 : Try.prog.cellsOf 9 = 1 := by kernel_rfl
theorem Try.laidOut : laidOutB Try.prog = true := by kernel_rfl
theorem Try.own : ownKnob Try.prog.godebug = none := by kernel_rfl

/-- cells one behind the other, from an argument's address on -/
theorem rd_of_arg {W : World} {a : Addr} {len cap : Nat} {xs : List Value} (hl : len ≤ cap) (hm : cap ≤ maxLen) (hx : xs.length = len) (hc : ∀ i, i < len → W.cell? (a.add i) = xs[i]?) : rd W.heap.size W 1 (.slice (some a) len cap) len xs := by
  refine ⟨by omega, some a, cap, rfl, hl, hm, (fun e => by cases e), fun hn => ?_⟩
  have h0 := hc 0 hn
  have hs : a.spot = none := by
    have h1 : W.cell? a = some xs[0] := by simpa [Addr.add, hx, hn] using h0
    unfold World.cell? at h1
    split at h1
    · split at h1
      · cases h1
      · rename_i h2; simpa using h2
    · cases h1
  obtain ⟨b, off, spot⟩ := a
  simp only at hs
  subst hs
  refine ⟨b, off, rfl, ?_, fun j u hj => ?_⟩
  · have h1 : W.cell? ⟨b, off, none⟩ = some xs[0] := by simpa [Addr.add, hx, hn] using h0
    exact World.block_lt_of_cell? W _ h1
  · have hj2 : j < len := by
      rcases Nat.lt_or_ge j xs.length with h | h
      · omega
      · rw [List.getElem?_eq_none h] at hj; cases hj
    have := hc j hj2
    rw [Addr.add_lit] at this
    rw [this, hj]

section
variable {H : Type} {enc : TypeId × Value → H} {W : World} {base : Nat} {v : Value} {d : DataW H} {p : List MemPlace}

theorem open_bytes (hval : Value.okWide Try.prog W .any base 24 v) (h : DataW.Trod enc Try.prog W 0 (fun _ => true) true 24 v d p) : ∃ l, rdB W.heap.size W v l := by
  obtain ⟨a0, len, cap, rfl⟩ := okWide_slice Try.underlying24 hval
  obtain ⟨fuel, hf⟩ := h
  rcases open_ints Try.underlying24 Try.underlying5 Try.cells5 hf with ⟨hcs, hx⟩ | ⟨a, len', cap', zs, hcs, _, hl, hm, hz, hx, hcell, hwz⟩
  · simp [Value.cells] at hcs
    obtain ⟨rfl, rfl, rfl⟩ := hcs
    exact ⟨[], rd.nil _ _ _⟩
  · simp [Value.cells] at hcs
    obtain ⟨rfl, rfl, rfl⟩ := hcs
    simp only [if_true] at hz
    have hlen : (zs.take len).length = len := by rw [List.length_take]; omega
    refine ⟨(zs.take len).map fun z => UInt8.ofNat z.toNat, ?_⟩
    refine rdB.of (rd_of_arg hl hm (xs := (zs.take len).map (Value.int .u8)) (by simp; omega) fun i hi => ?_) (by simp; omega) ?_
    · rw [hcell i (by omega)]
      have hi2 : i < zs.length := by omega
      simp [List.getD_eq_getElem?_getD, hi, hi2]
    · unfold bvs
      rw [List.map_map]
      apply List.map_congr_left
      intro z hz'
      have hw := hwz z (List.mem_of_mem_take hz')
      have hb : 0 ≤ z ∧ z ≤ 255 := by simpa [Lit.wf, IntKind.min, IntKind.max, IntKind.signed, IntKind.bits] using hw
      simp only [Function.comp, Bv]
      congr 1
      simp
      omega

theorem open_nums (hval : Value.okWide Try.prog W .any base 22 v) (h : DataW.Trod enc Try.prog W 0 (fun _ => true) true 22 v d p) : ∃ l, rdI W.heap.size W v l := by
  obtain ⟨a0, len, cap, rfl⟩ := okWide_slice Try.underlying22 hval
  obtain ⟨fuel, hf⟩ := h
  rcases open_ints Try.underlying22 Try.underlying3 Try.cells3 hf with ⟨hcs, hx⟩ | ⟨a, len', cap', zs, hcs, _, hl, hm, hz, hx, hcell, hwz⟩
  · simp [Value.cells] at hcs
    obtain ⟨rfl, rfl, rfl⟩ := hcs
    exact ⟨[], rd.nil _ _ _⟩
  · simp [Value.cells] at hcs
    obtain ⟨rfl, rfl, rfl⟩ := hcs
    simp only [if_true] at hz
    have hlen : (zs.take len).length = len := by rw [List.length_take]; omega
    refine ⟨zs.take len, ?_⟩
    unfold rdI
    rw [hlen]
    refine rd_of_arg hl hm (by simp; omega) fun i hi => ?_
    rw [hcell i (by omega)]
    have hi2 : i < zs.length := by omega
    simp [List.getD_eq_getElem?_getD, hi, hi2]

theorem weights_strs (l : List ByteArray) (h : (DataW.weightsAll (H := H) Try.prog 9 (strs l)).all (fun x => decide (x ≤ reachBytes)) = true) : ∀ s ∈ l, s.size ≤ reachBytes := by
  induction l with
  | nil => simp
  | cons x l ih =>
    intro s hs
    have e : DataW.weightsAll (H := H) Try.prog 9 (strs (x :: l)) = x.data.toList.length :: DataW.weightsAll (H := H) Try.prog 9 (strs l) := by
      simp [strs, DataW.weightsAll, DataW.weights]
    rw [e, List.all_cons, Bool.and_eq_true] at h
    rcases List.mem_cons.1 hs with rfl | hs
    · have := of_decide_eq_true h.1
      simpa using this
    · exact ih h.2 s hs

theorem open_texts (hval : Value.okWide Try.prog W .any base 23 v) (h : DataW.Trod enc Try.prog W 0 (fun _ => true) true 23 v d p) (hsz : (d.weights Try.prog 23).all (fun x => decide (x ≤ reachBytes)) = true) :
    ∃ l, rdT W.heap.size W v l ∧ ∀ s ∈ l, s.length ≤ 1125899906842624 := by
  obtain ⟨a0, len, cap, rfl⟩ := okWide_slice Try.underlying23 hval
  obtain ⟨fuel, hf⟩ := h
  rcases open_strings Try.underlying23 Try.underlying9 Try.cells9 hf with ⟨hcs, hx⟩ | ⟨a, len', cap', ss, hcs, _, hl, hm, hz, hx, hcell, hws⟩
  · simp [Value.cells] at hcs
    obtain ⟨rfl, rfl, rfl⟩ := hcs
    exact ⟨[], rd.nil _ _ _, by simp⟩
  · simp [Value.cells] at hcs
    obtain ⟨rfl, rfl, rfl⟩ := hcs
    simp only [Prod.mk.injEq] at hx
    obtain ⟨rfl, rfl⟩ := hx
    simp only [if_true] at hz
    have hlen : (ss.take len).length = len := by rw [List.length_take]; omega
    refine ⟨(ss.take len).map fun s => s.data.toList, ?_, ?_⟩
    · unfold rdT
      have e1 : ((ss.take len).map fun s => s.data.toList).length = len := by rw [List.length_map]; exact hlen
      rw [e1]
      refine rd_of_arg hl hm (by simp; omega) fun i hi => ?_
      rw [hcell i (by omega)]
      have hi2 : i < ss.length := by omega
      simp [List.getD_eq_getElem?_getD, hi, hi2, strOf]
    · intro s hs
      obtain ⟨t, ht, rfl⟩ := List.mem_map.1 hs
      simp only [DataW.weights, Try.underlying23, List.all_cons, List.all_append, Bool.and_eq_true] at hsz
      have := weights_strs _ hsz.2.1 t ht
      simp only [reachBytes] at this
      simpa using (by omega : t.size ≤ 1125899906842624)
end
end Go.Proofs.Ytnpiipflpmhpbaa
