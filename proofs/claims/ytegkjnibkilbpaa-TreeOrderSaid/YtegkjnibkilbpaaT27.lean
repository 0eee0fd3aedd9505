/-
  The arguments of the laws, opened: a slice of Calls, a Call. No condition.
-/
import Derived.Test.YtegkjnibkilbpaaT26
import Derived.Test.YtegkjnibkilbpaaRows
import Derived.OpenShut
import Derived.SliceStrings
import Derived.SizedLaws
import Derived.Deep.Slices
import Derived.Deep.Fields
import Derived.ChangeSame
import Derived.Lib.SmallJoins
namespace Go.Proofs.Ytegkjnibkilbpaa
open Go.ChangeShapes Go.WideShapes Go.ChangeAt Go.RowKit Go.Deep Go.Joins

theorem Try.cells24 : Try.prog.cellsOf 24 = 4 := by kernel_rfl
theorem Try.laidOut : laidOutB Try.prog = true := by kernel_rfl
theorem Try.own : ownKnob Try.prog.godebug = none := by kernel_rfl

section
variable {H : Type} {enc : TypeId × Value → H} {P : Program} {w : World} {base : Nat} {spare : Nat → Bool} {held : Bool}
theorem open_slice_fields {t e : TypeId} {fs : Array Field} {fuel : Nat} {cs : List Value} {x : DataW H × List MemPlace} (ht : P.underlying t = some (.slice e)) (he : P.underlying e = some (.struct fs))
    (hone : oneCellFields P fs = true) (hC : P.cellsOf e = fs.size) (h : DataW.trod enc P w base spare held fuel t cs = some x) :
    (cs = [.slice none 0 0] ∧ x = (.nil, [])) ∨
    ∃ (a : Addr) (len cap m : Nat) (D : Nat → DataW H) (Pl : Nat → List MemPlace), cs = [.slice (some a) len cap] ∧ base ≤ a.block ∧ len ≤ cap ∧ cap ≤ maxLen ∧ m = (if spare a.block then cap else len) ∧
      x = (.slice ((List.range len).map D) ((List.range (m - len)).map fun j => D (len + j)), MemPlace.row a (m * fs.size) ++ (List.range m).flatMap Pl) ∧
      ∀ i, i < m → ∃ (ys : List (DataW H × List MemPlace)) (n : Nat), D i = .agg (ys.map (·.1)) ∧ Pl i = ys.flatMap (·.2) ∧ ys.length = fs.size ∧
        ∀ (j : Nat) (f : Field), fs[j]? = some f → ∃ (v : Value) (y : DataW H × List MemPlace), w.cell? (a.add (i * fs.size + j)) = some v ∧ ys[j]? = some y ∧ DataW.trod enc P w base spare held n f.type [v] = some y := by
  rcases open_slice ht h with h0 | ⟨a, len, cap, m, n, D, Pl, hcs, hb, hl, hm, hmm, hx, hi⟩
  · exact .inl h0
  · refine .inr ⟨a, len, cap, m, D, Pl, hcs, hb, hl, hm, hmm, by rw [hC] at hx; exact hx, fun i him => ?_⟩
    obtain ⟨cs', hc, ht'⟩ := hi i him
    rw [hC] at hc
    obtain ⟨ys, n', hn', hy, hlen, hyl, hf⟩ := DataW.trod_struct he ht'
    obtain ⟨_, hcl, hat⟩ := World.cells?_some hc
    simp only [Prod.mk.injEq] at hy
    refine ⟨ys, n', hy.1, hy.2, hyl, fun j f hj => ?_⟩
    obtain ⟨ho, hk⟩ := hone_of hone j f hj
    have hjl : j < fs.size := (Array.getElem?_eq_some_iff.1 hj).1
    have hcell := hat j hjl
    have hv : cs'[j]? = some (cs'[j]'(by omega)) := List.getElem?_eq_getElem (by omega)
    have h1 := hf j f hj
    rw [ho, hk] at h1
    have hone' : (cs'.drop j).take 1 = [cs'[j]'(by omega)] := by
      rw [List.drop_eq_getElem_cons (by omega)]
      rfl
    rw [hone'] at h1
    have hys : ys[j]? = some (ys[j]'(by omega)) := List.getElem?_eq_getElem (by omega)
    refine ⟨_, _, ?_, hys, h1.trans hys⟩
    rw [← Go.Deep.add_add, hcell, hv]
end

theorem addr_of_cell {W : World} {a : Addr} {v : Value} (h : W.cell? a = some v) : a.spot = none ∧ a.block < W.heap.size := by
  have hs : a.spot = none := by
    unfold World.cell? at h
    split at h
    · split at h
      · cases h
      · rename_i h2; simpa using h2
    · cases h
  exact ⟨hs, World.block_lt_of_cell? W a h⟩

theorem weights_mem {H : Type} {e : TypeId} {x : DataW H} : ∀ {l : List (DataW H)}, x ∈ l → (DataW.weightsAll Try.prog e l).all (fun x => decide (x ≤ reachBytes)) = true → (x.weights Try.prog e).all (fun x => decide (x ≤ reachBytes)) = true
  | [], h, _ => by cases h
  | d :: l, h, hw => by
    simp only [DataW.weightsAll, List.all_append, Bool.and_eq_true] at hw
    rcases List.mem_cons.1 h with rfl | h
    · exact hw.1
    · exact weights_mem h hw.2

section
variable {H : Type} {enc : TypeId × Value → H} {W : World} {base : Nat} {v : Value} {d : DataW H} {p : List MemPlace}

theorem open_calls (hval : Value.okWide Try.prog W .any base 22 v) (h : DataW.Trod enc Try.prog W 0 (fun _ => true) true 22 v d p) (hsz : (d.weights Try.prog 22).all (fun x => decide (x ≤ reachBytes)) = true) :
    ∃ cs : List CallD, rdC W.heap.size W v cs ∧ ∀ c ∈ cs, c.name.length ≤ 1125899906842624 := by
  obtain ⟨a0, len, cap, rfl⟩ := okWide_slice Try.underlying22 hval
  obtain ⟨fuel, hf⟩ := h
  rcases open_slice_fields Try.underlying22 Try.underlying24 (by kernel_rfl) (by kernel_rfl) hf with ⟨hcs, hx⟩ | ⟨a, len', cap', m, D, Pl, hcs, _, hl, hm, hmm, hx, hi⟩
  · simp [Value.cells] at hcs
    obtain ⟨rfl, rfl, rfl⟩ := hcs
    exact ⟨[], ⟨none, 0, rfl, Nat.le_refl _, by omega, fun _ => rfl, fun h => absurd h (by simp)⟩, by simp⟩
  · simp [Value.cells] at hcs
    obtain ⟨rfl, rfl, rfl⟩ := hcs
    simp only [Prod.mk.injEq] at hx
    obtain ⟨rfl, rfl⟩ := hx
    simp only [if_true] at hmm
    subst hmm
    simp only [DataW.weights, Try.underlying22, List.all_cons, List.all_append, Bool.and_eq_true] at hsz
    have hel : ∀ i, i < len → ∃ c : CallD, c.name.length ≤ 1125899906842624 ∧ W.cell? (a.add (i * 4 + 0)) = some (.int .i64 c.of) ∧ W.cell? (a.add (i * 4 + 1)) = some (.int .i64 c.n) ∧
        W.cell? (a.add (i * 4 + 2)) = some (.string ⟨c.name.toArray⟩) ∧ W.cell? (a.add (i * 4 + 3)) = some (.bool c.drop) := fun i hil => by
      obtain ⟨ys, n, hD, _, hyl, hf⟩ := hi i (by omega)
      obtain ⟨v0, y0, hc0, hy0, ht0⟩ := hf 0 _ rfl
      obtain ⟨v1, y1, hc1, hy1, ht1⟩ := hf 1 _ rfl
      obtain ⟨v2, y2, hc2, hy2, ht2⟩ := hf 2 _ rfl
      obtain ⟨v3, y3, hc3, hy3, ht3⟩ := hf 3 _ rfl
      obtain ⟨z0, e0, _, _⟩ := DataW.trod_int Try.underlying3 ht0
      obtain ⟨z1, e1, _, _⟩ := DataW.trod_int Try.underlying3 ht1
      obtain ⟨s, e2, hs, _⟩ := DataW.trod_string Try.underlying9 ht2
      obtain ⟨b, e3, _⟩ := DataW.trod_bool Try.underlying4 ht3
      simp only [List.cons.injEq, and_true] at e0 e1 e2 e3
      subst e0 e1 e2 e3
      have hw := weights_mem (List.mem_map.2 ⟨i, List.mem_range.2 hil, rfl⟩) hsz.2.1
      match ys, hyl, hD, hy0, hy1, hy2, hy3 with
      | [u0, u1, u2, u3], _, hD, hy0, hy1, hy2, hy3 =>
        simp only [List.getElem?_cons_zero, List.getElem?_cons_succ, Option.some.injEq] at hy0 hy1 hy2 hy3
        subst hy0 hy1 hy2 hy3
        rw [hD] at hw
        simp only [DataW.weights, Try.underlying24, List.map_cons, List.map_nil, DataW.weightsEach, List.all_append, Bool.and_eq_true, hs, List.all_cons, reachBytes] at hw
        have h3 : s.data.toList.length = s.size := Array.length_toList
        refine ⟨⟨z0, z1, s.data.toList, b⟩, by show s.data.toList.length ≤ _; have := of_decide_eq_true hw.2.2.1.1; omega, hc0, hc1, ?_, hc3⟩
        simpa using hc2
    have hch : ∃ f : Nat → CallD, ∀ i, i < len → (f i).name.length ≤ 1125899906842624 ∧ W.cell? (a.add (i * 4 + 0)) = some (.int .i64 (f i).of) ∧ W.cell? (a.add (i * 4 + 1)) = some (.int .i64 (f i).n) ∧
        W.cell? (a.add (i * 4 + 2)) = some (.string ⟨(f i).name.toArray⟩) ∧ W.cell? (a.add (i * 4 + 3)) = some (.bool (f i).drop) := by
      refine ⟨fun i => if h : i < len then Classical.choose (hel i h) else ⟨0, 0, [], false⟩, fun i hil => ?_⟩
      simp only [hil, dif_pos]
      exact Classical.choose_spec (hel i hil)
    obtain ⟨f, hf⟩ := hch
    refine ⟨(List.range len).map f, ⟨some a, m, by simp, by simpa using hl, by simpa [maxLen] using hm, (fun h => by cases h), fun hn => ?_⟩, ?_⟩
    · have hn' : 0 < len := by simpa using hn
      obtain ⟨_, h0, _⟩ := hf 0 hn'
      obtain ⟨b, off, spot⟩ := a
      have hq := addr_of_cell h0
      have hsp : spot = none := by
        have := hq.1
        simpa [Addr.add] using this
      subst hsp
      refine ⟨b, off, rfl, ?_, fun j c hj => ?_⟩
      · have := (addr_of_cell h0).2
        simpa [Addr.add_lit] using this
      · simp only [List.getElem?_map, Option.map_eq_some_iff] at hj
        obtain ⟨k, hk, rfl⟩ := hj
        have hjl := (List.getElem?_eq_some_iff.1 hk).1
        have hjk := (List.getElem?_eq_some_iff.1 hk).2
        rw [List.length_range] at hjl
        rw [List.getElem_range] at hjk
        subst hjk
        obtain ⟨_, c0, c1, c2, c3⟩ := hf j hjl
        rw [Addr.add_lit] at c0 c1 c2 c3
        exact ⟨c0, c1, c2, c3⟩
    · intro c hc
      obtain ⟨i, hi, rfl⟩ := List.mem_map.1 hc
      exact (hf i (List.mem_range.1 hi)).1

theorem open_call (hval : Value.okWide Try.prog W .any base 24 v) (h : DataW.Trod enc Try.prog W 0 (fun _ => true) true 24 v d p) (hsz : (d.weights Try.prog 24).all (fun x => decide (x ≤ reachBytes)) = true) :
    ∃ c : CallD, v = .agg #[.int .i64 c.of, .int .i64 c.n, .string ⟨c.name.toArray⟩, .bool c.drop] ∧ c.name.length ≤ 1125899906842624 := by
  obtain ⟨v0, v1, v2, v3, y0, y1, y2, y3, n, rfl, rfl, rfl, h0, h1, h2, h3⟩ := open_agg4 Try.underlying24 (by kernel_rfl) (by kernel_rfl) hval h
  obtain ⟨z0, e0, _, _⟩ := DataW.trod_int Try.underlying3 h0
  obtain ⟨z1, e1, _, _⟩ := DataW.trod_int Try.underlying3 h1
  obtain ⟨s, e2, hs, _⟩ := DataW.trod_string Try.underlying9 h2
  obtain ⟨b, e3, _⟩ := DataW.trod_bool Try.underlying4 h3
  simp only [List.cons.injEq, and_true] at e0 e1 e2 e3
  subst e0 e1 e2 e3
  simp only [DataW.weights, Try.underlying24, List.map_cons, List.map_nil, DataW.weightsEach, List.all_append, Bool.and_eq_true, hs, List.all_cons, reachBytes] at hsz
  have h3 : s.data.toList.length = s.size := Array.length_toList
  refine ⟨⟨z0, z1, s.data.toList, b⟩, by simp, by show s.data.toList.length ≤ _; have := of_decide_eq_true hsz.2.2.1.1; omega⟩
end
end Go.Proofs.Ytegkjnibkilbpaa
