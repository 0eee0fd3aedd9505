/-
  Texts put together: F1, F2, F3, F4. No condition.
-/
import Derived.Test.YtahdkhklngjmoaaGreatDoorM5
import Derived.OpenShut
import Derived.SizedLaws
import Derived.Deep.Slices
import Derived.WideShapes
import Derived.ChangeArms
import Derived.DataReads
import Derived.Test.YtahdkhklngjmoaaGreatDoorRows
import Derived.ChangeShapes
import Derived.Carry
import Derived.LaidMore
import Derived.Lay
import Derived.ProofKit
import Derived.Stop.Joined
import Derived.Test.YtahdkhklngjmoaaGreatDoorM7
import Derived.Test.YtahdkhklngjmoaaGreatDoorM13
/-
  Arguments opened into pure values. No condition.
-/
namespace Go.Proofs.YtahdkhklngjmoaaGreatDoor
open Go.ChangeShapes Go.WideShapes Go.ChangeAt Go.RowKit

/-- all cells that there are -/
def memW (W : World) : Mem := fun b o => W.cell? ⟨b, o, none⟩
theorem inv_memW (W : World) : Inv (memW W) [] W := ⟨fun _ _ _ h => h, fun _ _ h => (List.not_mem_nil h).elim, List.nodup_nil⟩
def small (ws : List Nat) : Prop := ws.all (fun x => decide (x ≤ reachBytes)) = true
theorem small_app {a b : List Nat} (h : small (a ++ b)) : small a ∧ small b := by
  unfold small at *
  rw [List.all_append, Bool.and_eq_true] at h
  exact h

theorem addr_cell {W : World} {a : Addr} {v : Value} (h : W.cell? a = some v) : a.spot = none := by
  unfold World.cell? at h
  split at h
  · split at h
    · cases h
    · rename_i h2; simpa using h2
  · cases h

theorem repC.sole {M : Mem} {x : AV} {c : Value} (h : c.oneCell' = true) (k : rep M x c) : repC M [x] [c] := by
  simp only [repC]
  exact ⟨c, [], rfl, ⟨h, k⟩, rfl⟩
theorem atL_of {M : Mem} : ∀ {xs : List AV} {cs : List Value} {b o : Nat}, repC M xs cs → (∀ j, j < cs.length → M b (o + j) = cs[j]?) → atL M xs b o
  | [], _, _, _, _, _ => by simp only [atL]
  | x :: xs, cs, b, o, h, hj => by
    simp only [repC] at h
    obtain ⟨c, cs', rfl, ⟨h1, h2⟩, h⟩ := h
    simp only [atL]
    refine ⟨⟨c, by simpa using hj 0 (by simp), h1, h2⟩, atL_of h fun j hj' => ?_⟩
    have := hj (j + 1) (by simpa using hj')
    rw [show o + 1 + j = o + (j + 1) by omega, this]
    simp
/-- elements, each of so many cells -/
theorem atE_of {M : Mem} {C : Nat} {b : Nat} : ∀ {ys : List AV} {o : Nat}, (∀ y ∈ ys, y.cells.length = C) → (∀ i y, ys[i]? = some y → ∃ cs, repC M y.cells cs ∧ ∀ j, j < cs.length → M b (o + i * C + j) = cs[j]?) → atE M ys b o
  | [], _, _, _ => by simp only [atE]
  | y :: ys, o, hC, h => by
    refine atE.cons.2 ⟨?_, ?_⟩
    · obtain ⟨cs, h1, h2⟩ := h 0 y rfl
      exact atL_of h1 (by simpa using h2)
    · rw [hC y (by simp)]
      refine atE_of (fun z hz => hC z (List.mem_cons_of_mem _ hz)) fun i z hz => ?_
      obtain ⟨cs, h1, h2⟩ := h (i + 1) z (by simpa using hz)
      refine ⟨cs, h1, fun j hj => ?_⟩
      rw [show o + C + i * C + j = o + (i + 1) * C + j by rw [Nat.add_mul]; omega]
      exact h2 j hj

section
variable {H : Type} {enc : TypeId × Value → H} {P : Program} {W : World}
/-- with so much fuel: what is read at a type is such a row of pure values -/
def Op (enc : TypeId × Value → H) (P : Program) (W : World) (n : Nat) (t : TypeId) (A : List AV → Prop) : Prop :=
  ∀ fuel, fuel ≤ n → ∀ cs x, DataW.trod enc P W 0 (fun _ => true) true fuel t cs = some x → small (x.1.weights P t) → ∃ xs, A xs ∧ repC (memW W) xs cs
theorem Op.zero {t : TypeId} {A : List AV → Prop} : Op enc P W 0 t A := fun fuel hf cs x h _ => by
  obtain rfl : fuel = 0 := by omega
  simp [DataW.trod] at h
theorem Op.less {n : Nat} {t : TypeId} {A : List AV → Prop} (h : Op enc P W (n + 1) t A) : Op enc P W n t A := fun fuel hf => h fuel (by omega)
theorem Op.mono {n : Nat} {t : TypeId} {A B : List AV → Prop} (h : Op enc P W n t A) (k : ∀ xs, A xs → B xs) : Op enc P W n t B := fun fuel hf cs x h1 h2 => by
  obtain ⟨xs, ha, hr⟩ := h fuel hf cs x h1 h2
  exact ⟨xs, k _ ha, hr⟩
theorem Op.int {n : Nat} {t : TypeId} {k : IntKind} (ht : P.underlying t = some (.int k)) : Op enc P W n t fun xs => ∃ z, (Lit.int k z).wf = true ∧ xs = [.v (.int k z)] := fun fuel hf cs x h _ => by
  obtain ⟨z, rfl, _, hw⟩ := DataW.trod_int ht h
  exact ⟨_, ⟨z, hw, rfl⟩, repC.sole rfl (by simp only [rep]; simp; try rfl)⟩
theorem Op.bool {n : Nat} {t : TypeId} (ht : P.underlying t = some .bool) : Op enc P W n t fun xs => ∃ z, xs = [.v (.bool z)] := fun fuel hf cs x h _ => by
  obtain ⟨z, rfl, _⟩ := DataW.trod_bool ht h
  exact ⟨_, ⟨z, rfl⟩, repC.sole rfl (by simp only [rep]; simp; try rfl)⟩
theorem Op.str {n : Nat} {t : TypeId} (ht : P.underlying t = some .string) : Op enc P W n t fun xs => ∃ l : List UInt8, l.length ≤ 1125899906842624 ∧ xs = [.str l] := fun fuel hf cs x h hs => by
  obtain ⟨s, rfl, hx, _⟩ := DataW.trod_string ht h
  have hl : s.data.toList.length ≤ 1125899906842624 := by
    rw [hx] at hs
    simp only [small, DataW.weights, List.all_cons, List.all_nil, Bool.and_true, reachBytes] at hs
    have := of_decide_eq_true hs
    omega
  exact ⟨_, ⟨s.data.toList, hl, rfl⟩, repC.sole rfl (by simp only [rep]; exact ⟨by simp, hl⟩)⟩

/-- fields one behind the other from an offset on -/
def seqB (P : Program) : Nat → List Field → Nat → Bool
  | o, [], c => o == c
  | o, f :: fs, c => f.offset == o && seqB P (o + P.cellsOf f.type) fs c
/-- rows one behind the other -/
def Row : List (List AV → Prop) → List AV → Prop
  | [], xs => xs = []
  | A :: As, xs => ∃ ys zs, A ys ∧ Row As zs ∧ xs = ys ++ zs
def OpAll (enc : TypeId × Value → H) (P : Program) (W : World) (n : Nat) : List Field → List (List AV → Prop) → Prop
  | [], [] => True
  | f :: fs, A :: As => Op enc P W n f.type A ∧ OpAll enc P W n fs As
  | _, _ => False
theorem Op.fields {n m c : Nat} (hm : m ≤ n) {cs : List Value} (hc : cs.length = c) : ∀ {fs : List Field} {As : List (List AV → Prop)} {o : Nat} {xs : List (DataW H × List MemPlace)}, seqB P o fs c = true → OpAll enc P W n fs As →
    (∀ (i : Nat) (f : Field), fs[i]? = some f → DataW.trod enc P W 0 (fun _ => true) true m f.type ((cs.drop f.offset).take (P.cellsOf f.type)) = xs[i]?) → xs.length = fs.length → small (DataW.weightsEach P (fs.map (·.type)) (xs.map (·.1))) →
    ∃ ys, Row As ys ∧ repC (memW W) ys (cs.drop o)
  | [], [], o, xs, hq, _, _, _, _ => by
    simp only [seqB, beq_iff_eq] at hq
    refine ⟨[], rfl, ?_⟩
    rw [List.drop_of_length_le (by omega)]
    simp only [repC]
  | f :: fs, A :: As, o, x :: xs, hq, hO, h, hl, hs => by
    simp only [seqB, Bool.and_eq_true, beq_iff_eq] at hq
    simp only [List.map_cons, DataW.weightsEach] at hs
    obtain ⟨hs1, hs2⟩ := small_app hs
    have h0 := h 0 f rfl
    obtain ⟨y1, a1, r1⟩ := hO.1 m hm _ x (by simpa using h0) hs1
    obtain ⟨y2, a2, r2⟩ := Op.fields hm hc (o := o + P.cellsOf f.type) hq.2 hO.2 (fun i g hg => by simpa using h (i + 1) g (by simpa using hg)) (by simpa using hl) hs2
    refine ⟨y1 ++ y2, ⟨y1, y2, a1, a2, rfl⟩, ?_⟩
    rw [hq.1] at r1
    have e : cs.drop o = (cs.drop o).take (P.cellsOf f.type) ++ cs.drop (o + P.cellsOf f.type) := by
      rw [← List.drop_drop, List.take_append_drop]
    rw [e]
    exact r1.append r2
  | f :: fs, A :: As, o, [], hq, hO, h, hl, hs => by simp at hl
  | [], A :: As, o, xs, hq, hO, h, hl, hs => by simp [OpAll] at hO
  | f :: fs, [], o, xs, hq, hO, h, hl, hs => by simp [OpAll] at hO
theorem Op.struct {n : Nat} {t : TypeId} {fs : Array Field} {As : List (List AV → Prop)} (ht : P.underlying t = some (.struct fs)) (hq : seqB P 0 fs.toList (P.cellsOf t) = true) (hO : OpAll enc P W n fs.toList As) : Op enc P W (n + 1) t (Row As) := fun fuel hf cs x h hs => by
  obtain ⟨xs, m, rfl, rfl, hc, hl, hi⟩ := DataW.trod_struct ht h
  simp only [DataW.weights, ht] at hs
  obtain ⟨ys, h1, h2⟩ := Op.fields (n := n) (m := m) (by omega) hc hq hO (fun i f hif => hi i f (by simpa using hif)) (by simpa using hl) hs
  exact ⟨ys, h1, by simpa using h2⟩

theorem small_mem {e : TypeId} {x : DataW H} : ∀ {l : List (DataW H)}, x ∈ l → small (DataW.weightsAll P e l) → small (x.weights P e)
  | [], h, _ => by cases h
  | d :: l, h, hw => by
    simp only [DataW.weightsAll] at hw
    obtain ⟨h1, h2⟩ := small_app hw
    rcases List.mem_cons.1 h with rfl | h
    · exact h1
    · exact small_mem h h2

theorem Op.slice {n C : Nat} {t e : TypeId} {B : AV → Prop} (ht : P.underlying t = some (.slice e)) (hC : P.cellsOf e = C) (h0 : C ≠ 0) (hO : Op enc P W n e fun xs => ∃ y : AV, B y ∧ y.cells = xs) :
    Op enc P W (n + 1) t fun xs => ∃ ys : List AV, (∀ y ∈ ys, B y) ∧ xs = [.sl .no C ys] := fun fuel hf cs x h hs => by
  rcases DataW.trod_slice ht h with ⟨rfl, rfl⟩ | ⟨a, len, cap, elems, rest, m, rfl, rfl, rfl, _, hl, hm, hlen, hel, _, _⟩
  · refine ⟨_, ⟨[], by simp, rfl⟩, repC.sole rfl ?_⟩
    simp only [rep]
    exact ⟨none, 0, rfl, Nat.le_refl _, by simp, fun _ => rfl, ⟨fun _ => rfl, by simp⟩, trivial, fun h => absurd h (by simp)⟩
  · simp only [DataW.weights, ht] at hs
    have hs' : small (DataW.weightsAll P e (elems.map (·.1))) := by
      have := small_app (a := [_]) hs
      exact (small_app this.2).1
    have key : ∀ i, i < len → ∃ y : AV, B y ∧ y.cells.length = C ∧ ∃ cs, repC (memW W) y.cells cs ∧ cs.length = C ∧ ∀ j, j < C → W.cell? ((a.add (i * C)).add j) = cs[j]? := fun i hi => by
      have h1 := hel i hi
      have hx : elems[i]? = some elems[i] := List.getElem?_eq_getElem (by omega)
      rw [hx, Option.bind_eq_some_iff] at h1
      obtain ⟨cs', hc, ht'⟩ := h1
      obtain ⟨_, hcl, hat⟩ := World.cells?_some hc
      obtain ⟨xs, ⟨y, hy, rfl⟩, hr⟩ := hO m (by omega) cs' _ ht' (small_mem (List.mem_map.2 ⟨_, List.getElem_mem (by omega), rfl⟩) hs')
      rw [hC] at hcl hat
      exact ⟨y, hy, by rw [← hr.length, hcl], cs', hr, hcl, hat⟩
    have hch : ∃ f : Nat → AV, ∀ i, i < len → B (f i) ∧ (f i).cells.length = C ∧ ∃ cs, repC (memW W) (f i).cells cs ∧ cs.length = C ∧ ∀ j, j < C → W.cell? ((a.add (i * C)).add j) = cs[j]? := by
      refine ⟨fun i => if h : i < len then Classical.choose (key i h) else .v default, fun i hi => ?_⟩
      simp only [hi, dif_pos]
      exact Classical.choose_spec (key i hi)
    obtain ⟨f, hf⟩ := hch
    refine ⟨_, ⟨(List.range len).map f, fun y hy => ?_, rfl⟩, repC.sole rfl ?_⟩
    · obtain ⟨i, hi, rfl⟩ := List.mem_map.1 hy
      exact (hf i (List.mem_range.1 hi)).1
    · simp only [rep, List.length_map, List.length_range]
      refine ⟨some a, cap, rfl, hl, hm, (fun h => by cases h), ⟨fun h => absurd h h0, fun y hy => ?_⟩, trivial, fun hn => ?_⟩
      · obtain ⟨i, hi, rfl⟩ := List.mem_map.1 hy
        exact (hf i (List.mem_range.1 hi)).2.1
      · obtain ⟨_, _, cs0, _, hl0, h0'⟩ := hf 0 hn
        have hc0 := h0' 0 (by omega)
        have hv : cs0[0]? = some (cs0[0]'(by omega)) := List.getElem?_eq_getElem (by omega)
        rw [hv] at hc0
        have hsp := addr_cell hc0
        obtain ⟨b, off, spot⟩ := a
        have hsp : spot = none := by simpa [Addr.add] using hsp
        subst hsp
        refine ⟨b, off, rfl, atE_of (C := C) (fun y hy => ?_) fun i y hy => ?_⟩
        · obtain ⟨i, hi, rfl⟩ := List.mem_map.1 hy
          exact (hf i (List.mem_range.1 hi)).2.1
        · simp only [List.getElem?_map, Option.map_eq_some_iff] at hy
          obtain ⟨k, hk, rfl⟩ := hy
          have hil := (List.getElem?_eq_some_iff.1 hk).1
          have hik := (List.getElem?_eq_some_iff.1 hk).2
          rw [List.length_range] at hil
          rw [List.getElem_range] at hik
          subst hik
          obtain ⟨_, _, cs, hr, hcl, hat⟩ := hf i hil
          refine ⟨cs, hr, fun j hj => ?_⟩
          have := hat j (by omega)
          rw [Addr.add_lit, Addr.add_lit] at this
          exact this
end
end Go.Proofs.YtahdkhklngjmoaaGreatDoor

/-
  Levels and terms as a law's arguments; a law's contract as the row wants it. No condition.
-/
namespace Go.Proofs.YtahdkhklngjmoaaGreatDoor
open Go.ChangeShapes Go.WideShapes Go.ChangeAt Go.RowKit

theorem Tryz.laidOut : laidOutB Tryz.prog = true := by kernel_rfl
theorem Tryz.own : ownKnob Tryz.prog.godebug = none := by kernel_rfl
/-- what the rows list -/
def laidRows : List (String × DataW Unit) := [("unicode/utf8.acceptRanges", Rows.laid_unicode_utf8_acceptRanges), ("unicode/utf8.first", Rows.laid_unicode_utf8_first)]
set_option maxRecDepth 100000 in
/-- A world where the variables hold what the rows list. -/
theorem laid_met (os : Os) (args : Array Value) : laidMetH Tryz.prog laidRows ((World.laidAll Tryz.prog os laidRows).forCall (fun _ _ => 0) ⟨#[], args, []⟩).memory := by
  rw [MakeChecks.laidMetH_plain _ _ _ (by kernel_rfl)]
  exact laidMet_laidAll _ (by kernel_rfl) (by kernel_rfl)

/-- A law's contract, for a call from outside. -/
theorem law_calls {P : Program} {f : FuncId} {args : List AV} {vs : List Value} {W : World} (hent : ∀ as' w, (callFunc f as').run P w = .ok (.enter f as') w) (h : Ans P f args (.b true)) (hG : GW W ∧ nG ≤ W.heap.size) (hr : repT (memW W) args vs) :
    Calls P f vs.toArray W fun e W' => e = .returned (.bool true) ∧ Below W.heap.size W W' := by
  have h1 := h [] (fun r _ => r = .b true) rfl (memW W) W vs ⟨hG.1, hG.2, fun b hb => by cases hb⟩ (inv_memW W) hr
  rw [hent] at h1
  refine Calls.mono h1 ?_
  rintro e w' ⟨v, rfl, M', r, H', evo, _, _, hrep, rfl⟩
  have hrep : rep M' (.v (.bool true)) v := hrep
  simp only [rep] at hrep
  exact ⟨by rw [hrep.1], evo.os, evo.tape, evo.output, evo.size, fun k hk => evo.block k hk (by simp [Heap.keys])⟩

section
variable {H : Type} {enc : TypeId × Value → H} {P : Program} {W : World} {base : Nat} {v : Value} {d : DataW H} {p : List MemPlace}
theorem arg_struct {α : Type} {t : TypeId} {fs : Array Field} {F : α → List AV} (ht : P.underlying t = some (.struct fs)) (hO : ∀ n, Op enc P W n t fun xs => ∃ a, xs = F a)
    (hval : Value.okWide P W .any base t v) (h : DataW.Trod enc P W 0 (fun _ => true) true t v d p) (hs : small (d.weights P t)) : ∃ a, rep (memW W) (.agg (F a)) v := by
  obtain ⟨cs, rfl, _⟩ := okWide_struct ht hval
  obtain ⟨fuel, hf⟩ := h
  obtain ⟨xs, ⟨a, rfl⟩, hr⟩ := hO fuel fuel (Nat.le_refl _) _ _ hf hs
  refine ⟨a, ?_⟩
  simp only [rep]
  exact ⟨_, by simp [Value.cells], hr⟩
theorem arg_one {α : Type} {t : TypeId} {F : α → AV} (hO : ∀ n, Op enc P W n t fun xs => ∃ a, xs = [F a])
    (hcell : v.cells = #[v]) (h : DataW.Trod enc P W 0 (fun _ => true) true t v d p) (hs : small (d.weights P t)) : ∃ a, rep (memW W) (F a) v := by
  obtain ⟨fuel, hf⟩ := h
  obtain ⟨xs, ⟨a, rfl⟩, hr⟩ := hO fuel fuel (Nat.le_refl _) _ _ hf hs
  rw [hcell] at hr
  simp only [repC] at hr
  obtain ⟨c, cs', e, ⟨_, h1⟩, _⟩ := hr
  simp at e
  obtain ⟨rfl, _⟩ := e
  exact ⟨a, h1⟩
end

section
variable {H : Type} {enc : TypeId × Value → H} {W : World}
def lvsOf : List AV → Prop := fun xs => ∃ ls : List Lv, xs = [.sl .no 3 (ls.map lvA)]
theorem map_of {α : Type} {F : α → AV} : ∀ {ys : List AV}, (∀ y ∈ ys, ∃ a, y = F a) → ∃ zs : List α, ys = zs.map F
  | [], _ => ⟨[], rfl⟩
  | y :: ys, h => by
    obtain ⟨a, rfl⟩ := h y (by simp)
    obtain ⟨zs, rfl⟩ := map_of fun z hz => h z (List.mem_cons_of_mem _ hz)
    exact ⟨a :: zs, rfl⟩
theorem op_lvs {n : Nat} (h : Op enc Tryz.prog W n 65 fun xs => ∃ l : Lv, xs = (lvX l).cells) : Op enc Tryz.prog W (n + 1) 27 fun xs => ∃ ls : List Lv, xs = [.sl .no 3 (ls.map lvA)] := by
  refine (Op.slice (C := 3) (e := 65) (B := fun y => ∃ l, y = lvA l) (by kernel_rfl) (by kernel_rfl) (by decide) (h.mono fun xs hx => ?_)).mono fun xs hx => ?_
  · obtain ⟨l, rfl⟩ := hx
    exact ⟨lvA l, ⟨l, rfl⟩, by rw [lvA_eq]⟩
  · obtain ⟨ys, hy, rfl⟩ := hx
    obtain ⟨zs, rfl⟩ := map_of hy
    exact ⟨zs, rfl⟩
theorem op_lv : ∀ n, Op enc Tryz.prog W n 65 fun xs => ∃ l : Lv, xs = (lvX l).cells
  | 0 => Op.zero
  | n + 1 => by
    refine (Op.struct (As := [fun xs => ∃ z, xs = [AV.i z], fun xs => ∃ z, xs = [AV.i z], lvsOf]) Tryz.underlying65 (by kernel_rfl) ⟨?_, ?_, ?_, trivial⟩).mono fun xs hx => ?_
    · exact (Op.int (k := .i64) (by kernel_rfl)).mono fun xs ⟨z, _, h⟩ => ⟨z, h⟩
    · exact (Op.int (k := .i64) (by kernel_rfl)).mono fun xs ⟨z, _, h⟩ => ⟨z, h⟩
    · exact (op_lvs (op_lv n)).less
    · obtain ⟨_, _, ⟨k, rfl⟩, ⟨_, _, ⟨z, rfl⟩, ⟨_, _, ⟨ls, rfl⟩, rfl, rfl⟩, rfl⟩, rfl⟩ := hx
      exact ⟨.mk k z ls, rfl⟩
theorem op_tms {n : Nat} (h : Op enc Tryz.prog W n 30 fun xs => ∃ l : Tm, xs = (tmX l).cells) : Op enc Tryz.prog W (n + 1) 28 fun xs => ∃ ls : List Tm, xs = [.sl .no 5 (ls.map tmA)] := by
  refine (Op.slice (C := 5) (e := 30) (B := fun y => ∃ l, y = tmA l) (by kernel_rfl) (by kernel_rfl) (by decide) (h.mono fun xs hx => ?_)).mono fun xs hx => ?_
  · obtain ⟨l, rfl⟩ := hx
    exact ⟨tmA l, ⟨l, rfl⟩, by rw [tmA_eq]⟩
  · obtain ⟨ys, hy, rfl⟩ := hx
    obtain ⟨zs, rfl⟩ := map_of hy
    exact ⟨zs, rfl⟩
theorem op_tm : ∀ n, Op enc Tryz.prog W n 30 fun xs => ∃ l : Tm, xs = (tmX l).cells
  | 0 => Op.zero
  | n + 1 => by
    refine (Op.struct (As := [fun xs => ∃ z, xs = [AV.i z], fun xs => ∃ z, xs = [AV.i z], fun xs => ∃ s, xs = [AV.str s], lvsOf, fun xs => ∃ ls : List Tm, xs = [.sl .no 5 (ls.map tmA)]]) Tryz.underlying30 (by kernel_rfl) ⟨?_, ?_, ?_, ?_, ?_, trivial⟩).mono fun xs hx => ?_
    · exact (Op.int (k := .i64) (by kernel_rfl)).mono fun xs ⟨z, _, h⟩ => ⟨z, h⟩
    · exact (Op.int (k := .i64) (by kernel_rfl)).mono fun xs ⟨z, _, h⟩ => ⟨z, h⟩
    · exact (Op.str (by kernel_rfl)).mono fun xs ⟨z, _, h⟩ => ⟨z, h⟩
    · exact (op_lvs (op_lv n)).less
    · exact (op_tms (op_tm n)).less
    · obtain ⟨_, _, ⟨k, rfl⟩, ⟨_, _, ⟨z, rfl⟩, ⟨_, _, ⟨s, rfl⟩, ⟨_, _, ⟨ls, rfl⟩, ⟨_, _, ⟨ts, rfl⟩, rfl, rfl⟩, rfl⟩, rfl⟩, rfl⟩, rfl⟩ := hx
      exact ⟨.mk k z s ls ts, rfl⟩
end
end Go.Proofs.YtahdkhklngjmoaaGreatDoor

/-
  Declarations and bytes as a law's arguments. No condition.
-/
namespace Go.Proofs.YtahdkhklngjmoaaGreatDoor
open Go.ChangeShapes Go.WideShapes Go.ChangeAt Go.RowKit

section
variable {H : Type} {enc : TypeId × Value → H} {W : World}
end
end Go.Proofs.YtahdkhklngjmoaaGreatDoor

/-
  Entries, rows of levels, of terms and of texts, numbers and texts as a law's arguments. No condition.
-/
namespace Go.Proofs.YtahdkhklngjmoaaGreatDoor
open Go.ChangeShapes Go.WideShapes Go.ChangeAt Go.RowKit

def iX (z : Int) : AV := .i z
def stX (s : List UInt8) : AV := .str s
section
variable {H : Type} {enc : TypeId × Value → H} {W : World}
theorem op_int (n : Nat) : Op enc Tryz.prog W n 3 fun xs => ∃ z : Int, xs = [iX z] := (Op.int (k := .i64) (by kernel_rfl)).mono fun _ ⟨z, _, h⟩ => ⟨z, h⟩
theorem op_st (n : Nat) : Op enc Tryz.prog W n 9 fun xs => ∃ z : List UInt8, xs = [stX z] := (Op.str (by kernel_rfl)).mono fun _ ⟨z, _, h⟩ => ⟨z, h⟩
theorem op_sts (n : Nat) : Op enc Tryz.prog W n 53 fun xs => ∃ ss : List (List UInt8), xs = [stsX ss] := by
  cases n with
  | zero => exact Op.zero
  | succ n =>
    refine (Op.slice (C := 1) (e := 9) (B := fun y => ∃ s, y = AV.str s) (by kernel_rfl) (by kernel_rfl) (by decide) ((op_st n).mono fun xs hx => ?_)).mono fun xs hx => ?_
    · obtain ⟨s, rfl⟩ := hx
      exact ⟨.str s, ⟨s, rfl⟩, rfl⟩
    · obtain ⟨ys, hy, rfl⟩ := hx
      obtain ⟨zs, rfl⟩ := map_of hy
      exact ⟨zs, rfl⟩
theorem op_en : ∀ n, Op enc Tryz.prog W n 55 fun xs => ∃ d : En, xs = (enX d).cells
  | 0 => Op.zero
  | n + 1 => by
    refine (Op.struct (As := [fun xs => ∃ z, xs = [iX z], fun xs => ∃ z, xs = [iX z], fun xs => ∃ s, xs = [stX s], fun xs => ∃ t : Tm, xs = (tmX t).cells, fun xs => ∃ t : Tm, xs = (tmX t).cells, fun xs => ∃ z, xs = [iX z], fun xs => ∃ s, xs = [stX s], fun xs => ∃ z, xs = [iX z], fun xs => ∃ z, xs = [iX z], fun xs => ∃ z, xs = [iX z], fun xs => ∃ ss, xs = [stsX ss]]) Tryz.underlying55 (by kernel_rfl) ⟨op_int n, op_int n, op_st n, op_tm n, op_tm n, op_int n, op_st n, op_int n, op_int n, op_int n, op_sts n, trivial⟩).mono fun xs hx => ?_
    obtain ⟨_, _, ⟨k, rfl⟩, ⟨_, _, ⟨p, rfl⟩, ⟨_, _, ⟨s, rfl⟩, ⟨_, _, ⟨t, rfl⟩, ⟨_, _, ⟨v, rfl⟩, ⟨_, _, ⟨h, rfl⟩, ⟨_, _, ⟨f, rfl⟩, ⟨_, _, ⟨fi, rfl⟩, ⟨_, _, ⟨ix, rfl⟩, ⟨_, _, ⟨fl, rfl⟩, ⟨_, _, ⟨cs, rfl⟩, rfl, rfl⟩, rfl⟩, rfl⟩, rfl⟩, rfl⟩, rfl⟩, rfl⟩, rfl⟩, rfl⟩, rfl⟩, rfl⟩ := hx
    exact ⟨⟨k, p, s, t, v, h, f, fi, ix, fl, cs⟩, by simp [enX, tmX, AV.cells, iX, stX, stsX]⟩
end
end Go.Proofs.YtahdkhklngjmoaaGreatDoor

