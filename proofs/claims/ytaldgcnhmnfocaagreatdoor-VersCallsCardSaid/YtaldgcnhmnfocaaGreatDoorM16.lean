/-
  Texts put together: S1, Lays2, S2, S3. No condition.
-/
import Derived.Test.YtaldgcnhmnfocaaGreatDoorM15
import Derived.Test.YtaldgcnhmnfocaaGreatDoorM12
import Derived.Test.YtaldgcnhmnfocaaGreatDoorM6
import Derived.Shelf.Sort.Plain
import Derived.Shelf.Slices.CompactS
import Derived.Shelf.Slices.In.SortNone
import Derived.Ground.NamesProg
import Derived.Lib.RowBridge
/-
  Functions that are ranged over: term's walk, slices.Values, Backward; slices.AppendSeq, Collect. No condition.
-/
namespace Go.Proofs.YtaldgcnhmnfocaaGreatDoor
open Go.RowKit

/-! a term's parts, itself first -/
mutual
def Tm.subs : Tm → List Tm
  | .mk k n nm ls xs => .mk k n nm ls xs :: Tm.subsL xs
def Tm.subsL : List Tm → List Tm
  | [] => []
  | t :: ts => t.subs ++ Tm.subsL ts
end
theorem Tm.subs_eq (t : Tm) : t.subs = t :: Tm.subsL t.args := by cases t; rfl
theorem subsL_append : ∀ a b : List Tm, Tm.subsL (a ++ b) = Tm.subsL a ++ Tm.subsL b
  | [], b => rfl
  | t :: ts, b => by rw [List.cons_append, Tm.subsL, Tm.subsL, subsL_append ts b, List.append_assoc]
theorem subsL_snoc {ts : List Tm} {j : Nat} (h : j < ts.length) : Tm.subsL (ts.take (j + 1)) = Tm.subsL (ts.take j) ++ ts[j].subs := by
  rw [List.take_succ_eq_append_getElem h, subsL_append]
  simp [Tm.subsL]
theorem subsL_at {ts : List Tm} {j i : Nat} {x : Tm} (h : j < ts.length) (hx : ts[j].subs[i]? = some x) : (Tm.subsL ts)[(Tm.subsL (ts.take j)).length + i]? = some x := by
  have e : Tm.subsL ts = Tm.subsL (ts.take j) ++ (ts[j].subs ++ Tm.subsL (ts.drop (j + 1))) := by
    conv => lhs; rw [← List.take_append_drop j ts, List.drop_eq_getElem_cons h]
    rw [subsL_append]
    rfl
  rw [e, List.getElem?_append_right (by omega), Nat.add_sub_cancel_left, List.getElem?_append_left]
  · exact hx
  · exact (List.getElem?_eq_some_iff.1 hx).1
mutual
theorem subs_len : ∀ t : Tm, t.subs.length ≤ t.nodes
  | .mk k n nm ls xs => by
    rw [Tm.subs, Tm.nodes, List.length_cons]
    have := subsL_len xs
    omega
theorem subsL_len : ∀ ts : List Tm, (Tm.subsL ts).length ≤ Tm.nodesL ts
  | [] => Nat.le_refl _
  | t :: ts => by
    rw [Tm.subsL, Tm.nodesL, List.length_append]
    have := subs_len t
    have := subsL_len ts
    omega
end


/-- what a term's walk hands on -/
def tmWalk (t : Tm) : List (List AV) := t.subs.map fun x => [tmX x]

/-! slices.Values -/
def stsEach (ss : List (List UInt8)) : List (List AV) := ss.map fun s => [.str s]

/-! slices.Backward over terms -/
def backEach (ts : List Tm) : List (List AV) := (List.range ts.length).map fun i => [.i ((ts.length - 1 - i : Nat) : Int), tmX (ts.getD (ts.length - 1 - i) tm0)]
end Go.Proofs.YtaldgcnhmnfocaaGreatDoor

/-
  DERIVED: THE SHELF's CONTRACTS AT THIS DUMP, IN PLAIN WORDS (tools/lay-plain.mjs out of 'YtaldgcnhmnfocaaGreatDoorLays2.lean', which tools/lay-shelf.mjs wrote): THE SAME DECLARATIONS UNDER THE SAME NAMES: 'import', 'namespace', 'open', 'def', 'theorem' AND NOTHING ELSE: no command of the shelf's: FOR A HAND-IN. Each laying: the table of numbers ('.._ren') and one theorem, a field a fact of the dump's own or the kernel's comparison; each contract: ONE APPLICATION.
-/
namespace Go.Proofs.YtaldgcnhmnfocaaGreatDoor
open Go.Shelf
end Go.Proofs.YtaldgcnhmnfocaaGreatDoor

/-
  slices.AppendSeq, Collect, Sort, Sorted, Compact over texts; name.Sort; term.Consts. No condition.
-/
namespace Go.Proofs.YtaldgcnhmnfocaaGreatDoor
open Go.RowKit Go.Sort

/-- a row of cells that turned, and new blocks behind the heap -/
theorem row_turn {M : Mem} {H : Heap} {w w' : World} {b : Nat} {cs ys : List AV} {ds : List Value} {T0 : TypeId} (h : Inv M ((b, .cells cs) :: H) w) (hsz : w.heap.size ≤ w'.heap.size) (h1 : w'.os = w.os) (h2 : w'.tape = w.tape) (h3 : w'.output = w.output)
    (hot : ∀ k, k < w.heap.size → k ≠ b → w'.heap[k]? = w.heap[k]?) (hb : w'.heap[b]? = some (.cells ds.toArray T0 (0, 0))) (hc : repC M ys ds) : Evo [b] M w M w' ∧ Inv M ((b, .cells ys) :: H) w' := by
  have e : Evo [b] M w M w' := ⟨h1, h2, h3, hsz, fun k hk hn => hot k hk (by simpa using hn), Mem.le.refl M, fun _ _ _ h => Or.inl h⟩
  obtain ⟨hnone, vs, T, hg, _⟩ := h.obj b (.cells cs) (by simp)
  have hnd := h.nodup
  simp only [Heap.keys, List.map_cons, List.nodup_cons] at hnd
  refine ⟨e, fun b' o v hv => ?_, fun b' x hx => ?_, by simpa only [Heap.keys, List.map_cons, List.nodup_cons] using hnd⟩
  · have hne : b' ≠ b := fun e => by subst e; rw [hnone o] at hv; cases hv
    rw [← h.mem b' o v hv]
    simp only [World.cell?, hot b' (h.lt hv) hne]
  · rcases List.mem_cons.1 hx with hx | hx
    · cases hx
      exact ⟨hnone, ds, T0, hb, hc⟩
    · have hne : b' ≠ b := fun e => hnd.1 (by rw [← e]; exact Heap.mem_keys hx)
      exact (h.obj b' x (List.mem_cons_of_mem _ hx)).keep e (by simpa using hne)
theorem flat_strs : ∀ ss : List (List UInt8), (ss.map AV.str).flatMap AV.cells = ss.map AV.str
  | [] => rfl
  | s :: ss => by
    show AV.str s :: (ss.map AV.str).flatMap AV.cells = _
    rw [flat_strs ss]
    rfl
theorem strs_rep {M : Mem} : ∀ {ss : List (List UInt8)}, (∀ s ∈ ss, s.length ≤ 1125899906842624) → repC M (ss.map .str) (ss.map encStr)
  | [], _ => by simp only [List.map_nil, repC]
  | s :: ss, h => by
    simp only [List.map_cons, repC]
    exact ⟨_, _, rfl, ⟨rfl, rep_str (h s (by simp))⟩, strs_rep fun x hx => h x (List.mem_cons_of_mem _ hx)⟩
theorem strs_vals {M : Mem} : ∀ {ss : List (List UInt8)} {vs : List Value}, repC M (ss.map .str) vs → vs = ss.map encStr ∧ ∀ s ∈ ss, s.length ≤ 1125899906842624
  | [], vs, h => by simp only [List.map_nil, repC] at h; subst h; exact ⟨rfl, fun s hs => by cases hs⟩
  | s :: ss, vs, h => by
    simp only [List.map_cons, repC] at h
    obtain ⟨c, cs, rfl, ⟨_, h1⟩, h2⟩ := h
    simp only [rep] at h1
    obtain ⟨k1, k2⟩ := strs_vals h2
    exact ⟨by rw [h1.1, k1]; rfl, fun x hx => by rcases List.mem_cons.1 hx with rfl | hx; exact h1.2; exact k2 x hx⟩
/-- texts in a row that may turn: what the shelf wants, and what it gives -/
theorem row_strs {M : Mem} {H : Heap} {w : World} {b n cap : Nat} {cs : List AV} {ss : List (List UInt8)} (hok : TurnOk 1 n (ss.map .str) H b cap cs) (hI : Inv M ((b, .cells cs) :: H) w) :
    ss.length = n ∧ (∀ s ∈ ss, s.length ≤ 1125899906842624) ∧ b < w.heap.size ∧ Holds encStr w b 0 ss.toArray ∧
    ∀ (ss' : List (List UInt8)) (k : Nat) (os : Array Obj), ss'.length = n → (∀ s ∈ ss', s.length ≤ 1125899906842624) → Evo [b] M w M (grow (putRow encStr (Sort.ahead w k) b 0 ss'.toArray) os) ∧ Inv M ((b, .cells (ss'.map .str ++ cs.drop n)) :: H) (grow (putRow encStr (Sort.ahead w k) b 0 ss'.toArray) os) := by
  have hn : ss.length = n := by have := hok.len; rwa [List.length_map] at this
  have hhere := hok.here
  rw [flat_strs, Nat.mul_one] at hhere
  obtain ⟨_, vs, T0, hg, hrep⟩ := hI.obj b (.cells cs) (by simp)
  have hlt : b < w.heap.size := (Array.getElem?_eq_some_iff.1 hg).1
  obtain ⟨k1, k2⟩ := strs_vals (M := M) (vs := vs.take n) (by rw [← hhere]; exact hrep.take n)
  have hvl : n ≤ vs.length := by
    have := congrArg List.length k1
    rw [List.length_take, List.length_map] at this
    omega
  refine ⟨hn, k2, hlt, fun j hj => ?_, fun ss' k os hl h50 => ?_⟩
  · simp only [List.size_toArray] at hj
    have e1 : vs[j]? = some (encStr ss[j]) := by
      have : (vs.take n)[j]? = (ss.map encStr)[j]? := by rw [k1]
      rw [List.getElem?_take, if_pos (by omega), List.getElem?_map, List.getElem?_eq_getElem hj] at this
      exact this
    refine ⟨?_, ?_⟩
    · simp only [World.cell?, hg, Nat.zero_add]
      rw [getElem!_pos ss.toArray j (by simpa using hj)]
      simpa using e1
    · simp [World.frozen?, hg]
  · refine row_turn (ds := ss'.map encStr ++ vs.drop n) (T0 := T0) hI (by rw [size_grow]; unfold putRow mapBlock Sort.ahead; simp) rfl rfl rfl (fun q hq hqb => ?_) ?_ ((strs_rep h50).append (hrep.drop n))
    · unfold grow putRow mapBlock Sort.ahead
      simp only
      rw [Array.getElem?_append_left (by simpa using hq), Array.getElem?_modify, if_neg (Ne.symm hqb)]
    · unfold grow putRow mapBlock Sort.ahead
      simp only
      rw [Array.getElem?_append_left (by simpa using hlt), Array.getElem?_modify, if_pos rfl, hg]
      simp only [Option.map_some, onCells]
      congr 2
      apply Array.ext_getElem?
      intro i
      unfold Sort.putCells
      rw [Array.getElem?_mapIdx]
      simp only [List.size_toArray, Nat.zero_le, true_and, Nat.zero_add, Nat.sub_zero, List.getElem?_toArray]
      by_cases hi : i < n
      · rw [List.getElem?_append_left (by simpa [hl] using hi), List.getElem?_map, List.getElem?_eq_getElem (by omega), List.getElem?_eq_getElem (by omega)]
        simp only [Option.map_some]
        rw [if_pos (by omega), getElem!_pos ss'.toArray i (by simpa [hl] using hi)]
        simp
      · rw [List.getElem?_append_right (by simp [hl]; omega), List.length_map, hl, List.getElem?_drop, show n + (i - n) = i by omega]
        cases vs[i]? with
        | none => rfl
        | some v => simp only [Option.map_some]; rw [if_neg (by omega)]

/-- texts in order -/
def stsSort (ss : List (List UInt8)) : List (List UInt8) := ss.mergeSort fun x y => decide (x ≤ y)
theorem stsSort_len (ss : List (List UInt8)) : (stsSort ss).length = ss.length := List.length_mergeSort _
theorem stsSort_mem {ss : List (List UInt8)} {s : List UInt8} : s ∈ stsSort ss ↔ s ∈ ss := List.mem_mergeSort
theorem turn_strs {n cap b : Nat} {ss ss' : List (List UInt8)} {H : Heap} {cs : List AV} (hok : TurnOk 1 n (ss.map .str) H b cap cs) (hl : ss'.length = n) : TurnOk 1 n (ss'.map .str) H b cap (ss'.map .str ++ cs.drop n) := by
  have h := hok.here
  rw [flat_strs, Nat.mul_one] at h
  have h1 : (cs.take n).length = n := by rw [h]; exact hok.len
  have hr := hok.room
  have hle := hok.le
  refine ⟨by simpa using hl, hok.out, hok.le, hok.max, ?_, ?_⟩
  · rw [List.length_append, List.length_map, List.length_drop, hl]
    rw [List.length_take] at h1
    omega
  · rw [flat_strs, Nat.mul_one, List.take_left' (by simpa using hl)]
/-- each text once -/
def stsOnce (ss : List (List UInt8)) : List (List UInt8) := Lib.compact ss
theorem stsOnce_le (ss : List (List UInt8)) : (stsOnce ss).length ≤ ss.length := Lib.compact_length_le ss
theorem stsOnce_mem {ss : List (List UInt8)} {s : List UInt8} (h : s ∈ stsOnce ss) : s ∈ ss := by
  unfold stsOnce Lib.compact Lib.compactUpTo at h
  obtain ⟨i, hi, rfl⟩ := List.mem_map.1 h
  have := List.mem_range.1 (List.mem_filter.1 hi).1
  rw [getElem!_pos ss.toArray i (by simpa using this)]
  simp
theorem turn_once {n cap b : Nat} {ss : List (List UInt8)} {H : Heap} {cs : List AV} (hok : TurnOk 1 n (ss.map .str) H b cap cs) (hn : ss.length = n) : TurnOk 1 (stsOnce ss).length ((stsOnce ss).map .str) H b cap (((stsOnce ss) ++ List.replicate (ss.length - (stsOnce ss).length) []).map .str ++ cs.drop n) := by
  have hle := stsOnce_le ss
  have h := turn_strs (ss' := stsOnce ss ++ List.replicate (ss.length - (stsOnce ss).length) []) hok (by simp; omega)
  have h2 := h.le
  refine ⟨by simp, h.out, by omega, h.max, h.room, ?_⟩
  rw [flat_strs, Nat.mul_one, List.map_append, List.append_assoc, List.take_left' (by simp)]
end Go.Proofs.YtaldgcnhmnfocaaGreatDoor

/-
  slices.AppendSeq, Collect, Sorted over texts; name.Sort; term.Consts. No condition.
-/
namespace Go.Proofs.YtaldgcnhmnfocaaGreatDoor
open Go.RowKit Go.Sort

theorem stsSort_nil : stsSort [] = [] := by simp [stsSort]
theorem TurnOk.drop {size n : Nat} {xs : List AV} {H H' : Heap} {b cap : Nat} {cs : List AV} (h : TurnOk size n xs H b cap cs) (hs : H'.Sublist H) : TurnOk size n xs H' b cap cs :=
  ⟨h.len, fun hb => h.out ((hs.map _).subset hb), h.le, h.max, h.room, h.here⟩
theorem MvOk.drop {size n : Nat} {xs : List AV} {H H' : Heap} {m : Mv} (h : MvOk size n xs H m) (hs : H'.Sublist H) : MvOk size n xs H' m := by
  cases m with
  | none => exact h
  | some p => exact ⟨h.1, h.2.drop hs⟩
theorem mvH_sub {m : Mv} {H H' : Heap} (hs : H'.Sublist H) : (mvH m H').Sublist (mvH m H) := by
  cases m with
  | none => exact hs
  | some p => exact hs.cons_cons _
/-- texts in order, each once -/
def nmSort (ss : List (List UInt8)) : List (List UInt8) := stsOnce (stsSort ss)
theorem nmSort_nil : nmSort [] = [] := by rw [nmSort, stsSort_nil]; rfl

/-! term.Consts -/
def cnames (ts : List Tm) : List (List UInt8) := (ts.filter fun t => decide (t.kind = 3)).map Tm.name
theorem cnames_snoc {ts : List Tm} {j : Nat} (h : j < ts.length) : cnames (ts.take (j + 1)) = cnames (ts.take j) ++ if ts[j].kind = 3 then [ts[j].name] else [] := by
  rw [List.take_succ_eq_append_getElem h, cnames, List.filter_append, List.map_append]
  congr 1
  by_cases hk : ts[j].kind = 3
  · rw [if_pos hk]; simp [hk]
  · rw [if_neg hk]; simp [hk]
theorem cnames_len (ts : List Tm) : (cnames ts).length ≤ ts.length := by
  rw [cnames, List.length_map]
  exact List.length_filter_le _ _
/-- the names of a term's constants -/
def tmConsts (t : Tm) : List (List UInt8) := if tmRight 4 1125899906842624 t = true then nmSort (cnames t.subs) else []
end Go.Proofs.YtaldgcnhmnfocaaGreatDoor
