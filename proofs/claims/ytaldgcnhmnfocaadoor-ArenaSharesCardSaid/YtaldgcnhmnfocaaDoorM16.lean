/-
  Texts put together: Lays2, S1, S2, S3, S4, S5, S6, S7, S9. No condition.
-/
import Derived.Test.YtaldgcnhmnfocaaDoorM6
import Derived.Shelf.Sort.Plain
import Derived.Shelf.Slices.CompactS
import Derived.Shelf.Slices.In.SortNone
import Derived.Ground.NamesProg
import Derived.Test.YtaldgcnhmnfocaaDoorM15
import Derived.Test.YtaldgcnhmnfocaaDoorM12
import Derived.Lib.RowBridge
/-
  DERIVED: THE SHELF's CONTRACTS AT THIS DUMP, IN PLAIN WORDS (tools/lay-plain.mjs out of 'YtaldgcnhmnfocaaDoorLays2.lean', which tools/lay-shelf.mjs wrote): THE SAME DECLARATIONS UNDER THE SAME NAMES: 'import', 'namespace', 'open', 'def', 'theorem' AND NOTHING ELSE: no command of the shelf's: FOR A HAND-IN. Each laying: the table of numbers ('.._ren') and one theorem, a field a fact of the dump's own or the kernel's comparison; each contract: ONE APPLICATION.
-/
namespace Go.Proofs.YtaldgcnhmnfocaaDoor
open Go.Shelf
end Go.Proofs.YtaldgcnhmnfocaaDoor

/-
  Functions that are ranged over: term's walk, slices.Values, Backward; slices.AppendSeq, Collect. No condition.
-/
namespace Go.Proofs.YtaldgcnhmnfocaaDoor
open Go.RowKit

/-! a term's parts, itself first -/
mutual
def Tm.subs : Tm → List Tm
  | .mk k n nm ls xs => .mk k n nm ls xs :: Tm.subsL xs
def Tm.subsL : List Tm → List Tm
  | [] => []
  | t :: ts => t.subs ++ Tm.subsL ts
end
theorem Tm.subs_eq (t : Tm) : t.subs = t :: Tm.subsL t.args := by cases t; rfl
theorem subsL_append : ∀ a b : List Tm, Tm.subsL (a ++ b) = Tm.subsL a ++ Tm.subsL b
  | [], b => rfl
  | t :: ts, b => by rw [List.cons_append, Tm.subsL, Tm.subsL, subsL_append ts b, List.append_assoc]
theorem subsL_snoc {ts : List Tm} {j : Nat} (h : j < ts.length) : Tm.subsL (ts.take (j + 1)) = Tm.subsL (ts.take j) ++ ts[j].subs := by
  rw [List.take_succ_eq_append_getElem h, subsL_append]
  simp [Tm.subsL]
theorem subsL_at {ts : List Tm} {j i : Nat} {x : Tm} (h : j < ts.length) (hx : ts[j].subs[i]? = some x) : (Tm.subsL ts)[(Tm.subsL (ts.take j)).length + i]? = some x := by
  have e : Tm.subsL ts = Tm.subsL (ts.take j) ++ (ts[j].subs ++ Tm.subsL (ts.drop (j + 1))) := by
    conv => lhs; rw [← List.take_append_drop j ts, List.drop_eq_getElem_cons h]
    rw [subsL_append]
    rfl
  rw [e, List.getElem?_append_right (by omega), Nat.add_sub_cancel_left, List.getElem?_append_left]
  · exact hx
  · exact (List.getElem?_eq_some_iff.1 hx).1
mutual
theorem subs_len : ∀ t : Tm, t.subs.length ≤ t.nodes
  | .mk k n nm ls xs => by
    rw [Tm.subs, Tm.nodes, List.length_cons]
    have := subsL_len xs
    omega
theorem subsL_len : ∀ ts : List Tm, (Tm.subsL ts).length ≤ Tm.nodesL ts
  | [] => Nat.le_refl _
  | t :: ts => by
    rw [Tm.subsL, Tm.nodesL, List.length_append]
    have := subs_len t
    have := subsL_len ts
    omega
end


/-- what a term's walk hands on -/
def tmWalk (t : Tm) : List (List AV) := t.subs.map fun x => [tmX x]

/-! slices.Values -/
def stsEach (ss : List (List UInt8)) : List (List AV) := ss.map fun s => [.str s]

/-! slices.Backward over terms -/
def backEach (ts : List Tm) : List (List AV) := (List.range ts.length).map fun i => [.i ((ts.length - 1 - i : Nat) : Int), tmX (ts.getD (ts.length - 1 - i) tm0)]
end Go.Proofs.YtaldgcnhmnfocaaDoor

/-
  slices.AppendSeq, Collect, Sort, Sorted, Compact over texts; name.Sort; term.Consts. No condition.
-/
namespace Go.Proofs.YtaldgcnhmnfocaaDoor
open Go.RowKit Go.Sort

/-- a row of cells that turned, and new blocks behind the heap -/
theorem row_turn {M : Mem} {H : Heap} {w w' : World} {b : Nat} {cs ys : List AV} {ds : List Value} {T0 : TypeId} (h : Inv M ((b, .cells cs) :: H) w) (hsz : w.heap.size ≤ w'.heap.size) (h1 : w'.os = w.os) (h2 : w'.tape = w.tape) (h3 : w'.output = w.output)
    (hot : ∀ k, k < w.heap.size → k ≠ b → w'.heap[k]? = w.heap[k]?) (hb : w'.heap[b]? = some (.cells ds.toArray T0 (0, 0))) (hc : repC M ys ds) : Evo [b] M w M w' ∧ Inv M ((b, .cells ys) :: H) w' := by
  have e : Evo [b] M w M w' := ⟨h1, h2, h3, hsz, fun k hk hn => hot k hk (by simpa using hn), Mem.le.refl M, fun _ _ _ h => Or.inl h⟩
  obtain ⟨hnone, vs, T, hg, _⟩ := h.obj b (.cells cs) (by simp)
  have hnd := h.nodup
  simp only [Heap.keys, List.map_cons, List.nodup_cons] at hnd
  refine ⟨e, fun b' o v hv => ?_, fun b' x hx => ?_, by simpa only [Heap.keys, List.map_cons, List.nodup_cons] using hnd⟩
  · have hne : b' ≠ b := fun e => by subst e; rw [hnone o] at hv; cases hv
    rw [← h.mem b' o v hv]
    simp only [World.cell?, hot b' (h.lt hv) hne]
  · rcases List.mem_cons.1 hx with hx | hx
    · cases hx
      exact ⟨hnone, ds, T0, hb, hc⟩
    · have hne : b' ≠ b := fun e => hnd.1 (by rw [← e]; exact Heap.mem_keys hx)
      exact (h.obj b' x (List.mem_cons_of_mem _ hx)).keep e (by simpa using hne)
theorem flat_strs : ∀ ss : List (List UInt8), (ss.map AV.str).flatMap AV.cells = ss.map AV.str
  | [] => rfl
  | s :: ss => by
    show AV.str s :: (ss.map AV.str).flatMap AV.cells = _
    rw [flat_strs ss]
    rfl
theorem strs_rep {M : Mem} : ∀ {ss : List (List UInt8)}, (∀ s ∈ ss, s.length ≤ 1125899906842624) → repC M (ss.map .str) (ss.map encStr)
  | [], _ => by simp only [List.map_nil, repC]
  | s :: ss, h => by
    simp only [List.map_cons, repC]
    exact ⟨_, _, rfl, ⟨rfl, rep_str (h s (by simp))⟩, strs_rep fun x hx => h x (List.mem_cons_of_mem _ hx)⟩
theorem strs_vals {M : Mem} : ∀ {ss : List (List UInt8)} {vs : List Value}, repC M (ss.map .str) vs → vs = ss.map encStr ∧ ∀ s ∈ ss, s.length ≤ 1125899906842624
  | [], vs, h => by simp only [List.map_nil, repC] at h; subst h; exact ⟨rfl, fun s hs => by cases hs⟩
  | s :: ss, vs, h => by
    simp only [List.map_cons, repC] at h
    obtain ⟨c, cs, rfl, ⟨_, h1⟩, h2⟩ := h
    simp only [rep] at h1
    obtain ⟨k1, k2⟩ := strs_vals h2
    exact ⟨by rw [h1.1, k1]; rfl, fun x hx => by rcases List.mem_cons.1 hx with rfl | hx; exact h1.2; exact k2 x hx⟩
/-- texts in a row that may turn: what the shelf wants, and what it gives -/
theorem row_strs {M : Mem} {H : Heap} {w : World} {b n cap : Nat} {cs : List AV} {ss : List (List UInt8)} (hok : TurnOk 1 n (ss.map .str) H b cap cs) (hI : Inv M ((b, .cells cs) :: H) w) :
    ss.length = n ∧ (∀ s ∈ ss, s.length ≤ 1125899906842624) ∧ b < w.heap.size ∧ Holds encStr w b 0 ss.toArray ∧
    ∀ (ss' : List (List UInt8)) (k : Nat) (os : Array Obj), ss'.length = n → (∀ s ∈ ss', s.length ≤ 1125899906842624) → Evo [b] M w M (grow (putRow encStr (Sort.ahead w k) b 0 ss'.toArray) os) ∧ Inv M ((b, .cells (ss'.map .str ++ cs.drop n)) :: H) (grow (putRow encStr (Sort.ahead w k) b 0 ss'.toArray) os) := by
  have hn : ss.length = n := by have := hok.len; rwa [List.length_map] at this
  have hhere := hok.here
  rw [flat_strs, Nat.mul_one] at hhere
  obtain ⟨_, vs, T0, hg, hrep⟩ := hI.obj b (.cells cs) (by simp)
  have hlt : b < w.heap.size := (Array.getElem?_eq_some_iff.1 hg).1
  obtain ⟨k1, k2⟩ := strs_vals (M := M) (vs := vs.take n) (by rw [← hhere]; exact hrep.take n)
  have hvl : n ≤ vs.length := by
    have := congrArg List.length k1
    rw [List.length_take, List.length_map] at this
    omega
  refine ⟨hn, k2, hlt, fun j hj => ?_, fun ss' k os hl h50 => ?_⟩
  · simp only [List.size_toArray] at hj
    have e1 : vs[j]? = some (encStr ss[j]) := by
      have : (vs.take n)[j]? = (ss.map encStr)[j]? := by rw [k1]
      rw [List.getElem?_take, if_pos (by omega), List.getElem?_map, List.getElem?_eq_getElem hj] at this
      exact this
    refine ⟨?_, ?_⟩
    · simp only [World.cell?, hg, Nat.zero_add]
      rw [getElem!_pos ss.toArray j (by simpa using hj)]
      simpa using e1
    · simp [World.frozen?, hg]
  · refine row_turn (ds := ss'.map encStr ++ vs.drop n) (T0 := T0) hI (by rw [size_grow]; unfold putRow mapBlock Sort.ahead; simp) rfl rfl rfl (fun q hq hqb => ?_) ?_ ((strs_rep h50).append (hrep.drop n))
    · unfold grow putRow mapBlock Sort.ahead
      simp only
      rw [Array.getElem?_append_left (by simpa using hq), Array.getElem?_modify, if_neg (Ne.symm hqb)]
    · unfold grow putRow mapBlock Sort.ahead
      simp only
      rw [Array.getElem?_append_left (by simpa using hlt), Array.getElem?_modify, if_pos rfl, hg]
      simp only [Option.map_some, onCells]
      congr 2
      apply Array.ext_getElem?
      intro i
      unfold Sort.putCells
      rw [Array.getElem?_mapIdx]
      simp only [List.size_toArray, Nat.zero_le, true_and, Nat.zero_add, Nat.sub_zero, List.getElem?_toArray]
      by_cases hi : i < n
      · rw [List.getElem?_append_left (by simpa [hl] using hi), List.getElem?_map, List.getElem?_eq_getElem (by omega), List.getElem?_eq_getElem (by omega)]
        simp only [Option.map_some]
        rw [if_pos (by omega), getElem!_pos ss'.toArray i (by simpa [hl] using hi)]
        simp
      · rw [List.getElem?_append_right (by simp [hl]; omega), List.length_map, hl, List.getElem?_drop, show n + (i - n) = i by omega]
        cases vs[i]? with
        | none => rfl
        | some v => simp only [Option.map_some]; rw [if_neg (by omega)]

/-- texts in order -/
def stsSort (ss : List (List UInt8)) : List (List UInt8) := ss.mergeSort fun x y => decide (x ≤ y)
theorem stsSort_len (ss : List (List UInt8)) : (stsSort ss).length = ss.length := List.length_mergeSort _
theorem stsSort_mem {ss : List (List UInt8)} {s : List UInt8} : s ∈ stsSort ss ↔ s ∈ ss := List.mem_mergeSort
theorem turn_strs {n cap b : Nat} {ss ss' : List (List UInt8)} {H : Heap} {cs : List AV} (hok : TurnOk 1 n (ss.map .str) H b cap cs) (hl : ss'.length = n) : TurnOk 1 n (ss'.map .str) H b cap (ss'.map .str ++ cs.drop n) := by
  have h := hok.here
  rw [flat_strs, Nat.mul_one] at h
  have h1 : (cs.take n).length = n := by rw [h]; exact hok.len
  have hr := hok.room
  have hle := hok.le
  refine ⟨by simpa using hl, hok.out, hok.le, hok.max, ?_, ?_⟩
  · rw [List.length_append, List.length_map, List.length_drop, hl]
    rw [List.length_take] at h1
    omega
  · rw [flat_strs, Nat.mul_one, List.take_left' (by simpa using hl)]
/-- each text once -/
def stsOnce (ss : List (List UInt8)) : List (List UInt8) := Lib.compact ss
theorem stsOnce_le (ss : List (List UInt8)) : (stsOnce ss).length ≤ ss.length := Lib.compact_length_le ss
theorem stsOnce_mem {ss : List (List UInt8)} {s : List UInt8} (h : s ∈ stsOnce ss) : s ∈ ss := by
  unfold stsOnce Lib.compact Lib.compactUpTo at h
  obtain ⟨i, hi, rfl⟩ := List.mem_map.1 h
  have := List.mem_range.1 (List.mem_filter.1 hi).1
  rw [getElem!_pos ss.toArray i (by simpa using this)]
  simp
theorem turn_once {n cap b : Nat} {ss : List (List UInt8)} {H : Heap} {cs : List AV} (hok : TurnOk 1 n (ss.map .str) H b cap cs) (hn : ss.length = n) : TurnOk 1 (stsOnce ss).length ((stsOnce ss).map .str) H b cap (((stsOnce ss) ++ List.replicate (ss.length - (stsOnce ss).length) []).map .str ++ cs.drop n) := by
  have hle := stsOnce_le ss
  have h := turn_strs (ss' := stsOnce ss ++ List.replicate (ss.length - (stsOnce ss).length) []) hok (by simp; omega)
  have h2 := h.le
  refine ⟨by simp, h.out, by omega, h.max, h.room, ?_⟩
  rw [flat_strs, Nat.mul_one, List.map_append, List.append_assoc, List.take_left' (by simp)]
end Go.Proofs.YtaldgcnhmnfocaaDoor

/-
  slices.AppendSeq, Collect, Sorted over texts; name.Sort; term.Consts. No condition.
-/
namespace Go.Proofs.YtaldgcnhmnfocaaDoor
open Go.RowKit Go.Sort

theorem stsSort_nil : stsSort [] = [] := by simp [stsSort]
theorem TurnOk.drop {size n : Nat} {xs : List AV} {H H' : Heap} {b cap : Nat} {cs : List AV} (h : TurnOk size n xs H b cap cs) (hs : H'.Sublist H) : TurnOk size n xs H' b cap cs :=
  ⟨h.len, fun hb => h.out ((hs.map _).subset hb), h.le, h.max, h.room, h.here⟩
theorem MvOk.drop {size n : Nat} {xs : List AV} {H H' : Heap} {m : Mv} (h : MvOk size n xs H m) (hs : H'.Sublist H) : MvOk size n xs H' m := by
  cases m with
  | none => exact h
  | some p => exact ⟨h.1, h.2.drop hs⟩
theorem mvH_sub {m : Mv} {H H' : Heap} (hs : H'.Sublist H) : (mvH m H').Sublist (mvH m H) := by
  cases m with
  | none => exact hs
  | some p => exact hs.cons_cons _
/-- texts in order, each once -/
def nmSort (ss : List (List UInt8)) : List (List UInt8) := stsOnce (stsSort ss)
theorem nmSort_nil : nmSort [] = [] := by rw [nmSort, stsSort_nil]; rfl

/-! term.Consts -/
def cnames (ts : List Tm) : List (List UInt8) := (ts.filter fun t => decide (t.kind = 3)).map Tm.name
theorem cnames_snoc {ts : List Tm} {j : Nat} (h : j < ts.length) : cnames (ts.take (j + 1)) = cnames (ts.take j) ++ if ts[j].kind = 3 then [ts[j].name] else [] := by
  rw [List.take_succ_eq_append_getElem h, cnames, List.filter_append, List.map_append]
  congr 1
  by_cases hk : ts[j].kind = 3
  · rw [if_pos hk]; simp [hk]
  · rw [if_neg hk]; simp [hk]
theorem cnames_len (ts : List Tm) : (cnames ts).length ≤ ts.length := by
  rw [cnames, List.length_map]
  exact List.length_filter_le _ _
/-- the names of a term's constants -/
def tmConsts (t : Tm) : List (List UInt8) := if tmRight 4 1125899906842624 t = true then nmSort (cnames t.subs) else []
end Go.Proofs.YtaldgcnhmnfocaaDoor

/-
  term's Var, Sort, Const, App, Lam, Pi, Let. No condition.
-/
namespace Go.Proofs.YtaldgcnhmnfocaaDoor
open Go.RowKit

/-! terms made of others, plain -/
def tmAps (f : Tm) (ts : List Tm) : Tm := ts.foldl (fun out a => .mk 4 0 [] [] [out, a]) f
def tmOver (k : Int) (body : Tm) (ts : List Tm) : Tm := ts.foldr (fun t out => .mk k 0 [] [] [t, out]) body
theorem tmAps_snoc {f : Tm} {ts : List Tm} {j : Nat} (h : j < ts.length) : tmAps f (ts.take (j + 1)) = .mk 4 0 [] [] [tmAps f (ts.take j), ts[j]] := by
  rw [List.take_succ_eq_append_getElem h, tmAps, List.foldl_append]
  rfl
theorem tmOver_step {k : Int} {body : Tm} {ts : List Tm} {j : Nat} (h : j < ts.length) : tmOver k body (ts.drop j) = .mk k 0 [] [] [ts[j], tmOver k body (ts.drop (j + 1))] := by
  rw [List.drop_eq_getElem_cons h]
  rfl
theorem le_parts (k : Int) (a b : Tm) : Le (.agg [.i k, .i 0, .str [], .sl .full 0 [], .sl .full 5 [tmX a, tmX b]]) (tmX (.mk k 0 [] [] [a, b])) := by
  refine Le.agg ⟨Le.refl _, Le.refl _, Le.refl _, Le.nil _ _, ?_, trivial⟩
  refine Le.trans (Le.own _ _ _) (le_of_eq ?_)
  show AV.sl .no 5 [tmX a, tmX b] = .sl .no 5 [tmA a, tmA b]
  rw [tmA_eq, tmA_eq]
theorem le_cells {xs ys : List AV} (h : LeL xs ys) : LeL xs ys := h

set_option maxRecDepth 100000 in
set_option maxHeartbeats 1000000 in
theorem App_con (o : Own) (f : Tm) (ts : List Tm) (hf : f.nodes ≤ 1000000) (ht : ∀ t ∈ ts, t.nodes ≤ 1000000) (hl : ts.length ≤ 1000000) : Ans Tryd.prog 26 [tmX f, .sl o 5 (ts.map tmA)] (tmX (tmAps f ts)) := by
  intro H Q hq
  refine con_of_awp (esc := fun _ => false) tab_ok mixed Tryd.func26 rfl (ent Tryd.func26 (by kernel_rfl) rfl) (by kernel_rfl) ?_
  intro hw hn
  clear hw hn
  refine ⟨_, LeL.refl _, fresh_con _ f hf (Nat.le_refl _) _ _ ?_⟩
  intro hz1 hz2; clear hz1 hz2
  refine ⟨Nat, fun j => ⟨[(4, .lp 4 0), (5, .lp 5 0), (10, .g (.sl o 5 (ts.map tmA))), (11, .g (.i ts.length)), (12, .g (.i j))], [(5, (tmX (tmAps f (ts.take j))).cells), (4, [.i 0, .i 0, .str [], .sl .full 0 [], .sl .full 0 []]), (2, (tmX f).cells)], H⟩, fun j => j ≤ ts.length, fun j => ts.length - j, ⟨0, Nat.zero_le _, ?_⟩, ?_⟩
  · refine ⟨⟨⟨rfl, rfl⟩, ⟨rfl, rfl⟩, Le.refl _, le_of_eq ?_, Le.refl _, trivial⟩, ⟨⟨rfl, LeL.refl _⟩, ⟨rfl, LeL.refl _⟩, ⟨rfl, LeL.refl _⟩, trivial⟩, List.Sublist.refl _⟩
    show AV.i _ = AV.i _
    rw [List.length_map]
  · intro j hj
    refine ifB_dec (fun h1 => ?_) (fun h1 => ?_)
    · have hlt : j < ts.length := by omega
      refine ⟨j, rfl, _, tmAt' hlt, ?_⟩
      refine ⟨[0, 1, 2, 3, 4, 5], [], by kernel_rfl, by simp, ?_⟩
      refine ⟨_, LeL.refl _, fresh_con _ ts[j] (ht _ (List.getElem_mem hlt)) (Nat.le_refl _) _ _ ?_⟩
      intro hz1 hz2; clear hz1 hz2
      refine ⟨in64_of (by first | omega | (dsimp only; omega)) (by first | omega | (dsimp only; omega)), ?_⟩
      refine ⟨j + 1, by omega, by (try dsimp only); omega, ⟨⟨⟨rfl, rfl⟩, ⟨rfl, rfl⟩, Le.refl _, Le.refl _, Le.refl _, trivial⟩, ⟨⟨rfl, ?_⟩, ⟨rfl, LeL.refl _⟩, ⟨rfl, LeL.refl _⟩, trivial⟩, List.Sublist.refl _⟩⟩
      rw [tmAps_snoc hlt]
      refine ⟨Le.refl _, Le.refl _, Le.refl _, Le.nil _ _, ?_, trivial⟩
      refine Le.trans (Le.own _ _ _) (le_of_eq ?_)
      show AV.sl .no 5 [tmX _, tmX _] = .sl .no 5 [tmA _, tmA _]
      rw [tmA_eq, tmA_eq]
    · have hj' : ts.length = j := by omega
      subst hj'
      exact ⟨_, H, le_of_eq (by rw [List.take_length]; rfl), List.Sublist.refl _, hq⟩
end Go.Proofs.YtaldgcnhmnfocaaDoor

/-
  term's loose, Loose, lift; slices.Reverse over terms; term.Spine. No condition.
-/
namespace Go.Proofs.YtaldgcnhmnfocaaDoor
open Go.RowKit

/-! loose -/
theorem tmFit_kind {p vars : Int} {t : Tm} (h : tmFit p t vars = true) : (decide (1 ≤ t.kind) && decide (t.kind ≤ 7)) = true := by
  rw [tmFit_eq, shape_node] at h
  simp only [Bool.and_eq_true] at h ⊢
  exact h.1.1.1
set_option maxRecDepth 100000 in
set_option maxHeartbeats 1000000 in
theorem loose_con (p : Int) : ∀ (N : Nat) (l : Tm) (deep vars : Int), l.nodes ≤ N → tmFit p l vars = true → vars + N ≤ 4611686018427387904 → 0 ≤ deep → deep + N ≤ 4611686018427387904 → Ans Tryd.prog 44 [tmX l, .i deep] (.i (tmLoose l deep)) := by
  intro N
  induction N with
  | zero => intro l d v h; have := l.nodes_pos; omega
  | succ N ih =>
    intro l deep vars hN hfit hv hd0 hd1 H Q hq
    have hnd := l.nodes_eq
    have hl := tmLoose_eq l deep
    have hfl := tmFit_argL hfit
    have hkd := tmFit_kind hfit
    refine con_of_awp (esc := fun _ => false) tab_ok mixed Tryd.func44 rfl (ent Tryd.func44 (by kernel_rfl) rfl) (by kernel_rfl) ?_
    intro hw hn
    have hlena := (hw (tmX l) (by simp)).targs
    clear hw hn
    refine ifB_dec (fun h1 => ?_) (fun h1 => ?_)
    · have hvn := tmFit_var hfit h1
      rw [if_pos h1] at hl
      refine ⟨in64_of (by first | omega | (dsimp only; omega)) (by first | omega | (dsimp only; omega)), ?_⟩
      refine ⟨in64_of (by first | omega | (dsimp only; omega)) (by first | omega | (dsimp only; omega)), ?_⟩
      exact ⟨_, H, ret_i hl.symm, List.Sublist.refl _, hq⟩
    · rw [if_neg h1] at hl
      refine ⟨_, LeL.refl _, shaped_con _ _ _ ?_⟩
      intro hz1 hz2; clear hz1 hz2
      refine ⟨Nat × Int, fun p => ⟨[(1, .g (.i deep)), (5, .lp 5 0), (7, .g (.i p.2)), (26, .g (.sl .no 5 (l.args.map tmA))), (27, .g (.i l.args.length)), (28, .g (.i p.1))], [(5, (shX (shapeOf l.kind)).cells), (2, (tmX l).cells)], H⟩,
        fun q => q.1 ≤ l.args.length ∧ tmLooseL l.kind l.args 0 deep = max q.2 (tmLooseL l.kind (l.args.drop q.1) q.1 deep) ∧ tmFitL p l.kind (l.args.drop q.1) q.1 vars = true ∧ 0 ≤ q.2, fun q => l.args.length - q.1, ⟨(0, 0), ⟨Nat.zero_le _, ?_, hfl, Int.le_refl _⟩, ?_⟩, ?_⟩
      · have := tmLooseL_nonneg l.kind l.args 0 deep
        show _ = max 0 (tmLooseL l.kind l.args 0 deep)
        omega
      · refine ⟨⟨Le.refl _, ⟨rfl, rfl⟩, Le.refl _, Le.refl _, le_of_eq ?_, Le.refl _, trivial⟩, ⟨⟨rfl, LeL.refl _⟩, ⟨rfl, LeL.refl _⟩, trivial⟩, List.Sublist.refl _⟩
        show AV.i _ = AV.i _
        rw [List.length_map]
      · rintro ⟨j, out⟩ ⟨hj, hinv, hft, ho⟩
        simp only at hj hinv hft ho
        refine ifB_dec (fun h2 => ?_) (fun h2 => ?_)
        · simp only at h2
          have hlt : j < l.args.length := by omega
          have hmem := Tm.nodesL_mem (List.getElem_mem hlt)
          rw [tmLooseL_at hlt] at hinv
          rw [tmFitL_at hlt, Bool.and_eq_true] at hft
          have hb := shape_bind l.kind j hkd
          have hdeep : (if (j : Int) = (shapeOf l.kind).2.2 then deep + 1 else deep) = (if tmBind l.kind j = true then deep + 1 else deep) := by simp only [hb]
          have hd2 : 0 ≤ (if tmBind l.kind j = true then deep + 1 else deep) ∧ (if tmBind l.kind j = true then deep + 1 else deep) ≤ deep + 1 := by split <;> omega
          have hv2 : (if tmBind l.kind j = true then vars + 1 else vars) ≤ vars + 1 := by split <;> omega
          refine ⟨j, rfl, _, tmAt' hlt, ?_⟩
          refine ⟨[0, 1, 2, 3, 4, 5, 6, 7, 8], [], by kernel_rfl, by simp, ?_⟩
          refine ⟨_, LeL.refl _, (inner_con (shapeOf l.kind) j deep (in64_of (by omega) (by omega))).to (by rw [hdeep]) _ _ ?_⟩
          intro hz1 hz2; clear hz1 hz2
          refine ⟨_, LeL.refl _, ih l.args[j] (if tmBind l.kind j = true then deep + 1 else deep) (if tmBind l.kind j = true then vars + 1 else vars) (by omega) hft.1 (by omega) hd2.1 (by omega) _ _ ?_⟩
          intro hz1 hz2; clear hz1 hz2
          refine ⟨in64_of (by first | omega | (dsimp only; omega)) (by first | omega | (dsimp only; omega)), ?_⟩
          refine ⟨(j + 1, max out (tmLoose l.args[j] (if tmBind l.kind j = true then deep + 1 else deep))), ⟨by simp only; omega, ?_, hft.2, by simp only; omega⟩, by (try dsimp only); omega, ?_⟩
          · simp only
            rw [hinv]
            omega
          · (constructor <;> repeat' (first | exact trivial | exact ⟨rfl, rfl⟩ | exact ⟨rfl, LeL.refl _⟩ | exact Le.refl _ | exact List.Sublist.refl _ | (show Le (AV.i _) (AV.i _); rw [List.length_map]; exact Le.refl _) | refine And.intro ?_ ?_))
        · simp only at h2
          have hj' : j = l.args.length := by omega
          rw [hj', List.drop_length, tmLooseL] at hinv
          exact ⟨_, H, ret_i (by rw [hl, hinv]; omega), List.Sublist.refl _, hq⟩
/-- how many variables a term needs; 0, if it is not right -/
def tmNeeds (t : Tm) : Int := if tmRight 4 1125899906842624 t = true then tmLoose t 0 else 0
set_option maxRecDepth 100000 in
theorem Loose_con (t : Tm) : Ans Tryd.prog 33 [tmX t] (.i (tmNeeds t)) := by
  intro H Q hq
  unfold tmNeeds at hq
  refine con_of_awp (esc := fun _ => false) tab_ok mixed Tryd.func33 rfl (ent Tryd.func33 (by kernel_rfl) rfl) (by kernel_rfl) ?_
  intro hw hn
  by_cases h1 : tmRight 4 1125899906842624 t = true
  · rw [if_pos h1] at hq
    have h2 := h1
    unfold tmRight at h2
    simp only [Bool.and_eq_true, decide_eq_true_eq] at h2
    refine ⟨_, LeL.refl _, (tmRight_con 4 1125899906842624 t).yes h1 _ _ ?_⟩
    intro hz1 hz2; clear hz1 hz2
    refine ⟨_, LeL.refl _, loose_con 4 _ t 0 _ (Nat.le_refl _) h2.2 (by omega) (by omega) (by omega) _ _ ?_⟩
    intro hz1 hz2; clear hz1 hz2
    exact ⟨_, H, Le.refl _, List.Sublist.refl _, hq⟩
  · rw [if_neg h1] at hq
    refine ⟨_, LeL.refl _, (tmRight_con 4 1125899906842624 t).no h1 _ _ ?_⟩
    intro hz1 hz2; clear hz1 hz2
    exact ⟨_, H, Le.refl _, List.Sublist.refl _, hq⟩

/-! lift -/
mutual
/-- a term, in deep binders, with some added to its loose variables -/
def tmLift (by_ : Int) : Tm → Int → Tm
  | .mk k n nm ls xs, deep => .mk k (if k = 1 ∧ deep ≤ n then n + by_ else n) nm ls (tmLiftL by_ k xs 0 deep)
def tmLiftL (by_ k : Int) : List Tm → Nat → Int → List Tm
  | [], _, _ => []
  | t :: ts, i, deep => tmLift by_ t (if tmBind k i = true then deep + 1 else deep) :: tmLiftL by_ k ts (i + 1) deep
end
theorem tmLift_eq (c : Int) (t : Tm) (deep : Int) : tmLift c t deep = .mk t.kind (if t.kind = 1 ∧ deep ≤ t.n then t.n + c else t.n) t.name t.levels (tmLiftL c t.kind t.args 0 deep) := by cases t; rfl
theorem tmLiftL_len (c k : Int) : ∀ (ts : List Tm) (i : Nat) (deep : Int), (tmLiftL c k ts i deep).length = ts.length
  | [], _, _ => rfl
  | t :: ts, i, deep => by rw [tmLiftL, List.length_cons, List.length_cons, tmLiftL_len c k ts]
theorem tmLiftL_get (c k : Int) : ∀ (ts : List Tm) (i : Nat) (deep : Int) (j : Nat) (h : j < ts.length), (tmLiftL c k ts i deep)[j]'(by rw [tmLiftL_len]; exact h) = tmLift c ts[j] (if tmBind k (i + j) = true then deep + 1 else deep)
  | t :: ts, i, deep, 0, _ => by simp [tmLiftL]
  | t :: ts, i, deep, j + 1, h => by
    have := tmLiftL_get c k ts (i + 1) deep j (by simpa using h)
    simp only [tmLiftL, List.getElem_cons_succ]
    rw [this, show i + 1 + j = i + (j + 1) by omega]
theorem tmLiftL_take {c k : Int} {ts : List Tm} {deep : Int} {j : Nat} (h : j < ts.length) : (tmLiftL c k ts 0 deep).take (j + 1) = (tmLiftL c k ts 0 deep).take j ++ [tmLift c ts[j] (if tmBind k j = true then deep + 1 else deep)] := by
  rw [List.take_succ_eq_append_getElem (by rw [tmLiftL_len]; exact h), tmLiftL_get c k ts 0 deep j h, Nat.zero_add]
end Go.Proofs.YtaldgcnhmnfocaaDoor

/-
  slices.Reverse over terms; term.Spine. No condition.
-/
namespace Go.Proofs.YtaldgcnhmnfocaaDoor
open Go.RowKit

/-! rows of elements of a width -/
theorem wide_take {s : Nat} {xs : List AV} (h : ∀ y ∈ xs, y.cells.length = s) (i : Nat) : ((xs.take i).flatMap AV.cells).length = (xs.take i).length * s := by
  induction xs generalizing i with
  | nil => simp
  | cons x xs ih =>
    cases i with
    | zero => simp
    | succ i =>
      rw [List.take_succ_cons, List.flatMap_cons, List.length_append, h x (by simp), ih (fun y hy => h y (List.mem_cons_of_mem _ hy)), List.length_cons, Nat.add_mul, Nat.one_mul, Nat.add_comm]
theorem row_split {xs : List AV} {i : Nat} (h : i < xs.length) (rest : List AV) : xs.flatMap AV.cells ++ rest = (xs.take i).flatMap AV.cells ++ (xs[i].cells ++ ((xs.drop (i + 1)).flatMap AV.cells ++ rest)) := by
  conv => lhs; rw [← List.take_append_drop i xs, List.drop_eq_getElem_cons h, List.flatMap_append, List.flatMap_cons]
  simp
theorem row_get {s : Nat} {xs : List AV} (hw : ∀ y ∈ xs, y.cells.length = s) {i : Nat} (h : i < xs.length) (rest : List AV) : ((xs.flatMap AV.cells ++ rest).drop (i * s)).take s = xs[i].cells := by
  have hl := wide_take hw i
  rw [List.length_take, Nat.min_eq_left (by omega)] at hl
  rw [row_split h, List.drop_left' hl, List.take_left' (hw _ (List.getElem_mem h))]
theorem row_room {s : Nat} {xs : List AV} (hw : ∀ y ∈ xs, y.cells.length = s) {i : Nat} (h : i < xs.length) (rest : List AV) : i * s + s ≤ (xs.flatMap AV.cells ++ rest).length := by
  have hl := wide_take hw i
  rw [List.length_take, Nat.min_eq_left (by omega)] at hl
  rw [row_split h, List.length_append, List.length_append, hl, hw _ (List.getElem_mem h)]
  omega
theorem row_put {s : Nat} {xs : List AV} (hw : ∀ y ∈ xs, y.cells.length = s) {i : Nat} (h : i < xs.length) (rest : List AV) {y : AV} (hy : y.cells.length = s) : putCells (xs.flatMap AV.cells ++ rest) (i * s) y.cells = (xs.set i y).flatMap AV.cells ++ rest := by
  have hl := wide_take hw i
  rw [List.length_take, Nat.min_eq_left (by omega)] at hl
  have hx := hw _ (List.getElem_mem h)
  rw [row_split h, putCells, List.take_left' hl, ← List.drop_drop, List.drop_left' hl, List.drop_left' (by rw [hx, hy])]
  rw [List.set_eq_take_append_cons_drop, if_pos h, List.flatMap_append, List.flatMap_cons]
  simp
theorem part_run {tab : Tab} {t : TypeId} {i : TI} {cs xs : List AV} {K : T → Prop} (hi : tab.get t = some i) (hk : i.kind.agg = true) (hl : i.size ≤ cs.length) (hx : cs.take i.size = xs) (k : K (.g (.agg xs))) : (partR tab t cs).run K := by
  unfold partR
  rw [hi]
  simp only [hk, cond_true]
  rw [Nat.ble_eq_true_of_le hl, hx]
  exact k

/-- so many ends are turned -/
def revT (ts : List Tm) (k : Nat) : List Tm := (List.range ts.length).map fun i => if i < k ∨ ts.length ≤ i + k then ts.getD (ts.length - 1 - i) tm0 else ts.getD i tm0
theorem revT_len (ts : List Tm) (k : Nat) : (revT ts k).length = ts.length := by simp [revT]
theorem revT_get (ts : List Tm) (k : Nat) {i : Nat} (h : i < ts.length) : (revT ts k)[i]'(by rw [revT_len]; exact h) = if i < k ∨ ts.length ≤ i + k then ts[ts.length - 1 - i] else ts[i] := by
  simp only [revT, List.getElem_map, List.getElem_range]
  rw [List.getD_eq_getElem?_getD, List.getElem?_eq_getElem (by omega), List.getD_eq_getElem?_getD, List.getElem?_eq_getElem h]
  rfl
theorem revT_zero (ts : List Tm) : revT ts 0 = ts := by
  apply List.ext_getElem (revT_len ts 0)
  intro i h1 h2
  rw [revT_get ts 0 h2, if_neg (by omega)]
theorem revT_done {ts : List Tm} {k : Nat} (h : ts.length ≤ 2 * k + 1) : revT ts k = ts.reverse := by
  apply List.ext_getElem (by rw [revT_len, List.length_reverse])
  intro i h1 h2
  rw [revT_len] at h1
  rw [revT_get ts k h1, List.getElem_reverse]
  split
  · rfl
  · have : ts.length - 1 - i = i := by omega
    simp only [this]
theorem revT_step {ts : List Tm} {k : Nat} (h : 2 * k + 1 < ts.length) : ((revT ts k).set k ((revT ts k)[ts.length - 1 - k]'(by rw [revT_len]; omega))).set (ts.length - 1 - k) ((revT ts k)[k]'(by rw [revT_len]; omega)) = revT ts (k + 1) := by
  apply List.ext_getElem (by simp [revT_len])
  intro i h1 h2
  rw [revT_len] at h2
  have g1 : (revT ts k)[k]'(by rw [revT_len]; omega) = ts[k] := by rw [revT_get ts k (by omega), if_neg (by omega)]
  have g2 : (revT ts k)[ts.length - 1 - k]'(by rw [revT_len]; omega) = ts[ts.length - 1 - k] := by rw [revT_get ts k (by omega), if_neg (by omega)]
  have g3 := revT_get ts k h2
  rw [revT_get ts (k + 1) h2, List.getElem_set, List.getElem_set]
  by_cases e1 : ts.length - 1 - k = i
  · rw [if_pos e1, if_pos (by omega), g1]
    have : ts.length - 1 - i = k := by omega
    simp only [this]
  · rw [if_neg e1]
    by_cases e2 : k = i
    · rw [if_pos e2, if_pos (by omega), g2]
      subst e2
      rfl
    · rw [if_neg e2, g3]
      by_cases e3 : i < k ∨ ts.length ≤ i + k
      · rw [if_pos e3, if_pos (by omega)]
      · rw [if_neg e3, if_neg (by omega)]
theorem tmA_wide (ts : List Tm) : ∀ y ∈ ts.map tmA, y.cells.length = 5 := (wide_tms ts).2

/-! term.Spine -/
/-- a term's head -/
def tmHead : Tm → Tm
  | .mk k n nm ls xs =>
    match xs with
    | [f, a] => if k = 4 then tmHead f else .mk k n nm ls [f, a]
    | xs => .mk k n nm ls xs
/-- what it is applied to -/
def tmArgs : Tm → List Tm
  | .mk k n nm ls xs =>
    match xs with
    | [f, a] => if k = 4 then tmArgs f ++ [a] else []
    | _ => []
theorem spine_step {t : Tm} (h1 : t.kind = 4) (h2 : t.args.length = 2) : tmHead t = tmHead (t.args[0]) ∧ tmArgs t = tmArgs (t.args[0]) ++ [t.args[1]] := by
  cases t with
  | mk k n nm ls xs =>
    obtain rfl : k = 4 := h1
    match xs, h2 with
    | [f, a], _ => exact ⟨by rw [tmHead]; rfl, by rw [tmArgs]; rfl⟩
theorem spine_stop {t : Tm} (h : ¬(t.kind = 4 ∧ t.args.length = 2)) : tmHead t = t ∧ tmArgs t = [] := by
  cases t with
  | mk k n nm ls xs =>
    match xs with
    | [] => exact ⟨rfl, rfl⟩
    | [a] => exact ⟨rfl, rfl⟩
    | [f, a] =>
      have hk : ¬ k = 4 := fun e => h ⟨e, rfl⟩
      exact ⟨by rw [tmHead]; simp [hk], by rw [tmArgs]; simp [hk]⟩
    | a :: b :: c :: r => exact ⟨rfl, rfl⟩
end Go.Proofs.YtaldgcnhmnfocaaDoor

/-
  term.Arrow. No condition.
-/
namespace Go.Proofs.YtaldgcnhmnfocaaDoor
open Go.RowKit

def big50 : Int := 1125899906842624
mutual
theorem tmLift_nodes (c : Int) : ∀ (t : Tm) (deep : Int), (tmLift c t deep).nodes = t.nodes
  | .mk k n nm ls xs, deep => by
    rw [tmLift, Tm.nodes, Tm.nodes, tmLiftL_nodes c k xs 0 deep]
theorem tmLiftL_nodes (c k : Int) : ∀ (ts : List Tm) (i : Nat) (deep : Int), Tm.nodesL (tmLiftL c k ts i deep) = Tm.nodesL ts
  | [], _, _ => rfl
  | t :: ts, i, deep => by
    rw [tmLiftL, Tm.nodesL, Tm.nodesL, tmLift_nodes c t, tmLiftL_nodes c k ts]
end
/-- types, each within those ahead -/
def liftsFrom : Nat → List Tm → List Tm
  | _, [] => []
  | i, t :: ts => tmLift i t 0 :: liftsFrom (i + 1) ts
theorem lifts_len : ∀ (ts : List Tm) (i : Nat), (liftsFrom i ts).length = ts.length
  | [], _ => rfl
  | t :: ts, i => by rw [liftsFrom, List.length_cons, List.length_cons, lifts_len ts]
theorem lifts_get : ∀ (ts : List Tm) (i j : Nat) (h : j < ts.length), (liftsFrom i ts)[j]'(by rw [lifts_len]; exact h) = tmLift ((i + j : Nat) : Int) ts[j] 0
  | t :: ts, i, 0, _ => by simp [liftsFrom]
  | t :: ts, i, j + 1, h => by
    have := lifts_get ts (i + 1) j (by simpa using h)
    simp only [liftsFrom, List.getElem_cons_succ]
    rw [this, show i + 1 + j = i + (j + 1) by omega]
theorem lifts_take {ts : List Tm} {j : Nat} (h : j < ts.length) : (liftsFrom 0 ts).take (j + 1) = (liftsFrom 0 ts).take j ++ [tmLift (j : Nat) ts[j] 0] := by
  rw [List.take_succ_eq_append_getElem (by rw [lifts_len]; exact h), lifts_get ts 0 j h, Nat.zero_add]
theorem lifts_nodes : ∀ (ts : List Tm) (i : Nat), Tm.nodesL (liftsFrom i ts) = Tm.nodesL ts
  | [], _ => rfl
  | t :: ts, i => by rw [liftsFrom, Tm.nodesL, Tm.nodesL, tmLift_nodes, lifts_nodes ts]
def arrowOk (to : Tm) (ts : List Tm) : Bool := decide (to.nodes + ts.length + Tm.nodesL ts ≤ 2000) && (tmRight 4 1125899906842624 to && ts.all (tmRight 4 1125899906842624))
def tmArrow (to : Tm) (ts : List Tm) : Tm × Bool := if arrowOk to ts = true then (tmOver 6 (tmLift (ts.length : Nat) to 0) (liftsFrom 0 ts), true) else (tm0, false)

end Go.Proofs.YtaldgcnhmnfocaaDoor

/-
  What is right for so many parameters and variables is so for more; lifted and made terms (plain laws of law 04). No condition.
-/
namespace Go.Proofs.YtaldgcnhmnfocaaDoor
open Go.RowKit

theorem lvNode_more {n n' : Int} {k m : Int} {len : Nat} (h : lvNode n k m len = true) (hn : n ≤ n') : lvNode n' k m len = true := by
  unfold lvNode at h ⊢
  by_cases k1 : k = 1
  · rw [if_pos k1] at h ⊢; exact h
  rw [if_neg k1] at h ⊢
  by_cases k2 : k = 2
  · rw [if_pos k2] at h ⊢
    simp only [Bool.and_eq_true, decide_eq_true_eq] at h ⊢
    omega
  rw [if_neg k2] at h ⊢
  exact h
mutual
theorem lvFit_more {n n' : Int} (hn : n ≤ n') : ∀ l : Lv, lvFit n l = true → lvFit n' l = true
  | .mk k m xs, h => by
    rw [lvFit, Bool.and_eq_true] at h ⊢
    exact ⟨lvNode_more h.1 hn, lvFitL_more hn xs h.2⟩
theorem lvFitL_more {n n' : Int} (hn : n ≤ n') : ∀ ls : List Lv, lvFitL n ls = true → lvFitL n' ls = true
  | [], _ => rfl
  | l :: ls, h => by
    rw [lvFitL, Bool.and_eq_true] at h ⊢
    exact ⟨lvFit_more hn l h.1, lvFitL_more hn ls h.2⟩
end
theorem lvRight_more {n n' : Int} {l : Lv} (h : lvRight n l = true) (hn : n ≤ n') (h4 : n' ≤ 4) : lvRight n' l = true := by
  unfold lvRight at h ⊢
  simp only [Bool.and_eq_true, decide_eq_true_eq] at h ⊢
  exact ⟨⟨⟨by omega, h4⟩, h.1.2⟩, lvFit_more hn l h.2⟩
theorem lvRightL_more {n n' : Int} {ls : List Lv} (h : lvRightL n ls = true) (hn : n ≤ n') (h4 : n' ≤ 4) : lvRightL n' ls = true := by
  unfold lvRightL at h ⊢
  rw [List.all_eq_true] at h ⊢
  exact fun l hl => lvRight_more (h l hl) hn h4
theorem tmNode_k {v v' : Int} {k m : Int} {nm : List UInt8} {ls xs : Nat} (hk : k ≠ 1) : tmNode v k m nm ls xs = tmNode v' k m nm ls xs := by
  unfold tmNode
  rw [if_neg hk, if_neg hk]
theorem tmNode_1 {v m : Int} {nm : List UInt8} {ls xs : Nat} : tmNode v 1 m nm ls xs = true ↔ 0 ≤ m ∧ m < v ∧ nm = [] ∧ ls = 0 ∧ xs = 0 := by
  unfold tmNode
  rw [if_pos rfl]
  simp only [Bool.and_eq_true, decide_eq_true_eq, and_assoc]
theorem tmNode_more {v v' : Int} {k m : Int} {nm : List UInt8} {ls xs : Nat} (h : tmNode v k m nm ls xs = true) (hv : v ≤ v') : tmNode v' k m nm ls xs = true := by
  by_cases k1 : k = 1
  · subst k1
    rw [tmNode_1] at h ⊢
    exact ⟨h.1, by omega, h.2.2⟩
  · rw [tmNode_k (v' := v) k1]; exact h
mutual
theorem tmFit_more {p p' : Int} (hp : p ≤ p') (h4 : p' ≤ 4) : ∀ (t : Tm) (v v' : Int), tmFit p t v = true → v ≤ v' → tmFit p' t v' = true
  | .mk k n nm ls xs, v, v', h, hv => by
    rw [tmFit, Bool.and_eq_true, Bool.and_eq_true] at h ⊢
    exact ⟨⟨tmNode_more h.1.1 hv, lvRightL_more h.1.2 hp h4⟩, tmFitL_more hp h4 k xs 0 v v' h.2 hv⟩
theorem tmFitL_more {p p' : Int} (hp : p ≤ p') (h4 : p' ≤ 4) (k : Int) : ∀ (ts : List Tm) (i : Nat) (v v' : Int), tmFitL p k ts i v = true → v ≤ v' → tmFitL p' k ts i v' = true
  | [], _, _, _, _, _ => rfl
  | t :: ts, i, v, v', h, hv => by
    rw [tmFitL, Bool.and_eq_true] at h ⊢
    refine ⟨tmFit_more hp h4 t _ _ h.1 ?_, tmFitL_more hp h4 k ts (i + 1) v v' h.2 hv⟩
    split <;> omega
end
mutual
/-- bound, or among the first ones: just if so many are needed at most -/
theorem fit_loose {p B : Int} : ∀ (t : Tm) (d v : Int), 0 ≤ v → v ≤ B → (tmFit p t (v + d) = true ↔ tmFit p t (B + d) = true ∧ tmLoose t d ≤ v)
  | .mk k n nm ls xs, d, v, h0, hB => by
    rw [tmFit, tmFit, tmLoose]
    simp only [Bool.and_eq_true]
    by_cases k1 : k = 1
    · subst k1
      rw [if_pos rfl, tmNode_1, tmNode_1]
      constructor
      · rintro ⟨⟨⟨a1, a2, a3, a4, a5⟩, b⟩, c⟩
        have hx : xs = [] := List.eq_nil_of_length_eq_zero a5
        subst hx
        exact ⟨⟨⟨⟨a1, by omega, a3, a4, a5⟩, b⟩, rfl⟩, by omega⟩
      · rintro ⟨⟨⟨⟨a1, a2, a3, a4, a5⟩, b⟩, c⟩, e⟩
        have hx : xs = [] := List.eq_nil_of_length_eq_zero a5
        subst hx
        exact ⟨⟨⟨a1, by omega, a3, a4, a5⟩, b⟩, rfl⟩
    · rw [if_neg k1, tmNode_k (v' := B + d) k1, fitL_loose k xs 0 d v h0 hB]
      constructor
      · rintro ⟨a, b, c⟩; exact ⟨⟨a, b⟩, c⟩
      · rintro ⟨⟨a, b⟩, c⟩; exact ⟨a, b, c⟩
theorem fitL_loose {p B : Int} (k : Int) : ∀ (ts : List Tm) (i : Nat) (d v : Int), 0 ≤ v → v ≤ B → (tmFitL p k ts i (v + d) = true ↔ tmFitL p k ts i (B + d) = true ∧ tmLooseL k ts i d ≤ v)
  | [], _, _, _, h0, _ => by simp [tmFitL, tmLooseL, h0]
  | t :: ts, i, d, v, h0, hB => by
    rw [tmFitL, tmFitL, tmLooseL]
    simp only [Bool.and_eq_true]
    rw [fitL_loose k ts (i + 1) d v h0 hB]
    by_cases hb : tmBind k i = true
    · rw [if_pos hb, if_pos hb, if_pos hb, Int.add_assoc, Int.add_assoc, fit_loose t (d + 1) v h0 hB]
      constructor
      · rintro ⟨⟨a, b⟩, c, e⟩; exact ⟨⟨a, c⟩, by omega⟩
      · rintro ⟨⟨a, c⟩, e⟩; exact ⟨⟨a, by omega⟩, c, by omega⟩
    · rw [if_neg hb, if_neg hb, if_neg hb, fit_loose t d v h0 hB]
      constructor
      · rintro ⟨⟨a, b⟩, c, e⟩; exact ⟨⟨a, c⟩, by omega⟩
      · rintro ⟨⟨a, c⟩, e⟩; exact ⟨⟨a, by omega⟩, c, by omega⟩
end
theorem right_parts {n k : Int} {t : Tm} : tmRight n k t = true ↔ 0 ≤ n ∧ n ≤ 4 ∧ 0 ≤ k ∧ t.nodes ≤ 2000 ∧ tmFit n t (min k 1125899906842624) = true := by
  unfold tmRight
  simp only [Bool.and_eq_true, decide_eq_true_eq, and_assoc]
theorem right_of {n k : Int} {t : Tm} (h0 : 0 ≤ n) (h4 : n ≤ 4) (hk : 0 ≤ k) (hn : t.nodes ≤ 2000) (h : tmFit n t (min k 1125899906842624) = true) : tmRight n k t = true := right_parts.2 ⟨h0, h4, hk, hn, h⟩
theorem right_more {n n' k k' : Int} {t : Tm} (h : tmRight n k t = true) (hn : n ≤ n') (h4 : n' ≤ 4) (hk : k ≤ k') : tmRight n' k' t = true := by
  obtain ⟨a, b, c, d, e⟩ := right_parts.1 h
  exact right_of (by omega) h4 (by omega) d (tmFit_more hn h4 t _ _ e (by omega))
/-- a right term needs no more -/
theorem needs_of {n k : Int} {t : Tm} (h : tmRight n k t = true) : tmNeeds t = tmLoose t 0 ∧ tmLoose t 0 ≤ k ∧ tmLoose t 0 ≤ 1125899906842624 ∧ 0 ≤ tmLoose t 0 := by
  have h4 : tmRight 4 1125899906842624 t = true := by
    obtain ⟨a, b, c, d, e⟩ := right_parts.1 h
    exact right_of (by omega) (by omega) (by omega) d (tmFit_more b (by omega) t _ _ e (by omega))
  obtain ⟨a, b, c, d, e⟩ := right_parts.1 h
  have hl := (fit_loose (p := n) (B := min k 1125899906842624) t 0 (min k 1125899906842624) (by omega) (Int.le_refl _)).1 (by simpa using e)
  have := tmLoose_nonneg t 0
  exact ⟨by unfold tmNeeds; rw [if_pos h4], by omega, by omega, this⟩
/-- it is right for just so many as it needs -/
theorem right_needs {n k : Int} {t : Tm} (h : tmRight n k t = true) : tmRight n (tmNeeds t) t = true ∧ (tmNeeds t = 0 ∨ tmRight n (tmNeeds t - 1) t = false) := by
  obtain ⟨e1, e2, e3, e4⟩ := needs_of h
  obtain ⟨a, b, c, d, e⟩ := right_parts.1 h
  rw [e1]
  have hl := fit_loose (p := n) (B := min k 1125899906842624) t 0
  refine ⟨right_of a b e4 d ?_, ?_⟩
  · rw [show min (tmLoose t 0) 1125899906842624 = tmLoose t 0 by omega]
    have := (hl (tmLoose t 0) e4 (by omega)).2 ⟨by simpa using e, Int.le_refl _⟩
    simpa using this
  · by_cases h0 : tmLoose t 0 = 0
    · exact Or.inl h0
    · refine Or.inr ?_
      cases hr : tmRight n (tmLoose t 0 - 1) t with
      | false => rfl
      | true =>
        obtain ⟨_, _, _, _, f⟩ := right_parts.1 hr
        rw [show min (tmLoose t 0 - 1) 1125899906842624 = tmLoose t 0 - 1 by omega] at f
        have := ((hl (tmLoose t 0 - 1) (by omega) (by omega)).1 (by simpa using f)).2
        omega

/-! made terms -/
theorem fit_pair {p v : Int} {k : Int} (hk : k = 4 ∨ k = 5 ∨ k = 6) (a b : Tm) : tmFit p (.mk k 0 [] [] [a, b]) v = (tmFit p a v && tmFit p b (if k = 4 then v else v + 1)) := by
  have e1 : tmNode v k 0 [] 0 2 = true := by
    unfold tmNode
    rw [if_neg (by omega), if_neg (by omega), if_neg (by omega), if_pos hk]
    rfl
  rw [tmFit]
  simp only [List.length_cons, List.length_nil]
  rw [e1, tmFitL, tmFitL, tmFitL]
  have e2 : tmBind k 0 = false := by unfold tmBind; simp
  have e3 : tmBind k (0 + 1) = decide (k ≠ 4) := by
    unfold tmBind
    rcases hk with rfl | rfl | rfl <;> rfl
  rw [e2, e3]
  by_cases h4 : k = 4
  · simp [h4, lvRightL]
  · simp [h4, lvRightL]
theorem tmAps_cons (f t : Tm) (ts : List Tm) : tmAps f (t :: ts) = tmAps (.mk 4 0 [] [] [f, t]) ts := rfl
theorem app_nodes : ∀ (ts : List Tm) (f : Tm), (tmAps f ts).nodes = f.nodes + Tm.nodesL ts + ts.length
  | [], f => by simp [tmAps, Tm.nodesL]
  | t :: ts, f => by
    rw [tmAps_cons, app_nodes ts, Tm.nodesL]
    simp only [Tm.nodes, Tm.nodesL, Lv.nodesL, List.length_cons]
    omega
theorem app_fit {p v : Int} : ∀ (ts : List Tm) (f : Tm), tmFit p f v = true → (∀ t ∈ ts, tmFit p t v = true) → tmFit p (tmAps f ts) v = true
  | [], f, h, _ => h
  | t :: ts, f, h, hts => by
    rw [tmAps_cons]
    refine app_fit ts _ ?_ fun u hu => hts u (List.mem_cons_of_mem _ hu)
    rw [fit_pair (Or.inl rfl), h, if_pos rfl, hts t (by simp)]
    rfl
theorem over_nodes (k : Int) (body : Tm) : ∀ ts : List Tm, (tmOver k body ts).nodes = body.nodes + Tm.nodesL ts + ts.length
  | [] => by simp [tmOver, Tm.nodesL]
  | t :: ts => by
    have := over_nodes k body ts
    show (Tm.mk k 0 [] [] [t, tmOver k body ts]).nodes = _
    simp only [Tm.nodes, Tm.nodesL, Lv.nodesL, List.length_cons, this]
    omega
theorem over_fit {p : Int} {k : Int} (hk : k = 5 ∨ k = 6) (h4 : p ≤ 4) (body : Tm) : ∀ (ts : List Tm) (v : Int), tmFit p body v = true → (∀ t ∈ ts, tmFit p t v = true) → tmFit p (tmOver k body ts) v = true
  | [], v, h, _ => h
  | t :: ts, v, h, hts => by
    show tmFit p (.mk k 0 [] [] [t, tmOver k body ts]) v = true
    rw [fit_pair (Or.inr hk), hts t (by simp), if_neg (by omega)]
    exact over_fit hk h4 body ts (v + 1) (tmFit_more (Int.le_refl _) h4 _ _ _ h (by omega)) fun u hu => tmFit_more (Int.le_refl _) h4 _ _ _ (hts u (List.mem_cons_of_mem _ hu)) (by omega)
theorem app_spine : ∀ (ts : List Tm) (f : Tm), tmHead (tmAps f ts) = tmHead f ∧ tmArgs (tmAps f ts) = tmArgs f ++ ts
  | [], f => ⟨rfl, by simp [tmAps]⟩
  | t :: ts, f => by
    rw [tmAps_cons]
    obtain ⟨h1, h2⟩ := app_spine ts (.mk 4 0 [] [] [f, t])
    obtain ⟨s1, s2⟩ := spine_step (t := .mk 4 0 [] [] [f, t]) rfl rfl
    exact ⟨by rw [h1, s1]; rfl, by rw [h2, s2]; simp [Tm.args]⟩

/-! lifted terms -/
mutual
theorem loose_lift {c : Int} (hc : 0 ≤ c) : ∀ (t : Tm) (d : Int), tmLoose (tmLift c t d) (d + c) = tmLoose t d
  | .mk k n nm ls xs, d => by
    rw [tmLift, tmLoose, tmLoose]
    by_cases k1 : k = 1
    · rw [if_pos k1, if_pos k1]
      by_cases hd : d ≤ n
      · rw [if_pos ⟨k1, hd⟩]; omega
      · rw [if_neg (fun h => hd h.2)]; omega
    · rw [if_neg k1, if_neg k1]
      exact looseL_lift hc k xs 0 d
theorem looseL_lift {c : Int} (hc : 0 ≤ c) (k : Int) : ∀ (ts : List Tm) (i : Nat) (d : Int), tmLooseL k (tmLiftL c k ts i d) i (d + c) = tmLooseL k ts i d
  | [], _, _ => rfl
  | t :: ts, i, d => by
    rw [tmLiftL, tmLooseL, tmLooseL, looseL_lift hc k ts (i + 1) d]
    by_cases hb : tmBind k i = true
    · rw [if_pos hb, if_pos hb, show d + c + 1 = d + 1 + c by omega, loose_lift hc t (d + 1)]
    · rw [if_neg hb, if_neg hb, loose_lift hc t d]
end
mutual
theorem fit_lift {p c : Int} (hc : 0 ≤ c) : ∀ (t : Tm) (d v : Int), tmFit p t v = true → tmFit p (tmLift c t d) (v + c) = true
  | .mk k n nm ls xs, d, v, h => by
    rw [tmLift]
    rw [tmFit, Bool.and_eq_true, Bool.and_eq_true] at h ⊢
    rw [tmLiftL_len]
    refine ⟨⟨?_, h.1.2⟩, fitL_lift hc k xs 0 d v h.2⟩
    by_cases k1 : k = 1
    · subst k1
      have h1 := h.1.1
      rw [tmNode_1] at h1 ⊢
      refine ⟨?_, ?_, h1.2.2⟩ <;> split <;> omega
    · rw [if_neg (fun h => k1 h.1), tmNode_k (v' := v) k1]
      exact h.1.1
theorem fitL_lift {p c : Int} (hc : 0 ≤ c) (k : Int) : ∀ (ts : List Tm) (i : Nat) (d v : Int), tmFitL p k ts i v = true → tmFitL p k (tmLiftL c k ts i d) i (v + c) = true
  | [], _, _, _, _ => rfl
  | t :: ts, i, d, v, h => by
    rw [tmLiftL]
    rw [tmFitL, Bool.and_eq_true] at h ⊢
    refine ⟨?_, fitL_lift hc k ts (i + 1) d v h.2⟩
    by_cases hb : tmBind k i = true
    · rw [if_pos hb] at h ⊢
      rw [if_pos hb, show v + c + 1 = v + 1 + c by omega]
      exact fit_lift hc t (d + 1) (v + 1) h.1
    · rw [if_neg hb] at h ⊢
      rw [if_neg hb]
      exact fit_lift hc t d v h.1
end
/-- the greatest need of some terms -/
def needsL : List Tm → Int
  | [] => 0
  | t :: ts => max (tmLoose t 0) (needsL ts)
theorem needsL_nonneg : ∀ ts, 0 ≤ needsL ts
  | [] => Int.le_refl _
  | t :: ts => by rw [needsL]; have := needsL_nonneg ts; omega
theorem needsL_mem : ∀ {ts : List Tm} {t : Tm}, t ∈ ts → tmLoose t 0 ≤ needsL ts
  | [], _, h => by cases h
  | u :: ts, t, h => by
    rw [needsL]
    rcases List.mem_cons.1 h with rfl | h
    · omega
    · have := needsL_mem h; omega
theorem loose_pair {k : Int} (hk : k = 5 ∨ k = 6) (a b : Tm) (d : Int) : tmLoose (.mk k 0 [] [] [a, b]) d = max (tmLoose a d) (tmLoose b (d + 1)) := by
  have hb := tmLoose_nonneg b (d + 1)
  rw [tmLoose, if_neg (by omega), tmLooseL, tmLooseL, tmLooseL]
  have e2 : tmBind k 0 = false := by unfold tmBind; simp
  have e3 : tmBind k (0 + 1) = true := by
    unfold tmBind
    rcases hk with rfl | rfl <;> rfl
  rw [e2, e3, if_neg (by decide), if_pos rfl]
  omega
theorem arrow_loose (to : Tm) : ∀ (ts : List Tm) (i : Nat), tmLoose (tmOver 6 (tmLift ((i + ts.length : Nat) : Int) to 0) (liftsFrom i ts)) i = max (tmLoose to 0) (needsL ts)
  | [], i => by
    have h := loose_lift (c := (i : Nat)) (by omega) to 0
    have h0 := tmLoose_nonneg to 0
    rw [liftsFrom, needsL]
    show tmLoose (tmLift ((i + 0 : Nat) : Int) to 0) i = _
    rw [Nat.add_zero]
    rw [Int.zero_add] at h
    rw [h]
    omega
  | t :: ts, i => by
    have h := loose_lift (c := (i : Nat)) (by omega) t 0
    rw [Int.zero_add] at h
    have ih := arrow_loose to ts (i + 1)
    rw [liftsFrom, needsL, List.length_cons]
    show tmLoose (.mk 6 0 [] [] [tmLift i t 0, tmOver 6 _ (liftsFrom (i + 1) ts)]) i = _
    rw [loose_pair (Or.inr rfl), h, show i + (ts.length + 1) = i + 1 + ts.length by omega]
    rw [show ((i : Int) + 1) = ((i + 1 : Nat) : Int) by omega, ih]
    omega
theorem arrow_fit {v : Int} (to : Tm) (h0 : tmFit 4 to v = true) : ∀ (ts : List Tm) (i : Nat), (∀ t ∈ ts, tmFit 4 t v = true) → tmFit 4 (tmOver 6 (tmLift ((i + ts.length : Nat) : Int) to 0) (liftsFrom i ts)) (v + i) = true
  | [], i, _ => by
    show tmFit 4 (tmLift ((i + 0 : Nat) : Int) to 0) (v + i) = true
    rw [Nat.add_zero]
    exact fit_lift (by omega) to 0 v h0
  | t :: ts, i, hts => by
    have ih := arrow_fit to h0 ts (i + 1) fun u hu => hts u (List.mem_cons_of_mem _ hu)
    rw [liftsFrom, List.length_cons]
    show tmFit 4 (.mk 6 0 [] [] [tmLift i t 0, tmOver 6 _ (liftsFrom (i + 1) ts)]) (v + i) = true
    rw [fit_pair (Or.inr (Or.inr rfl)), fit_lift (by omega) t 0 v (hts t (by simp)), if_neg (by decide), show i + (ts.length + 1) = i + 1 + ts.length by omega, show v + (i : Int) + 1 = v + ((i + 1 : Nat) : Int) by omega, ih]
    rfl
/-- what is loose in the functions from types to a type is what was -/
theorem arrow_needs {to : Tm} {ts : List Tm} (h : arrowOk to ts = true) (hmax : max (tmLoose to 0) (needsL ts) ≤ 1099511627776) : tmNeeds (tmArrow to ts).1 = max (tmLoose to 0) (needsL ts) := by
  rw [tmArrow, if_pos h]
  unfold arrowOk at h
  simp only [Bool.and_eq_true, decide_eq_true_eq] at h
  obtain ⟨hn, h1, h2⟩ := h
  have fit : ∀ t : Tm, tmRight 4 1125899906842624 t = true → tmLoose t 0 ≤ 1099511627776 → tmFit 4 t 1099511627776 = true := fun t ht hl => by
    obtain ⟨_, _, _, _, e⟩ := right_parts.1 ht
    have := (fit_loose (p := 4) (B := 1125899906842624) t 0 1099511627776 (by omega) (by omega)).2 ⟨by simpa using e, hl⟩
    simpa using this
  have hx : tmFit 4 (tmOver 6 (tmLift ((0 + ts.length : Nat) : Int) to 0) (liftsFrom 0 ts)) (1099511627776 + (0 : Nat)) = true := arrow_fit to (fit to h1 (by omega)) ts 0 fun t ht => fit t (List.all_eq_true.1 h2 t ht) (by have := needsL_mem ht; omega)
  have hl := arrow_loose to ts 0
  rw [Nat.zero_add] at hx hl
  have hr : tmRight 4 1125899906842624 (tmOver 6 (tmLift (ts.length : Nat) to 0) (liftsFrom 0 ts)) = true := by
    refine right_of (by omega) (by omega) (by omega) ?_ (tmFit_more (Int.le_refl _) (by omega) _ _ _ hx (by simp))
    rw [over_nodes, tmLift_nodes, lifts_nodes, lifts_len]
    omega
  rw [(needs_of hr).1]
  exact hl
end Go.Proofs.YtaldgcnhmnfocaaDoor
