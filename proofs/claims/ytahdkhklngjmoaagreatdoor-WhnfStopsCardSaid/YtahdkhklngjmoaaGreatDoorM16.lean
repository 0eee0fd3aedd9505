/-
  Texts put together: Lays2, S1, S2, S3, S4, S5, S6, S7, S8, S9. No condition.
-/
import Derived.Test.YtahdkhklngjmoaaGreatDoorM6
import Derived.Shelf.Sort.Plain
import Derived.Shelf.Slices.CompactS
import Derived.Shelf.Slices.In.SortNone
import Derived.Ground.NamesProg
import Derived.Test.YtahdkhklngjmoaaGreatDoorM15
import Derived.Test.YtahdkhklngjmoaaGreatDoorM12
import Derived.Lib.RowBridge
/-
  DERIVED: THE SHELF's CONTRACTS AT THIS DUMP, IN PLAIN WORDS (tools/lay-plain.mjs out of 'YtahdkhklngjmoaaGreatDoorLays2.lean', which tools/lay-shelf.mjs wrote): THE SAME DECLARATIONS UNDER THE SAME NAMES: 'import', 'namespace', 'open', 'def', 'theorem' AND NOTHING ELSE: no command of the shelf's: FOR A HAND-IN. Each laying: the table of numbers ('.._ren') and one theorem, a field a fact of the dump's own or the kernel's comparison; each contract: ONE APPLICATION.
-/
namespace Go.Proofs.YtahdkhklngjmoaaGreatDoor
open Go.Shelf
end Go.Proofs.YtahdkhklngjmoaaGreatDoor

/-
  Functions that are ranged over: term's walk, slices.Values, Backward; slices.AppendSeq, Collect. No condition.
-/
namespace Go.Proofs.YtahdkhklngjmoaaGreatDoor
open Go.RowKit

/-! a term's parts, itself first -/
/-! slices.Values -/
/-! slices.Backward over terms -/
end Go.Proofs.YtahdkhklngjmoaaGreatDoor

/-
  slices.AppendSeq, Collect, Sort, Sorted, Compact over texts; name.Sort; term.Consts. No condition.
-/
namespace Go.Proofs.YtahdkhklngjmoaaGreatDoor
open Go.RowKit Go.Sort

end Go.Proofs.YtahdkhklngjmoaaGreatDoor

/-
  slices.AppendSeq, Collect, Sorted over texts; name.Sort; term.Consts. No condition.
-/
namespace Go.Proofs.YtahdkhklngjmoaaGreatDoor
open Go.RowKit Go.Sort

theorem TurnOk.drop {size n : Nat} {xs : List AV} {H H' : Heap} {b cap : Nat} {cs : List AV} (h : TurnOk size n xs H b cap cs) (hs : H'.Sublist H) : TurnOk size n xs H' b cap cs :=
  ⟨h.len, fun hb => h.out ((hs.map _).subset hb), h.le, h.max, h.room, h.here⟩
theorem MvOk.drop {size n : Nat} {xs : List AV} {H H' : Heap} {m : Mv} (h : MvOk size n xs H m) (hs : H'.Sublist H) : MvOk size n xs H' m := by
  cases m with
  | none => exact h
  | some p => exact ⟨h.1, h.2.drop hs⟩
/-! term.Consts -/
end Go.Proofs.YtahdkhklngjmoaaGreatDoor

/-
  term's Var, Sort, Const, App, Lam, Pi, Let. No condition.
-/
namespace Go.Proofs.YtahdkhklngjmoaaGreatDoor
open Go.RowKit

/-! terms made of others, plain -/
def tmAps (f : Tm) (ts : List Tm) : Tm := ts.foldl (fun out a => .mk 4 0 [] [] [out, a]) f
theorem tmAps_snoc {f : Tm} {ts : List Tm} {j : Nat} (h : j < ts.length) : tmAps f (ts.take (j + 1)) = .mk 4 0 [] [] [tmAps f (ts.take j), ts[j]] := by
  rw [List.take_succ_eq_append_getElem h, tmAps, List.foldl_append]
  rfl
theorem le_parts (k : Int) (a b : Tm) : Le (.agg [.i k, .i 0, .str [], .sl .full 0 [], .sl .full 5 [tmX a, tmX b]]) (tmX (.mk k 0 [] [] [a, b])) := by
  refine Le.agg ⟨Le.refl _, Le.refl _, Le.refl _, Le.nil _ _, ?_, trivial⟩
  refine Le.trans (Le.own _ _ _) (le_of_eq ?_)
  show AV.sl .no 5 [tmX a, tmX b] = .sl .no 5 [tmA a, tmA b]
  rw [tmA_eq, tmA_eq]
set_option maxRecDepth 100000 in
theorem Var_con (n : Int) : Ans Tryz.prog 135 [.i n] (tmX (.mk 1 n [] [] [])) := by
  intro H Q hq
  refine con_of_awp (esc := fun _ => false) tab_ok mixed Tryz.func135 rfl (ent Tryz.func135 (by kernel_rfl) rfl) (by kernel_rfl) ?_
  intro hw hn
  have hfin : Le (.agg [.i 1, .i n, .str [], .sl .full 0 [], .sl .full 0 []]) (tmX (.mk 1 n [] [] [])) := Le.agg ⟨Le.refl _, Le.refl _, Le.refl _, Le.nil _ _, Le.nil _ _, trivial⟩
  exact ⟨_, H, hfin, List.Sublist.refl _, hq⟩
set_option maxRecDepth 100000 in
set_option maxHeartbeats 1000000 in
theorem App_con (o : Own) (f : Tm) (ts : List Tm) (hf : f.nodes ≤ 1000000) (ht : ∀ t ∈ ts, t.nodes ≤ 1000000) (hl : ts.length ≤ 1000000) : Ans Tryz.prog 48 [tmX f, .sl o 5 (ts.map tmA)] (tmX (tmAps f ts)) := by
  intro H Q hq
  refine con_of_awp (esc := fun _ => false) tab_ok mixed Tryz.func48 rfl (ent Tryz.func48 (by kernel_rfl) rfl) (by kernel_rfl) ?_
  intro hw hn
  clear hw hn
  refine ⟨_, LeL.refl _, fresh_con _ f hf (Nat.le_refl _) _ _ ?_⟩
  intro hz1 hz2; clear hz1 hz2
  refine ⟨Nat, fun j => ⟨[(4, .lp 4 0), (5, .lp 5 0), (10, .g (.sl o 5 (ts.map tmA))), (11, .g (.i ts.length)), (12, .g (.i j))], [(5, (tmX (tmAps f (ts.take j))).cells), (4, [.i 0, .i 0, .str [], .sl .full 0 [], .sl .full 0 []]), (2, (tmX f).cells)], H⟩, fun j => j ≤ ts.length, fun j => ts.length - j, ⟨0, Nat.zero_le _, ?_⟩, ?_⟩
  · refine ⟨⟨⟨rfl, rfl⟩, ⟨rfl, rfl⟩, Le.refl _, le_of_eq ?_, Le.refl _, trivial⟩, ⟨⟨rfl, LeL.refl _⟩, ⟨rfl, LeL.refl _⟩, ⟨rfl, LeL.refl _⟩, trivial⟩, List.Sublist.refl _⟩
    show AV.i _ = AV.i _
    rw [List.length_map]
  · intro j hj
    refine ifB_dec (fun h1 => ?_) (fun h1 => ?_)
    · have hlt : j < ts.length := by omega
      refine ⟨j, rfl, _, tmAt' hlt, ?_⟩
      refine ⟨[0, 1, 2, 3, 4, 5], [], by kernel_rfl, by simp, ?_⟩
      refine ⟨_, LeL.refl _, fresh_con _ ts[j] (ht _ (List.getElem_mem hlt)) (Nat.le_refl _) _ _ ?_⟩
      intro hz1 hz2; clear hz1 hz2
      refine ⟨in64_of (by first | omega | (dsimp only; omega)) (by first | omega | (dsimp only; omega)), ?_⟩
      refine ⟨j + 1, by omega, by (try dsimp only); omega, ⟨⟨⟨rfl, rfl⟩, ⟨rfl, rfl⟩, Le.refl _, Le.refl _, Le.refl _, trivial⟩, ⟨⟨rfl, ?_⟩, ⟨rfl, LeL.refl _⟩, ⟨rfl, LeL.refl _⟩, trivial⟩, List.Sublist.refl _⟩⟩
      rw [tmAps_snoc hlt]
      refine ⟨Le.refl _, Le.refl _, Le.refl _, Le.nil _ _, ?_, trivial⟩
      refine Le.trans (Le.own _ _ _) (le_of_eq ?_)
      show AV.sl .no 5 [tmX _, tmX _] = .sl .no 5 [tmA _, tmA _]
      rw [tmA_eq, tmA_eq]
    · have hj' : ts.length = j := by omega
      subst hj'
      exact ⟨_, H, le_of_eq (by rw [List.take_length]; rfl), List.Sublist.refl _, hq⟩
end Go.Proofs.YtahdkhklngjmoaaGreatDoor

/-
  term's loose, Loose, lift; slices.Reverse over terms; term.Spine. No condition.
-/
namespace Go.Proofs.YtahdkhklngjmoaaGreatDoor
open Go.RowKit

/-! loose -/
/-! lift -/
mutual
/-- a term, in deep binders, with some added to its loose variables -/
def tmLift (by_ : Int) : Tm → Int → Tm
  | .mk k n nm ls xs, deep => .mk k (if k = 1 ∧ deep ≤ n then n + by_ else n) nm ls (tmLiftL by_ k xs 0 deep)
def tmLiftL (by_ k : Int) : List Tm → Nat → Int → List Tm
  | [], _, _ => []
  | t :: ts, i, deep => tmLift by_ t (if tmBind k i = true then deep + 1 else deep) :: tmLiftL by_ k ts (i + 1) deep
end
theorem tmLiftL_len (c k : Int) : ∀ (ts : List Tm) (i : Nat) (deep : Int), (tmLiftL c k ts i deep).length = ts.length
  | [], _, _ => rfl
  | t :: ts, i, deep => by rw [tmLiftL, List.length_cons, List.length_cons, tmLiftL_len c k ts]
end Go.Proofs.YtahdkhklngjmoaaGreatDoor

/-
  slices.Reverse over terms; term.Spine. No condition.
-/
namespace Go.Proofs.YtahdkhklngjmoaaGreatDoor
open Go.RowKit

/-! rows of elements of a width -/
theorem wide_take {s : Nat} {xs : List AV} (h : ∀ y ∈ xs, y.cells.length = s) (i : Nat) : ((xs.take i).flatMap AV.cells).length = (xs.take i).length * s := by
  induction xs generalizing i with
  | nil => simp
  | cons x xs ih =>
    cases i with
    | zero => simp
    | succ i =>
      rw [List.take_succ_cons, List.flatMap_cons, List.length_append, h x (by simp), ih (fun y hy => h y (List.mem_cons_of_mem _ hy)), List.length_cons, Nat.add_mul, Nat.one_mul, Nat.add_comm]
theorem row_split {xs : List AV} {i : Nat} (h : i < xs.length) (rest : List AV) : xs.flatMap AV.cells ++ rest = (xs.take i).flatMap AV.cells ++ (xs[i].cells ++ ((xs.drop (i + 1)).flatMap AV.cells ++ rest)) := by
  conv => lhs; rw [← List.take_append_drop i xs, List.drop_eq_getElem_cons h, List.flatMap_append, List.flatMap_cons]
  simp
theorem row_get {s : Nat} {xs : List AV} (hw : ∀ y ∈ xs, y.cells.length = s) {i : Nat} (h : i < xs.length) (rest : List AV) : ((xs.flatMap AV.cells ++ rest).drop (i * s)).take s = xs[i].cells := by
  have hl := wide_take hw i
  rw [List.length_take, Nat.min_eq_left (by omega)] at hl
  rw [row_split h, List.drop_left' hl, List.take_left' (hw _ (List.getElem_mem h))]
theorem row_room {s : Nat} {xs : List AV} (hw : ∀ y ∈ xs, y.cells.length = s) {i : Nat} (h : i < xs.length) (rest : List AV) : i * s + s ≤ (xs.flatMap AV.cells ++ rest).length := by
  have hl := wide_take hw i
  rw [List.length_take, Nat.min_eq_left (by omega)] at hl
  rw [row_split h, List.length_append, List.length_append, hl, hw _ (List.getElem_mem h)]
  omega
theorem row_put {s : Nat} {xs : List AV} (hw : ∀ y ∈ xs, y.cells.length = s) {i : Nat} (h : i < xs.length) (rest : List AV) {y : AV} (hy : y.cells.length = s) : putCells (xs.flatMap AV.cells ++ rest) (i * s) y.cells = (xs.set i y).flatMap AV.cells ++ rest := by
  have hl := wide_take hw i
  rw [List.length_take, Nat.min_eq_left (by omega)] at hl
  have hx := hw _ (List.getElem_mem h)
  rw [row_split h, putCells, List.take_left' hl, ← List.drop_drop, List.drop_left' hl, List.drop_left' (by rw [hx, hy])]
  rw [List.set_eq_take_append_cons_drop, if_pos h, List.flatMap_append, List.flatMap_cons]
  simp
theorem part_run {tab : Tab} {t : TypeId} {i : TI} {cs xs : List AV} {K : T → Prop} (hi : tab.get t = some i) (hk : i.kind.agg = true) (hl : i.size ≤ cs.length) (hx : cs.take i.size = xs) (k : K (.g (.agg xs))) : (partR tab t cs).run K := by
  unfold partR
  rw [hi]
  simp only [hk, cond_true]
  rw [Nat.ble_eq_true_of_le hl, hx]
  exact k

/-- so many ends are turned -/
def revT (ts : List Tm) (k : Nat) : List Tm := (List.range ts.length).map fun i => if i < k ∨ ts.length ≤ i + k then ts.getD (ts.length - 1 - i) tm0 else ts.getD i tm0
theorem revT_len (ts : List Tm) (k : Nat) : (revT ts k).length = ts.length := by simp [revT]
theorem revT_get (ts : List Tm) (k : Nat) {i : Nat} (h : i < ts.length) : (revT ts k)[i]'(by rw [revT_len]; exact h) = if i < k ∨ ts.length ≤ i + k then ts[ts.length - 1 - i] else ts[i] := by
  simp only [revT, List.getElem_map, List.getElem_range]
  rw [List.getD_eq_getElem?_getD, List.getElem?_eq_getElem (by omega), List.getD_eq_getElem?_getD, List.getElem?_eq_getElem h]
  rfl
theorem revT_zero (ts : List Tm) : revT ts 0 = ts := by
  apply List.ext_getElem (revT_len ts 0)
  intro i h1 h2
  rw [revT_get ts 0 h2, if_neg (by omega)]
theorem revT_done {ts : List Tm} {k : Nat} (h : ts.length ≤ 2 * k + 1) : revT ts k = ts.reverse := by
  apply List.ext_getElem (by rw [revT_len, List.length_reverse])
  intro i h1 h2
  rw [revT_len] at h1
  rw [revT_get ts k h1, List.getElem_reverse]
  split
  · rfl
  · have : ts.length - 1 - i = i := by omega
    simp only [this]
theorem revT_step {ts : List Tm} {k : Nat} (h : 2 * k + 1 < ts.length) : ((revT ts k).set k ((revT ts k)[ts.length - 1 - k]'(by rw [revT_len]; omega))).set (ts.length - 1 - k) ((revT ts k)[k]'(by rw [revT_len]; omega)) = revT ts (k + 1) := by
  apply List.ext_getElem (by simp [revT_len])
  intro i h1 h2
  rw [revT_len] at h2
  have g1 : (revT ts k)[k]'(by rw [revT_len]; omega) = ts[k] := by rw [revT_get ts k (by omega), if_neg (by omega)]
  have g2 : (revT ts k)[ts.length - 1 - k]'(by rw [revT_len]; omega) = ts[ts.length - 1 - k] := by rw [revT_get ts k (by omega), if_neg (by omega)]
  have g3 := revT_get ts k h2
  rw [revT_get ts (k + 1) h2, List.getElem_set, List.getElem_set]
  by_cases e1 : ts.length - 1 - k = i
  · rw [if_pos e1, if_pos (by omega), g1]
    have : ts.length - 1 - i = k := by omega
    simp only [this]
  · rw [if_neg e1]
    by_cases e2 : k = i
    · rw [if_pos e2, if_pos (by omega), g2]
      subst e2
      rfl
    · rw [if_neg e2, g3]
      by_cases e3 : i < k ∨ ts.length ≤ i + k
      · rw [if_pos e3, if_pos (by omega)]
      · rw [if_neg e3, if_neg (by omega)]
theorem tmA_wide (ts : List Tm) : ∀ y ∈ ts.map tmA, y.cells.length = 5 := (wide_tms ts).2
set_option maxRecDepth 100000 in
set_option maxHeartbeats 1000000 in
theorem Reverse_con (ts : List Tm) {b n cap : Nat} {cs : List AV} {H : Heap} {Q : AV → Heap → Prop} (hok : TurnOk 5 n (ts.map tmA) H b cap cs) (hn1 : n ≤ 1000000) (hq : ∀ cs', TurnOk 5 n (ts.reverse.map tmA) H b cap cs' → Q (.tup []) ((b, .cells cs') :: H)) : Con Tryz.prog 81 [hs b n cap] ((b, .cells cs) :: H) Q := by
  have hn : ts.length = n := by have := hok.len; rwa [List.length_map] at this
  obtain ⟨rest, hrest⟩ : ∃ rest, cs = (ts.map tmA).flatMap AV.cells ++ rest := ⟨cs.drop (n * 5), by rw [← hok.here, List.take_append_drop]⟩
  have hfl : ((ts.map tmA).flatMap AV.cells).length = n * 5 := by rw [flat_len (wide_tms ts), List.length_map, hn]
  have hroom := hok.room
  rw [hrest, List.length_append, hfl] at hroom
  refine con_of_awp (esc := fun _ => false) tab_ok mixed Tryz.func81 rfl (ent Tryz.func81 (by kernel_rfl) rfl) (by kernel_rfl) ?_
  intro hw hnd
  clear hw hnd
  refine ⟨in64_of (by first | omega | (dsimp only; omega)) (by first | omega | (dsimp only; omega)), ?_⟩
  refine ⟨Nat, fun k => ⟨[(0, .g (hs b n cap)), (2, .g (.i k)), (3, .g (.i ((n : Int) - 1 - k)))], [], (b, .cells (((revT ts k).map tmA).flatMap AV.cells ++ rest)) :: H⟩, fun k => k ≤ n, fun k => n - k, ⟨0, Nat.zero_le _, ?_⟩, ?_⟩
  · refine ⟨⟨Le.refl _, Le.refl _, le_of_eq ?_, trivial⟩, trivial, sub_eq ?_⟩
    · show AV.i _ = AV.i _
      congr 1
      simp
    · show (b, AObj.cells (((revT ts 0).map tmA).flatMap AV.cells ++ rest)) :: H = _
      rw [revT_zero, hrest]
      rfl
  · intro k hk
    refine ifB_dec (fun h1 => ?_) (fun h1 => ?_)
    · have hlt : 2 * k + 1 < ts.length := by omega
      have hkl : k < ((revT ts k).map tmA).length := by rw [List.length_map, revT_len]; omega
      have hjl : n - 1 - k < ((revT ts k).map tmA).length := by rw [List.length_map, revT_len]; omega
      have ej : (n : Int) - 1 - k = ((n - 1 - k : Nat) : Int) := by omega
      have hwd := tmA_wide (revT ts k)
      have g1 := row_get hwd hjl rest
      have g2 := row_get hwd hkl rest
      have r1 := row_room hwd hjl rest
      have r2 := row_room hwd hkl rest
      have xk : ((revT ts k).map tmA)[k] = tmX ((revT ts k)[k]'(by rw [revT_len]; omega)) := by rw [List.getElem_map, tmA_eq]
      have xj : ((revT ts k).map tmA)[n - 1 - k] = tmX ((revT ts k)[n - 1 - k]'(by rw [revT_len]; omega)) := by rw [List.getElem_map, tmA_eq]
      rw [xj] at g1
      rw [xk] at g2
      refine ⟨[0, 1, 2, 3, 4, 5, 6, 7, 8, 9, 10, 11, 12, 13, 14, 15], [(b, .cells (((revT ts k).map tmA).flatMap AV.cells ++ rest))], by kernel_rfl, pin1 List.mem_cons_self, ?_⟩
      refine ⟨n - 1 - k, ej, by omega, ?_⟩
      refine ⟨_, List.mem_singleton.2 rfl, ?_⟩
      refine part_run (xs := (tmX ((revT ts k)[n - 1 - k]'(by rw [revT_len]; omega))).cells) rfl rfl ?_ (by rw [Nat.zero_add]; exact g1) ?_
      · rw [Nat.zero_add]
        show 5 ≤ (List.drop ((n - 1 - k) * 5) _).length
        rw [List.length_drop]
        omega
      refine ⟨k, rfl, by omega, ?_⟩
      refine ⟨_, List.mem_singleton.2 rfl, ?_⟩
      refine part_run (xs := (tmX ((revT ts k)[k]'(by rw [revT_len]; omega))).cells) rfl rfl ?_ (by rw [Nat.zero_add]; exact g2) ?_
      · rw [Nat.zero_add]
        show 5 ≤ (List.drop (k * 5) _).length
        rw [List.length_drop]
        omega
      refine ⟨k, rfl, by omega, ?_⟩
      refine ⟨_, _, .here, ?_, ?_⟩
      · rw [Nat.zero_add]
        show k * 5 + 5 ≤ _
        omega
      refine ⟨n - 1 - k, ej, by omega, ?_⟩
      refine ⟨_, _, .here, ?_, ?_⟩
      · rw [Nat.zero_add, Nat.zero_add, row_put hwd hkl rest rfl]
        have := row_room (xs := ((revT ts k).map tmA).set k (tmX ((revT ts k)[n - 1 - k]'(by rw [revT_len]; omega)))) (s := 5) (i := n - 1 - k) (fun y hy => ?_) (by rw [List.length_set]; exact hjl) rest
        · show (n - 1 - k) * 5 + 5 ≤ _
          exact this
        · rcases List.mem_or_eq_of_mem_set hy with hy | rfl
          · exact hwd y hy
          · rfl
      refine ⟨in64_of (by first | omega | (dsimp only; omega)) (by first | omega | (dsimp only; omega)), ?_⟩
      refine ⟨in64_of (by first | omega | (dsimp only; omega)) (by first | omega | (dsimp only; omega)), ?_⟩
      have hfin : putCells (putCells (((revT ts k).map tmA).flatMap AV.cells ++ rest) (0 + k * 5) (tmX ((revT ts k)[n - 1 - k]'(by rw [revT_len]; omega))).cells) (0 + (n - 1 - k) * 5) (tmX ((revT ts k)[k]'(by rw [revT_len]; omega))).cells = ((revT ts (k + 1)).map tmA).flatMap AV.cells ++ rest := by
        rw [Nat.zero_add, Nat.zero_add, row_put hwd hkl rest rfl, row_put (s := 5) (y := tmX ((revT ts k)[k]'(by rw [revT_len]; omega))) (fun y hy => ?_) (by rw [List.length_set]; exact hjl) rest rfl]
        · congr 2
          subst hn
          rw [← revT_step hlt, List.map_set, List.map_set, tmA_eq, tmA_eq]
        · rcases List.mem_or_eq_of_mem_set hy with hy | rfl
          · exact hwd y hy
          · rfl
      refine ⟨k + 1, by omega, by (try dsimp only); omega, ⟨⟨Le.refl _, Le.refl _, le_of_eq ?_, trivial⟩, trivial, sub_eq ?_⟩⟩
      · show AV.i _ = AV.i _
        congr 1
        omega
      · show (b, AObj.cells (((revT ts (k + 1)).map tmA).flatMap AV.cells ++ rest)) :: H = _
        rw [← hfin]
        rfl
    · have hd : revT ts k = ts.reverse := revT_done (by omega)
      refine ⟨_, _, Le.refl _, List.Sublist.refl _, hq _ ?_⟩
      rw [hd]
      have hfl2 : ((ts.reverse.map tmA).flatMap AV.cells).length = n * 5 := by rw [flat_len (wide_tms _), List.length_map, List.length_reverse, hn]
      exact ⟨by simpa using hn, hok.out, hok.le, hok.max, by rw [List.length_append, hfl2]; exact hroom, List.take_left' hfl2⟩
set_option maxRecDepth 100000 in
theorem Reverse_nil {H : Heap} {Q : AV → Heap → Prop} (hq : Q (.tup []) H) : Con Tryz.prog 81 [.sl .full 0 []] H Q := by
  refine con_of_awp (esc := fun _ => false) tab_ok mixed Tryz.func81 rfl (ent Tryz.func81 (by kernel_rfl) rfl) (by kernel_rfl) ?_
  intro hw hnd
  clear hw hnd
  refine ⟨in64_of (by decide) (by decide), ?_⟩
  refine ⟨Unit, fun _ => ⟨[(0, .g (.sl .full 0 [])), (2, .g (.i 0)), (3, .g (.i (-1)))], [], H⟩, fun _ => True, fun _ => 0, ⟨(), trivial, ?_⟩, ?_⟩
  · (constructor <;> repeat' (first | exact trivial | exact ⟨rfl, rfl⟩ | exact ⟨rfl, LeL.refl _⟩ | exact Le.refl _ | exact List.Sublist.refl _ | (show Le (AV.i _) (AV.i _); rw [List.length_map]; exact Le.refl _) | refine And.intro ?_ ?_))
  · intro u hu
    exact ⟨_, _, Le.refl _, List.Sublist.refl _, hq⟩

/-! term.Spine -/
/-- a term's head -/
def tmHead : Tm → Tm
  | .mk k n nm ls xs =>
    match xs with
    | [f, a] => if k = 4 then tmHead f else .mk k n nm ls [f, a]
    | xs => .mk k n nm ls xs
/-- what it is applied to -/
def tmArgs : Tm → List Tm
  | .mk k _ _ _ xs =>
    match xs with
    | [f, a] => if k = 4 then tmArgs f ++ [a] else []
    | _ => []
theorem spine_step {t : Tm} (h1 : t.kind = 4) (h2 : t.args.length = 2) : tmHead t = tmHead (t.args[0]) ∧ tmArgs t = tmArgs (t.args[0]) ++ [t.args[1]] := by
  cases t with
  | mk k n nm ls xs =>
    obtain rfl : k = 4 := h1
    match xs, h2 with
    | [f, a], _ => exact ⟨by rw [tmHead]; rfl, by rw [tmArgs]; rfl⟩
theorem spine_stop {t : Tm} (h : ¬(t.kind = 4 ∧ t.args.length = 2)) : tmHead t = t ∧ tmArgs t = [] := by
  cases t with
  | mk k n nm ls xs =>
    match xs with
    | [] => exact ⟨rfl, rfl⟩
    | [a] => exact ⟨rfl, rfl⟩
    | [f, a] =>
      have hk : ¬ k = 4 := fun e => h ⟨e, rfl⟩
      exact ⟨by rw [tmHead]; simp [hk], by rw [tmArgs]; simp [hk]⟩
    | a :: b :: c :: r => exact ⟨rfl, rfl⟩
set_option maxRecDepth 100000 in
set_option maxHeartbeats 1000000 in
theorem SpineM_con (t : Tm) (hn1 : t.nodes ≤ 1000000) (H : Heap) (Q : AV → Heap → Prop) (hq : ∀ m : Mv, MvOk 5 (tmArgs t).length ((tmArgs t).map tmA) H m → Q (.tup [tmX (tmHead t), mvV 5 m (tmArgs t).length]) (mvH m H)) : Con Tryz.prog 61 [tmX t] H Q := by
  refine con_of_awp (esc := ([21].contains ·)) tab_ok mixed Tryz.func61 rfl (ent Tryz.func61 (by kernel_rfl) rfl) (by kernel_rfl) ?_
  intro hw hn
  clear hw hn
  refine ⟨Tm × Mv × List Tm, fun p => ⟨[(1, .lp 1 0), (2, .lp 2 0), (4, .g (mvS p.2.1 p.2.2.length))], [(2, [.i 0, .i 0, .str [], .sl .full 0 [], .sl .full 0 []]), (1, (tmX p.1).cells)], mvH p.2.1 H⟩,
    fun p => p.1.nodes + p.2.2.length ≤ t.nodes ∧ tmHead t = tmHead p.1 ∧ tmArgs t = tmArgs p.1 ++ p.2.2.reverse ∧ MvOk 5 p.2.2.length (p.2.2.map tmA) H p.2.1, fun p => p.1.nodes, ⟨(t, none, []), ⟨Nat.le_refl _, rfl, by simp, rfl, rfl⟩, ?_⟩, ?_⟩
  · exact ⟨⟨⟨rfl, rfl⟩, ⟨rfl, rfl⟩, Le.refl _, trivial⟩, ⟨⟨rfl, LeL.refl _⟩, ⟨rfl, LeL.refl _⟩, trivial⟩, List.Sublist.refl _⟩
  · rintro ⟨u, m, gs⟩ ⟨hnn, hh, ha, hz⟩
    simp only at hnn hh ha hz
    have hend : ¬(u.kind = 4 ∧ u.args.length = 2) → ∃ r H', True := fun _ => ⟨AV.i 0, H, trivial⟩
    have hun := u.nodes_eq
    refine ifB_dec (fun h1 => ?_) (fun h1 => ?_)
    · refine ifB_dec (fun h2 => ?_) (fun h2 => ?_)
      · simp only [List.length_map] at h2
        have h2' : u.args.length = 2 := by omega
        obtain ⟨s1, s2⟩ := spine_step h1 h2'
        have hm1 := Tm.nodesL_mem (List.getElem_mem (show 1 < u.args.length by omega))
        have hm01 : (u.args[0]'(by omega)).nodes + (u.args[1]'(by omega)).nodes ≤ Tm.nodesL u.args := by
          cases u with
          | mk k n nm ls xs =>
            match xs, h2' with
            | [f, a], _ => show f.nodes + a.nodes ≤ f.nodes + (a.nodes + 0); omega
        have hp1 := (u.args[1]'(by omega)).nodes_pos
        refine ⟨1, rfl, _, tmAt' (show 1 < u.args.length by omega), ?_⟩
        refine ⟨_, LeL.refl _, fresh_con _ (u.args[1]'(by omega)) (by omega) (Nat.le_refl _) _ _ ?_⟩
        intro hz1 hz2; clear hz1 hz2
        cases m with
        | none =>
          have h0 : gs = [] := by have := hz.2; simpa using this
          subst h0
          refine ⟨(by (first | refine Or.inl ?_ | skip); show (0 + 1) * (80 + 1) ≤ _; omega), by simp, rfl, fun b cap rest k1 k2 k3 k4 => ?_⟩
          refine ⟨0, rfl, _, tmAt' (show 0 < u.args.length by omega), ?_⟩
          refine ⟨(u.args[0]'(by omega), some (b, cap, ([] ++ [tmX (u.args[1]'(by omega))]).flatMap AV.cells ++ rest), [u.args[1]'(by omega)]), ⟨by simp only [List.length_cons, List.length_nil]; omega, by simp only; rw [hh, s1], by simp only; rw [ha, s2]; simp, by simp, ?_⟩, by simp only; omega, ?_⟩
          · simp only [List.map_cons, List.map_nil, List.length_cons, List.length_nil]
            rw [tmA_eq]
            exact TurnOk.first rfl k1 k2 k3 k4
          · exact ⟨⟨⟨rfl, rfl⟩, ⟨rfl, rfl⟩, Le.refl _, trivial⟩, ⟨⟨rfl, LeL.refl _⟩, ⟨rfl, LeL.refl _⟩, trivial⟩, List.Sublist.refl _⟩
        | some p =>
          obtain ⟨b0, cap0, cs0⟩ := p
          obtain ⟨hj0, htk⟩ := hz
          refine ⟨?_, by simp, cs0, H, Heap.Rem.here, htk.le, htk.max, htk.room, fun b cap rest k1 k2 k3 k4 => ?_⟩
          · simp only [List.length_cons, List.length_nil]
            (first | refine Or.inl ?_ | skip)
            show _ * (80 + 1) ≤ _
            omega
          refine ⟨0, rfl, _, tmAt' (show 0 < u.args.length by omega), ?_⟩
          refine ⟨(u.args[0]'(by omega), some (b, cap, cs0.take (gs.length * 5) ++ [tmX (u.args[1]'(by omega))].flatMap AV.cells ++ rest), gs ++ [u.args[1]'(by omega)]), ⟨by simp only [List.length_append, List.length_cons, List.length_nil]; omega, by simp only; rw [hh, s1], by simp only; rw [ha, s2]; simp, by simp, ?_⟩, by simp only; omega, ?_⟩
          · simp only [List.map_append, List.map_cons, List.map_nil, List.length_append, List.length_cons, List.length_nil]
            rw [tmA_eq]
            exact htk.next (wide_tms gs) rfl k1 k2 k3 k4
          · refine ⟨⟨⟨rfl, rfl⟩, ⟨rfl, rfl⟩, le_of_eq ?_, trivial⟩, ⟨⟨rfl, LeL.refl _⟩, ⟨rfl, LeL.refl _⟩, trivial⟩, List.Sublist.refl _⟩
            show hs b (gs.length + 1) cap = hs b (gs ++ [_]).length cap
            rw [List.length_append]
            rfl
      · simp only [List.length_map] at h2
        obtain ⟨s1, s2⟩ := spine_stop (t := u) (fun h => h2 (by rw [h.2]; rfl))
        rw [s1] at hh
        rw [s2, List.nil_append] at ha
        cases m with
        | none =>
          have h0 : gs = [] := by have := hz.2; simpa using this
          subst h0
          refine ⟨_, LeL.refl _, Reverse_nil ?_⟩
          intro hz1 hz2; clear hz1 hz2
          refine ⟨_, LeL.refl _, fresh_con _ u (by omega) (Nat.le_refl _) _ _ ?_⟩
          intro hz1 hz2; clear hz1 hz2
          refine ⟨_, _, ?_, List.Sublist.refl _, hq none ⟨by rw [ha]; rfl, by rw [ha]; rfl⟩⟩
          rw [hh, ha]
          exact Le.tup ⟨Le.refl _, Le.nil _ _, trivial⟩
        | some p =>
          obtain ⟨b, cap, cs⟩ := p
          refine ⟨_, LeL.refl _, Reverse_con (n := gs.length) gs hz.2 (by omega) (fun cs' hok => ?_)⟩
          intro hz1 hz2; clear hz1 hz2
          refine ⟨_, LeL.refl _, fresh_con _ u (by omega) (Nat.le_refl _) _ _ ?_⟩
          intro hz1 hz2; clear hz1 hz2
          have hrl : gs.reverse.length = gs.length := List.length_reverse
          refine ⟨_, _, ?_, List.Sublist.refl _, hq (some (b, cap, cs')) ?_⟩
          · rw [hh, ha, hrl]
            exact Le.refl _
          · rw [ha, hrl]
            exact ⟨hz.1, hok⟩
    · obtain ⟨s1, s2⟩ := spine_stop (t := u) (fun h => h1 h.1)
      rw [s1] at hh
      rw [s2, List.nil_append] at ha
      cases m with
      | none =>
        have h0 : gs = [] := by have := hz.2; simpa using this
        subst h0
        refine ⟨_, LeL.refl _, Reverse_nil ?_⟩
        intro hz1 hz2; clear hz1 hz2
        refine ⟨_, LeL.refl _, fresh_con _ u (by omega) (Nat.le_refl _) _ _ ?_⟩
        intro hz1 hz2; clear hz1 hz2
        refine ⟨_, _, ?_, List.Sublist.refl _, hq none ⟨by rw [ha]; rfl, by rw [ha]; rfl⟩⟩
        rw [hh, ha]
        exact Le.tup ⟨Le.refl _, Le.nil _ _, trivial⟩
      | some p =>
        obtain ⟨b, cap, cs⟩ := p
        refine ⟨_, LeL.refl _, Reverse_con (n := gs.length) gs hz.2 (by omega) (fun cs' hok => ?_)⟩
        intro hz1 hz2; clear hz1 hz2
        refine ⟨_, LeL.refl _, fresh_con _ u (by omega) (Nat.le_refl _) _ _ ?_⟩
        intro hz1 hz2; clear hz1 hz2
        have hrl : gs.reverse.length = gs.length := List.length_reverse
        refine ⟨_, _, ?_, List.Sublist.refl _, hq (some (b, cap, cs')) ?_⟩
        · rw [hh, ha, hrl]
          exact Le.refl _
        · rw [ha, hrl]
          exact ⟨hz.1, hok⟩
set_option maxRecDepth 100000 in
theorem Spine_con (t : Tm) (hn1 : t.nodes ≤ 1000000) : Ans Tryz.prog 61 [tmX t] (.tup [tmX (tmHead t), .sl .no 5 ((tmArgs t).map tmA)]) := by
  intro H Q hq
  by_cases h0 : (tmArgs t).length = 0
  · refine SpineM_con t hn1 H Q fun m hm => ?_
    have h1 : tmArgs t = [] := List.eq_nil_of_length_eq_zero h0
    cases m with
    | none =>
      rw [h1] at hq ⊢
      exact hq
    | some p => exact absurd h0 hm.1
  · refine Con.ice (SpineM_con t hn1 H _ fun m hm => ?_)
    cases m with
    | none => exact absurd hm.1 h0
    | some p =>
      obtain ⟨b, cap, cs⟩ := p
      exact ⟨b, cs, H, .tup [tmX (tmHead t), .sl .no 5 ((tmArgs t).map tmA)], .here, fun M h => LeM.tup ⟨LeM.refl _, hm.2.see (wide_tms _) h, trivial⟩, hq⟩
end Go.Proofs.YtahdkhklngjmoaaGreatDoor

/-
  term.Arrow. No condition.
-/
namespace Go.Proofs.YtahdkhklngjmoaaGreatDoor
open Go.RowKit

mutual
theorem tmLift_nodes (c : Int) : ∀ (t : Tm) (deep : Int), (tmLift c t deep).nodes = t.nodes
  | .mk k n nm ls xs, deep => by
    rw [tmLift, Tm.nodes, Tm.nodes, tmLiftL_nodes c k xs 0 deep]
theorem tmLiftL_nodes (c k : Int) : ∀ (ts : List Tm) (i : Nat) (deep : Int), Tm.nodesL (tmLiftL c k ts i deep) = Tm.nodesL ts
  | [], _, _ => rfl
  | t :: ts, i, deep => by
    rw [tmLiftL, Tm.nodesL, Tm.nodesL, tmLift_nodes c t, tmLiftL_nodes c k ts]
end
end Go.Proofs.YtahdkhklngjmoaaGreatDoor

/-
  The reference's Lift and Arrow. No condition.
-/
namespace Go.Proofs.YtahdkhklngjmoaaGreatDoor
open Go.RowKit

theorem TurnOk.put {s n : Nat} {xs : List AV} {H : Heap} {b cap : Nat} {cs : List AV} (h : TurnOk s n xs H b cap cs) (hw : wide s xs) {j : Nat} (hj : j < n) {y : AV} (hy : y.cells.length = s) : TurnOk s n (xs.set j y) H b cap (putCells cs (j * s) y.cells) ∧ j * s + s ≤ cs.length := by
  have hl := h.len
  have hfl : (xs.flatMap AV.cells).length = n * s := by rw [flat_len hw, hl]
  obtain ⟨rest, hrest⟩ : ∃ rest, cs = xs.flatMap AV.cells ++ rest := ⟨cs.drop (n * s), by rw [← h.here, List.take_append_drop]⟩
  have hroom := h.room
  have hjl : j < xs.length := by omega
  have hr := row_room hw.2 hjl rest
  rw [hrest] at hroom ⊢
  have hw2 : wide s (xs.set j y) := ⟨fun h0 => by rw [hw.1 h0]; rfl, fun z hz => by
    rcases List.mem_or_eq_of_mem_set hz with hz | rfl
    · exact hw.2 z hz
    · exact hy⟩
  have hfl2 : ((xs.set j y).flatMap AV.cells).length = n * s := by rw [flat_len hw2, List.length_set, hl]
  rw [row_put hw.2 hjl rest hy]
  refine ⟨⟨by rw [List.length_set]; exact hl, h.out, h.le, h.max, ?_, List.take_left' hfl2⟩, hr⟩
  rw [List.length_append, hfl2]
  rw [List.length_append, hfl] at hroom
  exact hroom
end Go.Proofs.YtahdkhklngjmoaaGreatDoor

/-
  What is right for so many parameters and variables is so for more; lifted and made terms (plain laws of law 04). No condition.
-/
namespace Go.Proofs.YtahdkhklngjmoaaGreatDoor
open Go.RowKit

theorem tmNode_k {v v' : Int} {k m : Int} {nm : List UInt8} {ls xs : Nat} (hk : k ≠ 1) : tmNode v k m nm ls xs = tmNode v' k m nm ls xs := by
  unfold tmNode
  rw [if_neg hk, if_neg hk]
theorem tmNode_1 {v m : Int} {nm : List UInt8} {ls xs : Nat} : tmNode v 1 m nm ls xs = true ↔ 0 ≤ m ∧ m < v ∧ nm = [] ∧ ls = 0 ∧ xs = 0 := by
  unfold tmNode
  rw [if_pos rfl]
  simp only [Bool.and_eq_true, decide_eq_true_eq, and_assoc]
mutual
/-- bound, or among the first ones: just if so many are needed at most -/
theorem fit_loose {p B : Int} : ∀ (t : Tm) (d v : Int), 0 ≤ v → v ≤ B → (tmFit p t (v + d) = true ↔ tmFit p t (B + d) = true ∧ tmLoose t d ≤ v)
  | .mk k n nm ls xs, d, v, h0, hB => by
    rw [tmFit, tmFit, tmLoose]
    simp only [Bool.and_eq_true]
    by_cases k1 : k = 1
    · subst k1
      rw [if_pos rfl, tmNode_1, tmNode_1]
      constructor
      · rintro ⟨⟨⟨a1, a2, a3, a4, a5⟩, b⟩, c⟩
        have hx : xs = [] := List.eq_nil_of_length_eq_zero a5
        subst hx
        exact ⟨⟨⟨⟨a1, by omega, a3, a4, a5⟩, b⟩, rfl⟩, by omega⟩
      · rintro ⟨⟨⟨⟨a1, a2, a3, a4, a5⟩, b⟩, c⟩, e⟩
        have hx : xs = [] := List.eq_nil_of_length_eq_zero a5
        subst hx
        exact ⟨⟨⟨a1, by omega, a3, a4, a5⟩, b⟩, rfl⟩
    · rw [if_neg k1, tmNode_k (v' := B + d) k1, fitL_loose k xs 0 d v h0 hB]
      constructor
      · rintro ⟨a, b, c⟩; exact ⟨⟨a, b⟩, c⟩
      · rintro ⟨⟨a, b⟩, c⟩; exact ⟨a, b, c⟩
theorem fitL_loose {p B : Int} (k : Int) : ∀ (ts : List Tm) (i : Nat) (d v : Int), 0 ≤ v → v ≤ B → (tmFitL p k ts i (v + d) = true ↔ tmFitL p k ts i (B + d) = true ∧ tmLooseL k ts i d ≤ v)
  | [], _, _, _, h0, _ => by simp [tmFitL, tmLooseL, h0]
  | t :: ts, i, d, v, h0, hB => by
    rw [tmFitL, tmFitL, tmLooseL]
    simp only [Bool.and_eq_true]
    rw [fitL_loose k ts (i + 1) d v h0 hB]
    by_cases hb : tmBind k i = true
    · rw [if_pos hb, if_pos hb, if_pos hb, Int.add_assoc, Int.add_assoc, fit_loose t (d + 1) v h0 hB]
      constructor
      · rintro ⟨⟨a, b⟩, c, e⟩; exact ⟨⟨a, c⟩, by omega⟩
      · rintro ⟨⟨a, c⟩, e⟩; exact ⟨⟨a, by omega⟩, c, by omega⟩
    · rw [if_neg hb, if_neg hb, if_neg hb, fit_loose t d v h0 hB]
      constructor
      · rintro ⟨⟨a, b⟩, c, e⟩; exact ⟨⟨a, c⟩, by omega⟩
      · rintro ⟨⟨a, c⟩, e⟩; exact ⟨⟨a, by omega⟩, c, by omega⟩
end
/-! made terms -/
theorem fit_pair {p v : Int} {k : Int} (hk : k = 4 ∨ k = 5 ∨ k = 6) (a b : Tm) : tmFit p (.mk k 0 [] [] [a, b]) v = (tmFit p a v && tmFit p b (if k = 4 then v else v + 1)) := by
  have e1 : tmNode v k 0 [] 0 2 = true := by
    unfold tmNode
    rw [if_neg (by omega), if_neg (by omega), if_neg (by omega), if_pos hk]
    rfl
  rw [tmFit]
  simp only [List.length_cons, List.length_nil]
  rw [e1, tmFitL, tmFitL, tmFitL]
  have e2 : tmBind k 0 = false := by unfold tmBind; simp
  have e3 : tmBind k (0 + 1) = decide (k ≠ 4) := by
    unfold tmBind
    rcases hk with rfl | rfl | rfl <;> rfl
  rw [e2, e3]
  by_cases h4 : k = 4
  · simp [h4, lvRightL]
  · simp [h4, lvRightL]
theorem tmAps_cons (f t : Tm) (ts : List Tm) : tmAps f (t :: ts) = tmAps (.mk 4 0 [] [] [f, t]) ts := rfl
theorem app_fit {p v : Int} : ∀ (ts : List Tm) (f : Tm), tmFit p f v = true → (∀ t ∈ ts, tmFit p t v = true) → tmFit p (tmAps f ts) v = true
  | [], f, h, _ => h
  | t :: ts, f, h, hts => by
    rw [tmAps_cons]
    refine app_fit ts _ ?_ fun u hu => hts u (List.mem_cons_of_mem _ hu)
    rw [fit_pair (Or.inl rfl), h, if_pos rfl, hts t (by simp)]
    rfl
theorem app_spine : ∀ (ts : List Tm) (f : Tm), tmHead (tmAps f ts) = tmHead f ∧ tmArgs (tmAps f ts) = tmArgs f ++ ts
  | [], f => ⟨rfl, by simp [tmAps]⟩
  | t :: ts, f => by
    rw [tmAps_cons]
    obtain ⟨h1, h2⟩ := app_spine ts (.mk 4 0 [] [] [f, t])
    obtain ⟨s1, s2⟩ := spine_step (t := .mk 4 0 [] [] [f, t]) rfl rfl
    exact ⟨by rw [h1, s1]; rfl, by rw [h2, s2]; simp [Tm.args]⟩

/-! lifted terms -/
mutual
theorem fit_lift {p c : Int} (hc : 0 ≤ c) : ∀ (t : Tm) (d v : Int), tmFit p t v = true → tmFit p (tmLift c t d) (v + c) = true
  | .mk k n nm ls xs, d, v, h => by
    rw [tmLift]
    rw [tmFit, Bool.and_eq_true, Bool.and_eq_true] at h ⊢
    rw [tmLiftL_len]
    refine ⟨⟨?_, h.1.2⟩, fitL_lift hc k xs 0 d v h.2⟩
    by_cases k1 : k = 1
    · subst k1
      have h1 := h.1.1
      rw [tmNode_1] at h1 ⊢
      refine ⟨?_, ?_, h1.2.2⟩ <;> split <;> omega
    · rw [if_neg (fun h => k1 h.1), tmNode_k (v' := v) k1]
      exact h.1.1
theorem fitL_lift {p c : Int} (hc : 0 ≤ c) (k : Int) : ∀ (ts : List Tm) (i : Nat) (d v : Int), tmFitL p k ts i v = true → tmFitL p k (tmLiftL c k ts i d) i (v + c) = true
  | [], _, _, _, _ => rfl
  | t :: ts, i, d, v, h => by
    rw [tmLiftL]
    rw [tmFitL, Bool.and_eq_true] at h ⊢
    refine ⟨?_, fitL_lift hc k ts (i + 1) d v h.2⟩
    by_cases hb : tmBind k i = true
    · rw [if_pos hb] at h ⊢
      rw [if_pos hb, show v + c + 1 = v + 1 + c by omega]
      exact fit_lift hc t (d + 1) (v + 1) h.1
    · rw [if_neg hb] at h ⊢
      rw [if_neg hb]
      exact fit_lift hc t d v h.1
end
end Go.Proofs.YtahdkhklngjmoaaGreatDoor

