/-
  Texts put together: Lays2, S1, S2, S3. No condition.
-/
import Derived.Test.YtnffnfkpicnhdaaGreatDoorM6
import Derived.Shelf.Sort.Plain
import Derived.Shelf.Slices.CompactS
import Derived.Shelf.Slices.In.SortNone
import Derived.Ground.NamesProg
import Derived.Test.YtnffnfkpicnhdaaGreatDoorM15
import Derived.Test.YtnffnfkpicnhdaaGreatDoorM12
import Derived.Lib.RowBridge
/-
  DERIVED: THE SHELF's CONTRACTS AT THIS DUMP, IN PLAIN WORDS (tools/lay-plain.mjs out of 'YtnffnfkpicnhdaaGreatDoorLays2.lean', which tools/lay-shelf.mjs wrote): THE SAME DECLARATIONS UNDER THE SAME NAMES: 'import', 'namespace', 'open', 'def', 'theorem' AND NOTHING ELSE: no command of the shelf's: FOR A HAND-IN. Each laying: the table of numbers ('.._ren') and one theorem, a field a fact of the dump's own or the kernel's comparison; each contract: ONE APPLICATION.
-/
namespace Go.Proofs.YtnffnfkpicnhdaaGreatDoor
open Go.Shelf
def Tryz.l190_ren : Go.Shelf.Ren := ⟨fun | 190 => 154 | 125 => 90 | 258 => 177 | 128 => 116 | 129 => 117 | 302 => 189 | 303 => 190 | 304 => 191 | 305 => 192 | 306 => 193 | 307 => 194 | 308 => 195 | 309 => 196 | 310 => 197 | 333 => 201 | 329 => 141 | 330 => 142 | 334 => 202 | 335 => 203 | 336 => 204 | 344 => 209 | n => n, fun | 31 => 59 | 9 => 9 | 3 => 3 | 46 => 127 | 0 => 0 | 51 => 147 | 53 => 149 | 4 => 4 | 183 => 141 | 182 => 140 | 131 => 115 | 5 => 5 | 218 => 167 | 222 => 171 | 228 => 189 | 229 => 190 | n => n, fun | n => n⟩
theorem Tryz.l190 : Go.Proofs.Lays.n190 Tryz.prog Tryz.l190_ren := {
  mixed := by kernel_rfl
  f125 := Tryz.func90.trans (congrArg some (by kernel_rfl))
  f128 := Tryz.func116.trans (congrArg some (by kernel_rfl))
  f129 := Tryz.func117.trans (congrArg some (by kernel_rfl))
  f190 := Tryz.func154.trans (congrArg some (by kernel_rfl))
  f258 := Tryz.func177.trans (congrArg some (by kernel_rfl))
  f302 := Tryz.func189.trans (congrArg some (by kernel_rfl))
  f303 := Tryz.func190.trans (congrArg some (by kernel_rfl))
  f304 := Tryz.func191.trans (congrArg some (by kernel_rfl))
  f305 := Tryz.func192.trans (congrArg some (by kernel_rfl))
  f306 := Tryz.func193.trans (congrArg some (by kernel_rfl))
  f307 := Tryz.func194.trans (congrArg some (by kernel_rfl))
  f308 := Tryz.func195.trans (congrArg some (by kernel_rfl))
  f309 := Tryz.func196.trans (congrArg some (by kernel_rfl))
  f310 := Tryz.func197.trans (congrArg some (by kernel_rfl))
  f329 := Tryz.func141.trans (congrArg some (by kernel_rfl))
  f330 := Tryz.func142.trans (congrArg some (by kernel_rfl))
  f333 := Tryz.func201.trans (congrArg some (by kernel_rfl))
  f334 := Tryz.func202.trans (congrArg some (by kernel_rfl))
  f335 := Tryz.func203.trans (congrArg some (by kernel_rfl))
  f336 := Tryz.func204.trans (congrArg some (by kernel_rfl))
  f344 := Tryz.func209.trans (congrArg some (by kernel_rfl))
  t0 := Tryz.underlying0
  a0 := Tryz.isAgg0
  z0 := Tryz.sizeOf0
  v0 := Tryz.zeroValue0
  t3 := Tryz.underlying3
  a3 := Tryz.isAgg3
  z3 := Tryz.sizeOf3
  v3 := Tryz.zeroValue3
  t4 := Tryz.underlying4
  a4 := Tryz.isAgg4
  z4 := Tryz.sizeOf4
  v4 := Tryz.zeroValue4
  t5 := Tryz.underlying5
  a5 := Tryz.isAgg5
  z5 := Tryz.sizeOf5
  v5 := Tryz.zeroValue5
  t9 := Tryz.underlying9
  a9 := Tryz.isAgg9
  z9 := Tryz.sizeOf9
  v9 := Tryz.zeroValue9
  t31 := Tryz.underlying59
  a31 := Tryz.isAgg59
  z31 := Tryz.sizeOf59
  v31 := Tryz.zeroValue59
  t46 := Tryz.underlying127
  a46 := Tryz.isAgg127
  z46 := Tryz.sizeOf127
  v46 := Tryz.zeroValue127
  t51 := Tryz.underlying147
  a51 := Tryz.isAgg147
  z51 := Tryz.sizeOf147
  v51 := Tryz.zeroValue147
  t53 := Tryz.underlying149
  a53 := Tryz.isAgg149
  z53 := Tryz.sizeOf149
  v53 := Tryz.zeroValue149
  t131 := Tryz.underlying115
  a131 := Tryz.isAgg115
  z131 := Tryz.sizeOf115
  v131 := Tryz.zeroValue115
  t182 := Tryz.underlying140
  a182 := Tryz.isAgg140
  z182 := Tryz.sizeOf140
  v182 := Tryz.zeroValue140
  t183 := Tryz.underlying141
  a183 := Tryz.isAgg141
  z183 := Tryz.sizeOf141
  v183 := Tryz.zeroValue141
  t218 := Tryz.underlying167
  a218 := Tryz.isAgg167
  z218 := Tryz.sizeOf167
  v218 := Tryz.zeroValue167
  t222 := Tryz.underlying171
  a222 := Tryz.isAgg171
  z222 := Tryz.sizeOf171
  v222 := Tryz.zeroValue171
  t228 := Tryz.underlying189
  a228 := Tryz.isAgg189
  z228 := Tryz.sizeOf189
  v228 := Tryz.zeroValue189
  t229 := Tryz.underlying190
  a229 := Tryz.isAgg190
  z229 := Tryz.sizeOf190
  v229 := Tryz.zeroValue190 }
def Tryz.l194_ren : Go.Shelf.Ren := ⟨fun | 194 => 125 | n => n, fun | 31 => 59 | 9 => 9 | 3 => 3 | 4 => 4 | 0 => 0 | n => n, fun | n => n⟩
theorem Tryz.l194 : Go.Proofs.Lays.n194 Tryz.prog Tryz.l194_ren := {
  mixed := by kernel_rfl
  f194 := Tryz.func125.trans (congrArg some (by kernel_rfl))
  t0 := Tryz.underlying0
  a0 := Tryz.isAgg0
  z0 := Tryz.sizeOf0
  v0 := Tryz.zeroValue0
  t3 := Tryz.underlying3
  a3 := Tryz.isAgg3
  z3 := Tryz.sizeOf3
  v3 := Tryz.zeroValue3
  t4 := Tryz.underlying4
  a4 := Tryz.isAgg4
  z4 := Tryz.sizeOf4
  v4 := Tryz.zeroValue4
  t9 := Tryz.underlying9
  a9 := Tryz.isAgg9
  z9 := Tryz.sizeOf9
  v9 := Tryz.zeroValue9
  t31 := Tryz.underlying59
  a31 := Tryz.isAgg59
  z31 := Tryz.sizeOf59
  v31 := Tryz.zeroValue59 }
end Go.Proofs.YtnffnfkpicnhdaaGreatDoor

/-
  Functions that are ranged over: term's walk, slices.Values, Backward; slices.AppendSeq, Collect. No condition.
-/
namespace Go.Proofs.YtnffnfkpicnhdaaGreatDoor
open Go.RowKit

/-! a term's parts, itself first -/
mutual
def Tm.subs : Tm → List Tm
  | .mk k n nm ls xs => .mk k n nm ls xs :: Tm.subsL xs
def Tm.subsL : List Tm → List Tm
  | [] => []
  | t :: ts => t.subs ++ Tm.subsL ts
end
theorem Tm.subs_eq (t : Tm) : t.subs = t :: Tm.subsL t.args := by cases t; rfl
theorem subsL_append : ∀ a b : List Tm, Tm.subsL (a ++ b) = Tm.subsL a ++ Tm.subsL b
  | [], b => rfl
  | t :: ts, b => by rw [List.cons_append, Tm.subsL, Tm.subsL, subsL_append ts b, List.append_assoc]
theorem subsL_snoc {ts : List Tm} {j : Nat} (h : j < ts.length) : Tm.subsL (ts.take (j + 1)) = Tm.subsL (ts.take j) ++ ts[j].subs := by
  rw [List.take_succ_eq_append_getElem h, subsL_append]
  simp [Tm.subsL]
theorem subsL_at {ts : List Tm} {j i : Nat} {x : Tm} (h : j < ts.length) (hx : ts[j].subs[i]? = some x) : (Tm.subsL ts)[(Tm.subsL (ts.take j)).length + i]? = some x := by
  have e : Tm.subsL ts = Tm.subsL (ts.take j) ++ (ts[j].subs ++ Tm.subsL (ts.drop (j + 1))) := by
    conv => lhs; rw [← List.take_append_drop j ts, List.drop_eq_getElem_cons h]
    rw [subsL_append]
    rfl
  rw [e, List.getElem?_append_right (by omega), Nat.add_sub_cancel_left, List.getElem?_append_left]
  · exact hx
  · exact (List.getElem?_eq_some_iff.1 hx).1
mutual
theorem subs_len : ∀ t : Tm, t.subs.length ≤ t.nodes
  | .mk k n nm ls xs => by
    rw [Tm.subs, Tm.nodes, List.length_cons]
    have := subsL_len xs
    omega
theorem subsL_len : ∀ ts : List Tm, (Tm.subsL ts).length ≤ Tm.nodesL ts
  | [] => Nat.le_refl _
  | t :: ts => by
    rw [Tm.subsL, Tm.nodesL, List.length_append]
    have := subs_len t
    have := subsL_len ts
    omega
end

set_option maxRecDepth 100000 in
theorem visit_con (l : Nat) : ∀ (N : Nat) (t : Tm) (I : Nat → Heap → Prop) (S : Heap → Prop) (H : Heap) (Q : AV → Heap → Prop), t.nodes ≤ N →
    (∀ i x H, t.subs[i]? = some x → I i H → RCon Tryz.prog l [tmX x] H fun r H' => (r = .b true ∧ I (i + 1) H') ∨ (r = .b false ∧ S H')) → I 0 H → (∀ H', I t.subs.length H' → Q (.b true) H') → (∀ H', S H' → Q (.b false) H') →
    Con Tryz.prog 124 [tmX t, .fn (.yield l) []] H Q := by
  intro N
  induction N with
  | zero => intro t I S H Q h; have := t.nodes_pos; omega
  | succ N ih =>
    intro t I S H Q hN hr h0 hq1 hq2
    have hnd := t.nodes_eq
    have hse := t.subs_eq
    have hy := hr 0 t H (by rw [hse]; rfl) h0
    refine con_of_awp (esc := fun _ => false) tab_ok mixed Tryz.func124 rfl (ent Tryz.func124 (by kernel_rfl) rfl) (by kernel_rfl) ?_
    intro hw hn
    have hlena := (hw (tmX t) (by simp)).targs
    clear hw hn
    refine ⟨_, LeL.refl _, RCon.mono hy ?_⟩
    rintro r H1 (⟨rfl, h1⟩ | ⟨rfl, h1⟩)
    rotate_left
    · intro hz1 hz2; clear hz1 hz2
      exact ⟨_, _, Le.refl _, List.Sublist.refl _, hq2 _ h1⟩
    · intro hz1 hz2; clear hz1 hz2
      refine ⟨Nat × Heap, fun p => ⟨[(1, .g (.fn (.yield l) [])), (12, .g (.sl .no 5 (t.args.map tmA))), (13, .g (.i t.args.length)), (14, .g (.i p.1))], [(2, (tmX t).cells)], p.2⟩,
        fun p => p.1 ≤ t.args.length ∧ I (1 + (Tm.subsL (t.args.take p.1)).length) p.2, fun p => t.args.length - p.1, ⟨(0, H1), ⟨Nat.zero_le _, h1⟩, ?_⟩, ?_⟩
      · (constructor <;> repeat' (first | exact trivial | exact ⟨rfl, rfl⟩ | exact ⟨rfl, LeL.refl _⟩ | exact Le.refl _ | exact List.Sublist.refl _ | (show Le (AV.i _) (AV.i _); rw [List.length_map]; exact Le.refl _) | refine And.intro ?_ ?_))
      · rintro ⟨j, H2⟩ ⟨hj, h2⟩
        simp only at hj h2
        refine ifB_dec (fun h3 => ?_) (fun h3 => ?_)
        · simp only [List.length_map] at h3
          have hlt : j < t.args.length := by omega
          have hmem := Tm.nodesL_mem (List.getElem_mem hlt)
          refine ⟨j, rfl, _, tmAt' hlt, ?_⟩
          refine ⟨_, LeL.refl _, ih t.args[j] (fun i => I (1 + (Tm.subsL (t.args.take j)).length + i)) S H2 _ (by omega) (fun i x H hx hI => ?_) h2 (fun H3 h4 => ?_) (fun H3 h4 => ?_)⟩
          · refine hr (1 + (Tm.subsL (t.args.take j)).length + i) x H ?_ hI
            rw [hse, Nat.add_assoc, Nat.add_comm 1, List.getElem?_cons_succ]
            exact subsL_at hlt hx
          · intro hz1 hz2; clear hz1 hz2
            refine ⟨in64_of (by first | omega | (dsimp only; omega)) (by first | omega | (dsimp only; omega)), ?_⟩
            refine ⟨(j + 1, H3), ⟨by simp only; omega, ?_⟩, by (try dsimp only); omega, ?_⟩
            · simp only
              rw [subsL_snoc hlt, List.length_append, ← Nat.add_assoc]
              exact h4
            · (constructor <;> repeat' (first | exact trivial | exact ⟨rfl, rfl⟩ | exact ⟨rfl, LeL.refl _⟩ | exact Le.refl _ | exact List.Sublist.refl _ | (show Le (AV.i _) (AV.i _); rw [List.length_map]; exact Le.refl _) | refine And.intro ?_ ?_))
          · intro hz1 hz2; clear hz1 hz2
            exact ⟨_, _, Le.refl _, List.Sublist.refl _, hq2 _ h4⟩
        · simp only [List.length_map] at h3
          have hj' : j = t.args.length := by omega
          refine ⟨_, _, Le.refl _, List.Sublist.refl _, hq1 _ ?_⟩
          rw [hse, List.length_cons, Nat.add_comm]
          rw [hj', List.take_length] at h2
          exact h2

/-- what a term's walk hands on -/
def tmWalk (t : Tm) : List (List AV) := t.subs.map fun x => [tmX x]
set_option maxRecDepth 100000 in
theorem walk_con (t : Tm) : Ans Tryz.prog 93 [tmX t] (.fn (.func 123) [.ip (tmX t).cells]) := by
  intro H Q hq
  refine Con.ice ?_
  refine con_of_awp (esc := ([1].contains ·)) tab_ok mixed Tryz.func93 rfl (ent Tryz.func93 (by kernel_rfl) rfl) (by kernel_rfl) ?_
  intro hw hn b hb
  exact ⟨_, _, Le.refl _, List.Sublist.refl _, b, (tmX t).cells, H, .fn (.func 123) [.ip (tmX t).cells], .here, fun M h => LeM.fn ⟨ptr_ice h, trivial⟩, hq⟩
set_option maxRecDepth 100000 in
theorem walk_iter (t : Tm) : Iter Tryz.prog 123 [.ip (tmX t).cells] (tmWalk t) := by
  intro l I S hr H h0
  refine con_of_awp (esc := fun _ => false) tab_ok mixed Tryz.func123 rfl (ent Tryz.func123 (by kernel_rfl) rfl) (by kernel_rfl) ?_
  intro hw hn
  refine ⟨_, LeL.refl _, visit_con l t.nodes t I S H _ (Nat.le_refl _) (fun i x H hx hI => ?_) h0 (fun H' h => ?_) (fun H' h => ?_)⟩
  · exact hr i [tmX x] H (by rw [tmWalk, List.getElem?_map, hx]; rfl) hI
  · intro hz1 hz2; clear hz1 hz2
    exact ⟨_, _, Le.refl _, List.Sublist.refl _, Or.inl (by rw [tmWalk, List.length_map]; exact h)⟩
  · intro hz1 hz2; clear hz1 hz2
    exact ⟨_, _, Le.refl _, List.Sublist.refl _, Or.inr h⟩

/-! slices.Values -/
set_option maxRecDepth 100000 in
theorem Values_con (o : Own) (ss : List (List UInt8)) : Ans Tryz.prog 127 [.sl o 1 (ss.map .str)] (.fn (.func 155) [.ip [.sl o 1 (ss.map .str)]]) := by
  intro H Q hq
  refine Con.ice ?_
  refine con_of_awp (esc := ([1].contains ·)) tab_ok mixed Tryz.func127 rfl (ent Tryz.func127 (by kernel_rfl) rfl) (by kernel_rfl) ?_
  intro hw hn b hb
  exact ⟨_, _, Le.refl _, List.Sublist.refl _, b, [.sl o 1 (ss.map .str)], H, .fn (.func 155) [.ip [.sl o 1 (ss.map .str)]], .here, fun M h => LeM.fn ⟨ptr_ice h, trivial⟩, hq⟩
def stsEach (ss : List (List UInt8)) : List (List AV) := ss.map fun s => [.str s]
set_option maxRecDepth 100000 in
theorem Values_iter (o : Own) (ss : List (List UInt8)) : Iter Tryz.prog 155 [.ip [.sl o 1 (ss.map .str)]] (stsEach ss) := by
  intro l I S hr H h0
  refine con_of_awp (esc := fun _ => false) tab_ok mixed Tryz.func155 rfl (ent Tryz.func155 (by kernel_rfl) rfl) (by kernel_rfl) ?_
  intro hw hn
  have hlen : ss.length ≤ 9223372036854775807 := by
    have := Wf.len ((hw (.ip [.sl o 1 (ss.map .str)]) (by simp)).ptr (x := .sl o 1 (ss.map .str)) (by simp))
    simpa using this
  clear hw hn
  refine ⟨Nat × Heap, fun p => ⟨[(0, .g (.fn (.yield l) [])), (5, .g (.sl o 1 (ss.map .str))), (6, .g (.i ss.length)), (7, .g (.i p.1))], [], p.2⟩, fun p => p.1 ≤ ss.length ∧ I p.1 p.2, fun p => ss.length - p.1, ⟨(0, H), ⟨Nat.zero_le _, h0⟩, ?_⟩, ?_⟩
  · (constructor <;> repeat' (first | exact trivial | exact ⟨rfl, rfl⟩ | exact ⟨rfl, LeL.refl _⟩ | exact Le.refl _ | exact List.Sublist.refl _ | (show Le (AV.i _) (AV.i _); rw [List.length_map]; exact Le.refl _) | refine And.intro ?_ ?_))
  · rintro ⟨j, H1⟩ ⟨hj, h1⟩
    simp only at hj h1
    refine ifB_dec (fun h3 => ?_) (fun h3 => ?_)
    · simp only at h3
      have hlt : j < ss.length := by omega
      refine ⟨j, rfl, _, stAt hlt, ?_⟩
      refine ⟨_, LeL.refl _, RCon.mono (hr j [.str ss[j]] H1 (by simp [stsEach, hlt]) h1) ?_⟩
      rintro r H2 (⟨rfl, h2⟩ | ⟨rfl, h2⟩)
      · intro hz1 hz2; clear hz1 hz2
        refine ⟨in64_of (by first | omega | (dsimp only; omega)) (by first | omega | (dsimp only; omega)), ?_⟩
        refine ⟨(j + 1, H2), ⟨by simp only; omega, h2⟩, by (try dsimp only); omega, ?_⟩
        (constructor <;> repeat' (first | exact trivial | exact ⟨rfl, rfl⟩ | exact ⟨rfl, LeL.refl _⟩ | exact Le.refl _ | exact List.Sublist.refl _ | (show Le (AV.i _) (AV.i _); rw [List.length_map]; exact Le.refl _) | refine And.intro ?_ ?_))
      · intro hz1 hz2; clear hz1 hz2
        exact ⟨_, _, Le.refl _, List.Sublist.refl _, Or.inr h2⟩
    · simp only at h3
      have hj' : j = ss.length := by omega
      refine ⟨_, _, Le.refl _, List.Sublist.refl _, Or.inl ?_⟩
      rw [stsEach, List.length_map, ← hj']
      exact h1

/-! slices.Backward over terms -/
def backEach (ts : List Tm) : List (List AV) := (List.range ts.length).map fun i => [.i ((ts.length - 1 - i : Nat) : Int), tmX (ts.getD (ts.length - 1 - i) tm0)]
end Go.Proofs.YtnffnfkpicnhdaaGreatDoor

/-
  slices.AppendSeq, Collect, Sort, Sorted, Compact over texts; name.Sort; term.Consts. No condition.
-/
namespace Go.Proofs.YtnffnfkpicnhdaaGreatDoor
open Go.RowKit Go.Sort

/-- a row of cells that turned, and new blocks behind the heap -/
theorem row_turn {M : Mem} {H : Heap} {w w' : World} {b : Nat} {cs ys : List AV} {ds : List Value} {T0 : TypeId} (h : Inv M ((b, .cells cs) :: H) w) (hsz : w.heap.size ≤ w'.heap.size) (h1 : w'.os = w.os) (h2 : w'.tape = w.tape) (h3 : w'.output = w.output)
    (hot : ∀ k, k < w.heap.size → k ≠ b → w'.heap[k]? = w.heap[k]?) (hb : w'.heap[b]? = some (.cells ds.toArray T0 (0, 0))) (hc : repC M ys ds) : Evo [b] M w M w' ∧ Inv M ((b, .cells ys) :: H) w' := by
  have e : Evo [b] M w M w' := ⟨h1, h2, h3, hsz, fun k hk hn => hot k hk (by simpa using hn), Mem.le.refl M, fun _ _ _ h => Or.inl h⟩
  obtain ⟨hnone, vs, T, hg, _⟩ := h.obj b (.cells cs) (by simp)
  have hnd := h.nodup
  simp only [Heap.keys, List.map_cons, List.nodup_cons] at hnd
  refine ⟨e, fun b' o v hv => ?_, fun b' x hx => ?_, by simpa only [Heap.keys, List.map_cons, List.nodup_cons] using hnd⟩
  · have hne : b' ≠ b := fun e => by subst e; rw [hnone o] at hv; cases hv
    rw [← h.mem b' o v hv]
    simp only [World.cell?, hot b' (h.lt hv) hne]
  · rcases List.mem_cons.1 hx with hx | hx
    · cases hx
      exact ⟨hnone, ds, T0, hb, hc⟩
    · have hne : b' ≠ b := fun e => hnd.1 (by rw [← e]; exact Heap.mem_keys hx)
      exact (h.obj b' x (List.mem_cons_of_mem _ hx)).keep e (by simpa using hne)
theorem flat_strs : ∀ ss : List (List UInt8), (ss.map AV.str).flatMap AV.cells = ss.map AV.str
  | [] => rfl
  | s :: ss => by
    show AV.str s :: (ss.map AV.str).flatMap AV.cells = _
    rw [flat_strs ss]
    rfl
theorem strs_rep {M : Mem} : ∀ {ss : List (List UInt8)}, (∀ s ∈ ss, s.length ≤ 1125899906842624) → repC M (ss.map .str) (ss.map encStr)
  | [], _ => by simp only [List.map_nil, repC]
  | s :: ss, h => by
    simp only [List.map_cons, repC]
    exact ⟨_, _, rfl, ⟨rfl, rep_str (h s (by simp))⟩, strs_rep fun x hx => h x (List.mem_cons_of_mem _ hx)⟩
theorem strs_vals {M : Mem} : ∀ {ss : List (List UInt8)} {vs : List Value}, repC M (ss.map .str) vs → vs = ss.map encStr ∧ ∀ s ∈ ss, s.length ≤ 1125899906842624
  | [], vs, h => by simp only [List.map_nil, repC] at h; subst h; exact ⟨rfl, fun s hs => by cases hs⟩
  | s :: ss, vs, h => by
    simp only [List.map_cons, repC] at h
    obtain ⟨c, cs, rfl, ⟨_, h1⟩, h2⟩ := h
    simp only [rep] at h1
    obtain ⟨k1, k2⟩ := strs_vals h2
    exact ⟨by rw [h1.1, k1]; rfl, fun x hx => by rcases List.mem_cons.1 hx with rfl | hx; exact h1.2; exact k2 x hx⟩
/-- texts in a row that may turn: what the shelf wants, and what it gives -/
theorem row_strs {M : Mem} {H : Heap} {w : World} {b n cap : Nat} {cs : List AV} {ss : List (List UInt8)} (hok : TurnOk 1 n (ss.map .str) H b cap cs) (hI : Inv M ((b, .cells cs) :: H) w) :
    ss.length = n ∧ (∀ s ∈ ss, s.length ≤ 1125899906842624) ∧ b < w.heap.size ∧ Holds encStr w b 0 ss.toArray ∧
    ∀ (ss' : List (List UInt8)) (k : Nat) (os : Array Obj), ss'.length = n → (∀ s ∈ ss', s.length ≤ 1125899906842624) → Evo [b] M w M (grow (putRow encStr (Sort.ahead w k) b 0 ss'.toArray) os) ∧ Inv M ((b, .cells (ss'.map .str ++ cs.drop n)) :: H) (grow (putRow encStr (Sort.ahead w k) b 0 ss'.toArray) os) := by
  have hn : ss.length = n := by have := hok.len; rwa [List.length_map] at this
  have hhere := hok.here
  rw [flat_strs, Nat.mul_one] at hhere
  obtain ⟨_, vs, T0, hg, hrep⟩ := hI.obj b (.cells cs) (by simp)
  have hlt : b < w.heap.size := (Array.getElem?_eq_some_iff.1 hg).1
  obtain ⟨k1, k2⟩ := strs_vals (M := M) (vs := vs.take n) (by rw [← hhere]; exact hrep.take n)
  have hvl : n ≤ vs.length := by
    have := congrArg List.length k1
    rw [List.length_take, List.length_map] at this
    omega
  refine ⟨hn, k2, hlt, fun j hj => ?_, fun ss' k os hl h50 => ?_⟩
  · simp only [List.size_toArray] at hj
    have e1 : vs[j]? = some (encStr ss[j]) := by
      have : (vs.take n)[j]? = (ss.map encStr)[j]? := by rw [k1]
      rw [List.getElem?_take, if_pos (by omega), List.getElem?_map, List.getElem?_eq_getElem hj] at this
      exact this
    refine ⟨?_, ?_⟩
    · simp only [World.cell?, hg, Nat.zero_add]
      rw [getElem!_pos ss.toArray j (by simpa using hj)]
      simpa using e1
    · simp [World.frozen?, hg]
  · refine row_turn (ds := ss'.map encStr ++ vs.drop n) (T0 := T0) hI (by rw [size_grow]; unfold putRow mapBlock Sort.ahead; simp) rfl rfl rfl (fun q hq hqb => ?_) ?_ ((strs_rep h50).append (hrep.drop n))
    · unfold grow putRow mapBlock Sort.ahead
      simp only
      rw [Array.getElem?_append_left (by simpa using hq), Array.getElem?_modify, if_neg (Ne.symm hqb)]
    · unfold grow putRow mapBlock Sort.ahead
      simp only
      rw [Array.getElem?_append_left (by simpa using hlt), Array.getElem?_modify, if_pos rfl, hg]
      simp only [Option.map_some, onCells]
      congr 2
      apply Array.ext_getElem?
      intro i
      unfold Sort.putCells
      rw [Array.getElem?_mapIdx]
      simp only [List.size_toArray, Nat.zero_le, true_and, Nat.zero_add, Nat.sub_zero, List.getElem?_toArray]
      by_cases hi : i < n
      · rw [List.getElem?_append_left (by simpa [hl] using hi), List.getElem?_map, List.getElem?_eq_getElem (by omega), List.getElem?_eq_getElem (by omega)]
        simp only [Option.map_some]
        rw [if_pos (by omega), getElem!_pos ss'.toArray i (by simpa [hl] using hi)]
        simp
      · rw [List.getElem?_append_right (by simp [hl]; omega), List.length_map, hl, List.getElem?_drop, show n + (i - n) = i by omega]
        cases vs[i]? with
        | none => rfl
        | some v => simp only [Option.map_some]; rw [if_neg (by omega)]

/-- texts in order -/
def stsSort (ss : List (List UInt8)) : List (List UInt8) := ss.mergeSort fun x y => decide (x ≤ y)
theorem stsSort_len (ss : List (List UInt8)) : (stsSort ss).length = ss.length := List.length_mergeSort _
theorem stsSort_mem {ss : List (List UInt8)} {s : List UInt8} : s ∈ stsSort ss ↔ s ∈ ss := List.mem_mergeSort
theorem turn_strs {n cap b : Nat} {ss ss' : List (List UInt8)} {H : Heap} {cs : List AV} (hok : TurnOk 1 n (ss.map .str) H b cap cs) (hl : ss'.length = n) : TurnOk 1 n (ss'.map .str) H b cap (ss'.map .str ++ cs.drop n) := by
  have h := hok.here
  rw [flat_strs, Nat.mul_one] at h
  have h1 : (cs.take n).length = n := by rw [h]; exact hok.len
  have hr := hok.room
  have hle := hok.le
  refine ⟨by simpa using hl, hok.out, hok.le, hok.max, ?_, ?_⟩
  · rw [List.length_append, List.length_map, List.length_drop, hl]
    rw [List.length_take] at h1
    omega
  · rw [flat_strs, Nat.mul_one, List.take_left' (by simpa using hl)]
set_option maxRecDepth 100000 in
theorem Sort_con (ss : List (List UInt8)) {b n cap : Nat} {cs : List AV} {H : Heap} {Q : AV → Heap → Prop} (hok : TurnOk 1 n (ss.map .str) H b cap cs) (hn : n ≤ 1000000) (hq : ∀ cs', TurnOk 1 n ((stsSort ss).map .str) H b cap cs' → Q (.tup []) ((b, .cells cs') :: H)) : Con Tryz.prog 154 [hs b n cap] ((b, .cells cs) :: H) Q := by
  intro M w vs _ hI hargs
  simp only [repT] at hargs
  obtain ⟨v, _, rfl, hv, rfl⟩ := hargs
  unfold hs at hv
  simp only [rep] at hv
  obtain ⟨rfl, _⟩ := hv
  obtain ⟨h1, h2, h3, h4, h5⟩ := row_strs hok hI
  have hcall := Any.slices_Sort_string Tryz.l190 b 0 cap ss w h4 h3 (by omega)
  rw [h1] at hcall
  rw [ent Tryz.func154 (by kernel_rfl) rfl]
  refine Calls.mono hcall ?_
  rintro e w' ⟨rfl, k, os, rfl⟩
  have hl : (stsSort ss).length = n := by rw [stsSort_len]; exact h1
  obtain ⟨e1, e2⟩ := h5 (stsSort ss) k os hl fun s hs => h2 s (stsSort_mem.1 hs)
  refine ⟨_, rfl, M, .tup [], _, e1.mono (fun q hq => by simp only [List.mem_singleton] at hq; subst hq; simp [Heap.keys]), e2, fun q hq => Or.inl hq, by simp [rep, repT], hq _ (turn_strs hok hl)⟩
set_option maxRecDepth 100000 in
theorem Sort_nil (o : Own) (s : Nat) {H : Heap} {Q : AV → Heap → Prop} (hq : Q (.tup []) H) : Con Tryz.prog 154 [.sl o s []] H Q := by
  intro M w vs _ hI hargs
  simp only [repT] at hargs
  obtain ⟨v, _, rfl, hv, rfl⟩ := hargs
  simp only [rep] at hv
  obtain ⟨a, cap, rfl, _⟩ := hv
  rw [ent Tryz.func154 (by kernel_rfl) rfl]
  refine Calls.mono (Any.slices_Sort_string_none Tryz.l190 a cap w) ?_
  rintro e w' ⟨rfl, rfl⟩
  exact ⟨_, rfl, M, .tup [], H, Evo.refl _ _ _, hI, fun q hq => Or.inl hq, by simp [rep, repT], hq⟩
/-- each text once -/
def stsOnce (ss : List (List UInt8)) : List (List UInt8) := Lib.compact ss
theorem stsOnce_le (ss : List (List UInt8)) : (stsOnce ss).length ≤ ss.length := Lib.compact_length_le ss
theorem stsOnce_mem {ss : List (List UInt8)} {s : List UInt8} (h : s ∈ stsOnce ss) : s ∈ ss := by
  unfold stsOnce Lib.compact Lib.compactUpTo at h
  obtain ⟨i, hi, rfl⟩ := List.mem_map.1 h
  have := List.mem_range.1 (List.mem_filter.1 hi).1
  rw [getElem!_pos ss.toArray i (by simpa using this)]
  simp
theorem turn_once {n cap b : Nat} {ss : List (List UInt8)} {H : Heap} {cs : List AV} (hok : TurnOk 1 n (ss.map .str) H b cap cs) (hn : ss.length = n) : TurnOk 1 (stsOnce ss).length ((stsOnce ss).map .str) H b cap (((stsOnce ss) ++ List.replicate (ss.length - (stsOnce ss).length) []).map .str ++ cs.drop n) := by
  have hle := stsOnce_le ss
  have h := turn_strs (ss' := stsOnce ss ++ List.replicate (ss.length - (stsOnce ss).length) []) hok (by simp; omega)
  have h2 := h.le
  refine ⟨by simp, h.out, by omega, h.max, h.room, ?_⟩
  rw [flat_strs, Nat.mul_one, List.map_append, List.append_assoc, List.take_left' (by simp)]
set_option maxRecDepth 100000 in
theorem Compact_con (ss : List (List UInt8)) {b n cap : Nat} {cs : List AV} {H : Heap} {Q : AV → Heap → Prop} (hok : TurnOk 1 n (ss.map .str) H b cap cs) (hn : n ≤ 1000000) (hq : ∀ cs', TurnOk 1 (stsOnce ss).length ((stsOnce ss).map .str) H b cap cs' → Q (hs b (stsOnce ss).length cap) ((b, .cells cs') :: H)) : Con Tryz.prog 125 [hs b n cap] ((b, .cells cs) :: H) Q := by
  intro M w vs _ hI hargs
  simp only [repT] at hargs
  obtain ⟨v, _, rfl, hv, rfl⟩ := hargs
  unfold hs at hv
  simp only [rep] at hv
  obtain ⟨rfl, _⟩ := hv
  obtain ⟨h1, h2, h3, h4, h5⟩ := row_strs hok hI
  have hle := stsOnce_le ss
  have hcall := Any.slices_Compact_string Tryz.l194 b 0 cap ss w h4 (by omega) (by have := hok.le; omega)
  rw [h1] at hcall
  rw [ent Tryz.func125 (by kernel_rfl) rfl]
  refine Calls.mono hcall ?_
  rintro e w' ⟨rfl, k, rfl⟩
  have hl : (stsOnce ss ++ List.replicate (n - (stsOnce ss).length) []).length = n := by simp; omega
  obtain ⟨e1, e2⟩ := h5 (stsOnce ss ++ List.replicate (n - (stsOnce ss).length) []) k #[] hl fun s hs => by
    rcases List.mem_append.1 hs with hs | hs
    · exact h2 s (stsOnce_mem hs)
    · rw [(List.mem_replicate.1 hs).2]; simp
  rw [grow_empty] at e1 e2
  have ht := turn_once hok h1
  rw [h1] at ht
  refine ⟨_, rfl, M, hs b (stsOnce ss).length cap, _, e1.mono (fun q hq => by simp only [List.mem_singleton] at hq; subst hq; simp [Heap.keys]), e2, fun q hq => Or.inl hq, ?_, hq _ ht⟩
  unfold hs
  simp only [rep]
  exact ⟨rfl, rfl⟩
set_option maxRecDepth 100000 in
theorem Compact_nil (o : Own) (s : Nat) {H : Heap} {Q : AV → Heap → Prop} (hq : Q (.sl .no s []) H) : Con Tryz.prog 125 [.sl o s []] H Q := by
  intro M w vs _ hI hargs
  simp only [repT] at hargs
  obtain ⟨v, _, rfl, hv, rfl⟩ := hargs
  have hv' := Le.own o s [] M v hv
  simp only [rep] at hv
  obtain ⟨a, cap, rfl, _⟩ := hv
  rw [ent Tryz.func125 (by kernel_rfl) rfl]
  refine Calls.mono (Any.slices_Compact_string_empty Tryz.l194 a cap w) ?_
  rintro e w' ⟨rfl, rfl⟩
  exact ⟨_, rfl, M, .sl .no s [], H, Evo.refl _ _ _, hI, fun q hq => Or.inl hq, hv', hq⟩
end Go.Proofs.YtnffnfkpicnhdaaGreatDoor

/-
  slices.AppendSeq, Collect, Sorted over texts; name.Sort; term.Consts. No condition.
-/
namespace Go.Proofs.YtnffnfkpicnhdaaGreatDoor
open Go.RowKit Go.Sort

theorem stsSort_nil : stsSort [] = [] := by simp [stsSort]
theorem TurnOk.drop {size n : Nat} {xs : List AV} {H H' : Heap} {b cap : Nat} {cs : List AV} (h : TurnOk size n xs H b cap cs) (hs : H'.Sublist H) : TurnOk size n xs H' b cap cs :=
  ⟨h.len, fun hb => h.out ((hs.map _).subset hb), h.le, h.max, h.room, h.here⟩
theorem MvOk.drop {size n : Nat} {xs : List AV} {H H' : Heap} {m : Mv} (h : MvOk size n xs H m) (hs : H'.Sublist H) : MvOk size n xs H' m := by
  cases m with
  | none => exact h
  | some p => exact ⟨h.1, h.2.drop hs⟩
theorem mvH_sub {m : Mv} {H H' : Heap} (hs : H'.Sublist H) : (mvH m H').Sublist (mvH m H) := by
  cases m with
  | none => exact hs
  | some p => exact hs.cons_cons _
set_option maxRecDepth 100000 in
set_option maxHeartbeats 1000000 in
theorem AppendSeq_con {f : FuncId} {caps : List AV} {ss : List (List UInt8)} (he : ∀ args w, (callFunc f args).run Tryz.prog w = .ok (.enter f args) w) (hit : Iter Tryz.prog f caps (stsEach ss)) (hl : ss.length ≤ 1000000) (H : Heap) (Q : AV → Heap → Prop)
    (hq : ∀ m : Mv, MvOk 1 ss.length (ss.map .str) H m → Q (mvV 1 m ss.length) (mvH m H)) : Con Tryz.prog 176 [.sl .full 0 [], .fn (.func f) caps] H Q := by
  refine con_of_sem tab_ok Tryz.func176 rfl (ent Tryz.func176 (by kernel_rfl) rfl) (by kernel_rfl) ?_
  intro hw hn
  clear hw hn
  refine sem_seq (esc := [2, 11].contains) tab_ok mixed ?_
  intro b hb
  refine sem_then ?_
  refine sem_seq (esc := [2, 11].contains) tab_ok mixed ?_
  refine sem_block ?_
  refine sem_range (esc := [2, 11].contains) (X := Mv × Nat) (Y := Unit) tab_ok mixed he hit [(2, .g (.ptr b 0)), (6, .g (.fn (.func f) caps))] (fun p => mvH p.1 ((b, .cells [mvS p.1 p.2]) :: H))
    (fun i p => p.2 = i ∧ MvOk 1 i ((ss.take i).map .str) ((b, .cells [mvS p.1 i]) :: H) p.1) (fun _ => H) (fun _ _ => False) rfl (fun args ha => by obtain ⟨s, _, rfl⟩ := List.mem_map.1 ha; rfl) ⟨(none, 0), ⟨rfl, rfl, rfl⟩, ?_⟩ ?_ ?_ nofun
  · exact ⟨⟨Le.refl _, Le.refl _, trivial⟩, HLe.refl _⟩
  · rintro j args ⟨m, k⟩ hj ⟨hk, hz⟩ _ _
    simp only at hk hz
    subst hk
    have hlt : k < ss.length := by
      have := (List.getElem?_eq_some_iff.1 hj).1
      rwa [stsEach, List.length_map] at this
    obtain rfl : [.str ss[k]] = args := by
      rw [stsEach, List.getElem?_map, List.getElem?_eq_getElem hlt] at hj
      exact Option.some.inj hj
    have hsn : (ss.take k).map AV.str ++ [.str ss[k]] = (ss.take (k + 1)).map AV.str := by rw [List.take_succ_eq_append_getElem hlt, List.map_append]; rfl
    cases m with
    | none =>
      obtain rfl : k = 0 := hz.1
      refine ⟨_, List.mem_cons_self, ?_⟩
      refine ⟨(by show (0 + 1) * (16 + 1) ≤ 140737488355328; decide), by simp, rfl, fun c cap rest k1 k2 k3 k4 => ?_⟩
      refine ⟨_, _, .there .here, Nat.le_refl _, ?_⟩
      have hok : MvOk 1 1 ((ss.take (0 + 1)).map .str) ((b, .cells [mvS (some (c, cap, ([] ++ [AV.str ss[0]]).flatMap AV.cells ++ rest)) 1]) :: H) (some (c, cap, ([] ++ [AV.str ss[0]]).flatMap AV.cells ++ rest)) := by
        rw [← hsn]
        exact ⟨by decide, TurnOk.first rfl k1 k2 k3 k4⟩
      exact ⟨(some (c, cap, ([] ++ [AV.str ss[0]]).flatMap AV.cells ++ rest), 1), ⟨rfl, hok⟩, HLe.refl _⟩
    | some p =>
      obtain ⟨b0, cap0, cs0⟩ := p
      obtain ⟨hj0, htk⟩ := hz
      refine ⟨_, List.mem_cons_of_mem _ List.mem_cons_self, ?_⟩
      refine ⟨?_, by simp, cs0, _, Heap.Rem.here, htk.le, htk.max, htk.room, fun c cap rest k1 k2 k3 k4 => ?_⟩
      · simp only [List.length_cons, List.length_nil]
        show _ * (16 + 1) ≤ _
        omega
      refine ⟨_, _, .there .here, Nat.le_refl _, ?_⟩
      have hok : MvOk 1 (k + 1) ((ss.take (k + 1)).map .str) ((b, .cells [mvS (some (c, cap, cs0.take (k * 1) ++ [AV.str ss[k]].flatMap AV.cells ++ rest)) (k + 1)]) :: H) (some (c, cap, cs0.take (k * 1) ++ [AV.str ss[k]].flatMap AV.cells ++ rest)) := by
        rw [← hsn]
        have := htk.next (y := .str ss[k]) (wide_sts _) rfl k1 k2 k3 k4
        exact ⟨by omega, this.len, this.out, this.le, this.max, this.room, this.here⟩
      exact ⟨(some (c, cap, cs0.take (k * 1) ++ [AV.str ss[k]].flatMap AV.cells ++ rest), k + 1), ⟨rfl, hok⟩, HLe.refl _⟩
  · rintro ⟨m, k⟩ ⟨hk, hz⟩
    simp only at hk hz
    subst hk
    have hln : (stsEach ss).length = ss.length := List.length_map _
    have hmem : (b, AObj.cells [mvS m (stsEach ss).length]) ∈ mvH m ((b, AObj.cells [mvS m (stsEach ss).length]) :: H) := mvH_mem List.mem_cons_self
    rw [hln] at hz
    rw [List.take_length] at hz
    refine sem_of (esc := [2, 11].contains) tab_ok mixed ?_
    refine ⟨_, hmem, ?_⟩
    refine ⟨_, _, ?_, mvH_sub (List.sublist_cons_self _ _), hq m (hz.drop (List.sublist_cons_self _ _))⟩
    rw [hln]
    exact mvS_le 1 m _
set_option maxRecDepth 100000 in
theorem Collect_con {f : FuncId} {caps : List AV} {ss : List (List UInt8)} (he : ∀ args w, (callFunc f args).run Tryz.prog w = .ok (.enter f args) w) (hit : Iter Tryz.prog f caps (stsEach ss)) (hl : ss.length ≤ 1000000) (H : Heap) (Q : AV → Heap → Prop)
    (hq : ∀ m : Mv, MvOk 1 ss.length (ss.map .str) H m → Q (mvV 1 m ss.length) (mvH m H)) : Con Tryz.prog 153 [.fn (.func f) caps] H Q := by
  refine con_of_awp (esc := fun _ => false) tab_ok mixed Tryz.func153 rfl (ent Tryz.func153 (by kernel_rfl) rfl) (by kernel_rfl) ?_
  intro hw hn
  refine ⟨_, LeL.refl _, AppendSeq_con he hit hl _ _ fun m hm => ?_⟩
  intro hz1 hz2; clear hz1 hz2
  exact ⟨_, _, Le.refl _, List.Sublist.refl _, hq m hm⟩
set_option maxRecDepth 100000 in
theorem Sorted_con {f : FuncId} {caps : List AV} {ss : List (List UInt8)} (he : ∀ args w, (callFunc f args).run Tryz.prog w = .ok (.enter f args) w) (hit : Iter Tryz.prog f caps (stsEach ss)) (hl : ss.length ≤ 1000000) (H : Heap) (Q : AV → Heap → Prop)
    (hq : ∀ m : Mv, MvOk 1 ss.length ((stsSort ss).map .str) H m → Q (mvV 1 m ss.length) (mvH m H)) : Con Tryz.prog 126 [.fn (.func f) caps] H Q := by
  refine con_of_awp (esc := fun _ => false) tab_ok mixed Tryz.func126 rfl (ent Tryz.func126 (by kernel_rfl) rfl) (by kernel_rfl) ?_
  intro hw hn
  refine ⟨_, LeL.refl _, Collect_con he hit hl _ _ fun m hm => ?_⟩
  intro hz1 hz2; clear hz1 hz2
  cases m with
  | none =>
    refine ⟨_, LeL.refl _, Sort_nil _ _ ?_⟩
    intro hz1 hz2; clear hz1 hz2
    have h0 : ss = [] := by have := hm.2; simpa using this
    subst h0
    exact ⟨_, _, Le.refl _, List.Sublist.refl _, hq none ⟨rfl, by rw [stsSort_nil]; rfl⟩⟩
  | some p =>
    obtain ⟨b, cap, cs⟩ := p
    refine ⟨_, LeL.refl _, Sort_con ss hm.2 hl fun cs' hok => ?_⟩
    intro hz1 hz2; clear hz1 hz2
    exact ⟨_, _, Le.refl _, List.Sublist.refl _, hq (some (b, cap, cs')) ⟨hm.1, hok⟩⟩
/-- texts in order, each once -/
def nmSort (ss : List (List UInt8)) : List (List UInt8) := stsOnce (stsSort ss)
theorem nmSort_nil : nmSort [] = [] := by rw [nmSort, stsSort_nil]; rfl
set_option maxRecDepth 100000 in
theorem nameSort_con (o : Own) (ss : List (List UInt8)) (hl : ss.length ≤ 1000000) : Ans Tryz.prog 94 [.sl o 1 (ss.map .str)] (stsX (nmSort ss)) := by
  intro H Q hq
  cases ss with
  | nil =>
    rw [nmSort_nil] at hq
    refine con_of_awp (esc := fun _ => false) tab_ok mixed Tryz.func94 rfl (ent Tryz.func94 (by kernel_rfl) rfl) (by kernel_rfl) ?_
    intro hw hn
    refine ⟨_, LeL.refl _, Values_con _ _ _ _ ?_⟩
    intro hz1 hz2; clear hz1 hz2
    refine ⟨_, LeL.refl _, Sorted_con (ent Tryz.func155 (by kernel_rfl) rfl) (Values_iter o []) (by simp) _ _ fun m hm => ?_⟩
    intro hz1 hz2; clear hz1 hz2
    cases m with
    | none =>
      refine ⟨_, LeL.refl _, Compact_nil _ _ ?_⟩
      intro hz1 hz2; clear hz1 hz2
      exact ⟨_, _, Le.refl _, List.Sublist.refl _, hq⟩
    | some p => exact absurd rfl hm.1
  | cons s0 ss0 =>
    obtain ⟨ss, hss⟩ : ∃ ss, ss = s0 :: ss0 := ⟨_, rfl⟩
    rw [← hss] at hl hq ⊢
    have hne : ss.length ≠ 0 := by rw [hss]; simp
    refine Con.ice ?_
    refine con_of_awp (esc := fun _ => false) tab_ok mixed Tryz.func94 rfl (ent Tryz.func94 (by kernel_rfl) rfl) (by kernel_rfl) ?_
    intro hw hn
    refine ⟨_, LeL.refl _, Values_con _ _ _ _ ?_⟩
    intro hz1 hz2; clear hz1 hz2
    refine ⟨_, LeL.refl _, Sorted_con (ent Tryz.func155 (by kernel_rfl) rfl) (Values_iter o ss) hl _ _ fun m hm => ?_⟩
    intro hz1 hz2; clear hz1 hz2
    cases m with
    | none => exact absurd hm.1 hne
    | some p =>
      obtain ⟨b, cap, cs⟩ := p
      refine ⟨_, LeL.refl _, Compact_con (stsSort ss) hm.2 hl fun cs' hok => ?_⟩
      intro hz1 hz2; clear hz1 hz2
      exact ⟨_, _, Le.refl _, List.Sublist.refl _, b, cs', H, _, .here, fun M h => hok.see (wide_sts _) h, hq⟩

/-! term.Consts -/
def cnames (ts : List Tm) : List (List UInt8) := (ts.filter fun t => decide (t.kind = 3)).map Tm.name
theorem cnames_snoc {ts : List Tm} {j : Nat} (h : j < ts.length) : cnames (ts.take (j + 1)) = cnames (ts.take j) ++ if ts[j].kind = 3 then [ts[j].name] else [] := by
  rw [List.take_succ_eq_append_getElem h, cnames, List.filter_append, List.map_append]
  congr 1
  by_cases hk : ts[j].kind = 3
  · rw [if_pos hk]; simp [hk]
  · rw [if_neg hk]; simp [hk]
theorem cnames_len (ts : List Tm) : (cnames ts).length ≤ ts.length := by
  rw [cnames, List.length_map]
  exact List.length_filter_le _ _
/-- the names of a term's constants -/
def tmConsts (t : Tm) : List (List UInt8) := if tmRight 4 1125899906842624 t = true then nmSort (cnames t.subs) else []
set_option maxRecDepth 100000 in
set_option maxHeartbeats 1000000 in
theorem Consts_con (t : Tm) : Ans Tryz.prog 76 [tmX t] (stsX (tmConsts t)) := by
  intro H Q hq
  refine con_of_sem tab_ok Tryz.func76 rfl (ent Tryz.func76 (by kernel_rfl) rfl) (by kernel_rfl) ?_
  intro hw hn
  clear hw hn
  refine sem_seq (esc := [3].contains) tab_ok mixed ?_
  by_cases h1 : tmRight 4 1125899906842624 t = true
  rotate_left
  · refine sem_of (esc := [3].contains) tab_ok mixed ?_
    refine ⟨_, LeL.refl _, (tmRight_con 4 1125899906842624 t).no h1 _ _ ?_⟩
    intro hz1 hz2; clear hz1 hz2
    rw [tmConsts, if_neg h1] at hq
    exact ⟨_, H, Le.nil _ _, List.Sublist.refl _, hq⟩
  rw [tmConsts, if_pos h1] at hq
  have hnd : t.nodes ≤ 2000 := by
    unfold tmRight at h1
    simp only [Bool.and_eq_true, decide_eq_true_eq] at h1
    exact h1.1.2
  have hsl := subs_len t
  refine sem_seq (esc := [3].contains) tab_ok mixed ?_
  refine ⟨_, LeL.refl _, (tmRight_con 4 1125899906842624 t).yes h1 _ _ ?_⟩
  intro hz1 hz2; clear hz1 hz2
  refine sem_seq (esc := [3].contains) tab_ok mixed ?_
  intro b hb
  refine sem_then ?_
  refine sem_seq (esc := [3].contains) tab_ok mixed ?_
  refine ⟨_, LeL.refl _, walk_con t _ _ ?_⟩
  intro hz1 hz2; clear hz1 hz2
  refine sem_block ?_
  refine sem_range (esc := [3].contains) (X := Option Cap × Nat) (Y := Unit) tab_ok mixed (ent Tryz.func123 (by kernel_rfl) rfl) (walk_iter t) [(3, .g (.ptr b 0)), (9, .g (.fn (.func 123) [.ip (tmX t).cells]))] (fun p => bufH p.1 ((b, .cells [.sl (ownQ p.1) 1 ((cnames (t.subs.take p.2)).map .str)]) :: H))
    (fun i p => p.2 = i) (fun _ => H) (fun _ _ => False) rfl (fun args ha => by obtain ⟨s, _, rfl⟩ := List.mem_map.1 ha; rfl) ⟨(none, 0), rfl, ?_⟩ ?_ ?_ nofun
  · exact ⟨⟨Le.refl _, Le.refl _, trivial⟩, HLe.here ⟨Le.nil' _, trivial⟩ (HLe.refl _)⟩
  · rintro j args ⟨q, k⟩ hj hk _ _
    simp only at hk
    subst hk
    have hlt : k < t.subs.length := by
      have := (List.getElem?_eq_some_iff.1 hj).1
      rwa [tmWalk, List.length_map] at this
    obtain rfl : [tmX t.subs[k]] = args := by
      rw [tmWalk, List.getElem?_map, List.getElem?_eq_getElem hlt] at hj
      exact Option.some.inj hj
    have hcn := cnames_snoc hlt
    have hcl := cnames_len (t.subs.take k)
    have htk : (t.subs.take k).length ≤ 2000 := by rw [List.length_take]; omega
    have hmem : (b, AObj.cells [AV.sl (ownQ q) 1 ((cnames (t.subs.take k)).map .str)]) ∈ bufH q ((b, .cells [.sl (ownQ q) 1 ((cnames (t.subs.take k)).map .str)]) :: H) := by
      cases q with
      | none => exact List.mem_cons_self
      | some c => exact List.mem_cons_of_mem _ List.mem_cons_self
    refine ifB_dec (fun h2 => ?_) (fun h2 => ?_)
    · rw [if_pos h2] at hcn
      refine ⟨_, hmem, ?_⟩
      refine ⟨?_, ?_⟩
      · simp only [List.length_map, List.length_cons, List.length_nil]
        try simp only [List.length_take]
        show _ * (16 + 1) ≤ _
        omega
      refine own_of (q := q) (H0 := ((b, .cells [.sl (ownQ q) 1 ((cnames (t.subs.take k)).map .str)]) :: H)) ?_ ?_ ?_ (fun c hc => ?_)
      · exact rfl
      · exact rfl
      · exact fun _ h => h
      refine ⟨_, _, .there .here, Nat.le_refl _, ?_⟩
      refine ⟨(some c, k + 1), rfl, HLe.eq (Eq.symm ?_)⟩
      show (c.b, AObj.cap c) :: (b, AObj.cells [AV.sl (.own c) 1 ((cnames (t.subs.take (k + 1))).map .str)]) :: H = _
      rw [hcn, List.map_append]
      rfl
    · rw [if_neg h2, List.append_nil] at hcn
      refine ⟨(q, k + 1), rfl, HLe.eq (Eq.symm ?_)⟩
      show bufH q ((b, AObj.cells [AV.sl (ownQ q) 1 ((cnames (t.subs.take (k + 1))).map .str)]) :: H) = _
      rw [hcn]
      rfl
  · rintro ⟨q, k⟩ hk
    simp only at hk
    subst hk
    have hln : (tmWalk t).length = t.subs.length := List.length_map _
    have hcl := cnames_len t.subs
    have hmem : (b, AObj.cells [AV.sl (ownQ q) 1 ((cnames (t.subs.take (tmWalk t).length)).map .str)]) ∈ bufH q ((b, .cells [.sl (ownQ q) 1 ((cnames (t.subs.take (tmWalk t).length)).map .str)]) :: H) := by
      cases q with
      | none => exact List.mem_cons_self
      | some c => exact List.mem_cons_of_mem _ List.mem_cons_self
    refine sem_of (esc := [3].contains) tab_ok mixed ?_
    refine ⟨_, hmem, ?_⟩
    refine ⟨[.sl (ownQ q) 1 ((cnames t.subs).map .str)], ⟨le_of_eq (by rw [hln, List.take_length]), trivial⟩, nameSort_con _ _ (by omega) _ _ ?_⟩
    intro hz1 hz2; clear hz1 hz2
    exact ⟨_, _, Le.refl _, (List.sublist_cons_self _ _).trans (bufH_sub q _), hq⟩
end Go.Proofs.YtnffnfkpicnhdaaGreatDoor
