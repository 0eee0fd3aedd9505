/-
  Texts put together: Lays2, S1, S2, S3, S4, S5, S6, S7, S8, S9, S10. No condition.
-/
import Derived.Test.YtnjnfegafmhgnaaGreatDoorM6
import Derived.Shelf.Sort.Plain
import Derived.Shelf.Slices.CompactS
import Derived.Shelf.Slices.In.SortNone
import Derived.Ground.NamesProg
import Derived.Test.YtnjnfegafmhgnaaGreatDoorM15
import Derived.Test.YtnjnfegafmhgnaaGreatDoorM12
import Derived.Lib.RowBridge
/-
  DERIVED: THE SHELF's CONTRACTS AT THIS DUMP, IN PLAIN WORDS (tools/lay-plain.mjs out of 'YtnjnfegafmhgnaaGreatDoorLays2.lean', which tools/lay-shelf.mjs wrote): THE SAME DECLARATIONS UNDER THE SAME NAMES: 'import', 'namespace', 'open', 'def', 'theorem' AND NOTHING ELSE: no command of the shelf's: FOR A HAND-IN. Each laying: the table of numbers ('.._ren') and one theorem, a field a fact of the dump's own or the kernel's comparison; each contract: ONE APPLICATION.
-/
namespace Go.Proofs.YtnjnfegafmhgnaaGreatDoor
open Go.Shelf
def Tryz.l190_ren : Go.Shelf.Ren := ⟨fun | 190 => 196 | 125 => 204 | 258 => 203 | 128 => 218 | 129 => 219 | 302 => 209 | 303 => 210 | 304 => 211 | 305 => 212 | 306 => 213 | 307 => 214 | 308 => 215 | 309 => 216 | 310 => 217 | 333 => 222 | 329 => 223 | 330 => 224 | 334 => 225 | 335 => 226 | 336 => 227 | 344 => 228 | n => n, fun | 31 => 26 | 9 => 9 | 3 => 3 | 46 => 180 | 0 => 0 | 51 => 204 | 53 => 57 | 4 => 4 | 183 => 196 | 182 => 195 | 131 => 201 | 5 => 5 | 218 => 208 | 222 => 125 | 228 => 213 | 229 => 181 | n => n, fun | n => n⟩
theorem Tryz.l190 : Go.Proofs.Lays.n190 Tryz.prog Tryz.l190_ren := {
  mixed := by kernel_rfl
  f125 := Tryz.func204.trans (congrArg some (by kernel_rfl))
  f128 := Tryz.func218.trans (congrArg some (by kernel_rfl))
  f129 := Tryz.func219.trans (congrArg some (by kernel_rfl))
  f190 := Tryz.func196.trans (congrArg some (by kernel_rfl))
  f258 := Tryz.func203.trans (congrArg some (by kernel_rfl))
  f302 := Tryz.func209.trans (congrArg some (by kernel_rfl))
  f303 := Tryz.func210.trans (congrArg some (by kernel_rfl))
  f304 := Tryz.func211.trans (congrArg some (by kernel_rfl))
  f305 := Tryz.func212.trans (congrArg some (by kernel_rfl))
  f306 := Tryz.func213.trans (congrArg some (by kernel_rfl))
  f307 := Tryz.func214.trans (congrArg some (by kernel_rfl))
  f308 := Tryz.func215.trans (congrArg some (by kernel_rfl))
  f309 := Tryz.func216.trans (congrArg some (by kernel_rfl))
  f310 := Tryz.func217.trans (congrArg some (by kernel_rfl))
  f329 := Tryz.func223.trans (congrArg some (by kernel_rfl))
  f330 := Tryz.func224.trans (congrArg some (by kernel_rfl))
  f333 := Tryz.func222.trans (congrArg some (by kernel_rfl))
  f334 := Tryz.func225.trans (congrArg some (by kernel_rfl))
  f335 := Tryz.func226.trans (congrArg some (by kernel_rfl))
  f336 := Tryz.func227.trans (congrArg some (by kernel_rfl))
  f344 := Tryz.func228.trans (congrArg some (by kernel_rfl))
  t0 := Tryz.underlying0
  a0 := Tryz.isAgg0
  z0 := Tryz.sizeOf0
  v0 := Tryz.zeroValue0
  t3 := Tryz.underlying3
  a3 := Tryz.isAgg3
  z3 := Tryz.sizeOf3
  v3 := Tryz.zeroValue3
  t4 := Tryz.underlying4
  a4 := Tryz.isAgg4
  z4 := Tryz.sizeOf4
  v4 := Tryz.zeroValue4
  t5 := Tryz.underlying5
  a5 := Tryz.isAgg5
  z5 := Tryz.sizeOf5
  v5 := Tryz.zeroValue5
  t9 := Tryz.underlying9
  a9 := Tryz.isAgg9
  z9 := Tryz.sizeOf9
  v9 := Tryz.zeroValue9
  t31 := Tryz.underlying26
  a31 := Tryz.isAgg26
  z31 := Tryz.sizeOf26
  v31 := Tryz.zeroValue26
  t46 := Tryz.underlying180
  a46 := Tryz.isAgg180
  z46 := Tryz.sizeOf180
  v46 := Tryz.zeroValue180
  t51 := Tryz.underlying204
  a51 := Tryz.isAgg204
  z51 := Tryz.sizeOf204
  v51 := Tryz.zeroValue204
  t53 := Tryz.underlying57
  a53 := Tryz.isAgg57
  z53 := Tryz.sizeOf57
  v53 := Tryz.zeroValue57
  t131 := Tryz.underlying201
  a131 := Tryz.isAgg201
  z131 := Tryz.sizeOf201
  v131 := Tryz.zeroValue201
  t182 := Tryz.underlying195
  a182 := Tryz.isAgg195
  z182 := Tryz.sizeOf195
  v182 := Tryz.zeroValue195
  t183 := Tryz.underlying196
  a183 := Tryz.isAgg196
  z183 := Tryz.sizeOf196
  v183 := Tryz.zeroValue196
  t218 := Tryz.underlying208
  a218 := Tryz.isAgg208
  z218 := Tryz.sizeOf208
  v218 := Tryz.zeroValue208
  t222 := Tryz.underlying125
  a222 := Tryz.isAgg125
  z222 := Tryz.sizeOf125
  v222 := Tryz.zeroValue125
  t228 := Tryz.underlying213
  a228 := Tryz.isAgg213
  z228 := Tryz.sizeOf213
  v228 := Tryz.zeroValue213
  t229 := Tryz.underlying181
  a229 := Tryz.isAgg181
  z229 := Tryz.sizeOf181
  v229 := Tryz.zeroValue181 }
def Tryz.l194_ren : Go.Shelf.Ren := ⟨fun | 194 => 181 | n => n, fun | 31 => 26 | 9 => 9 | 3 => 3 | 4 => 4 | 0 => 0 | n => n, fun | n => n⟩
theorem Tryz.l194 : Go.Proofs.Lays.n194 Tryz.prog Tryz.l194_ren := {
  mixed := by kernel_rfl
  f194 := Tryz.func181.trans (congrArg some (by kernel_rfl))
  t0 := Tryz.underlying0
  a0 := Tryz.isAgg0
  z0 := Tryz.sizeOf0
  v0 := Tryz.zeroValue0
  t3 := Tryz.underlying3
  a3 := Tryz.isAgg3
  z3 := Tryz.sizeOf3
  v3 := Tryz.zeroValue3
  t4 := Tryz.underlying4
  a4 := Tryz.isAgg4
  z4 := Tryz.sizeOf4
  v4 := Tryz.zeroValue4
  t9 := Tryz.underlying9
  a9 := Tryz.isAgg9
  z9 := Tryz.sizeOf9
  v9 := Tryz.zeroValue9
  t31 := Tryz.underlying26
  a31 := Tryz.isAgg26
  z31 := Tryz.sizeOf26
  v31 := Tryz.zeroValue26 }
end Go.Proofs.YtnjnfegafmhgnaaGreatDoor

/-
  Functions that are ranged over: term's walk, slices.Values, Backward; slices.AppendSeq, Collect. No condition.
-/
namespace Go.Proofs.YtnjnfegafmhgnaaGreatDoor
open Go.RowKit

/-! a term's parts, itself first -/
mutual
def Tm.subs : Tm → List Tm
  | .mk k n nm ls xs => .mk k n nm ls xs :: Tm.subsL xs
def Tm.subsL : List Tm → List Tm
  | [] => []
  | t :: ts => t.subs ++ Tm.subsL ts
end
theorem Tm.subs_eq (t : Tm) : t.subs = t :: Tm.subsL t.args := by cases t; rfl
theorem subsL_append : ∀ a b : List Tm, Tm.subsL (a ++ b) = Tm.subsL a ++ Tm.subsL b
  | [], b => rfl
  | t :: ts, b => by rw [List.cons_append, Tm.subsL, Tm.subsL, subsL_append ts b, List.append_assoc]
theorem subsL_snoc {ts : List Tm} {j : Nat} (h : j < ts.length) : Tm.subsL (ts.take (j + 1)) = Tm.subsL (ts.take j) ++ ts[j].subs := by
  rw [List.take_succ_eq_append_getElem h, subsL_append]
  simp [Tm.subsL]
theorem subsL_at {ts : List Tm} {j i : Nat} {x : Tm} (h : j < ts.length) (hx : ts[j].subs[i]? = some x) : (Tm.subsL ts)[(Tm.subsL (ts.take j)).length + i]? = some x := by
  have e : Tm.subsL ts = Tm.subsL (ts.take j) ++ (ts[j].subs ++ Tm.subsL (ts.drop (j + 1))) := by
    conv => lhs; rw [← List.take_append_drop j ts, List.drop_eq_getElem_cons h]
    rw [subsL_append]
    rfl
  rw [e, List.getElem?_append_right (by omega), Nat.add_sub_cancel_left, List.getElem?_append_left]
  · exact hx
  · exact (List.getElem?_eq_some_iff.1 hx).1
mutual
theorem subs_len : ∀ t : Tm, t.subs.length ≤ t.nodes
  | .mk k n nm ls xs => by
    rw [Tm.subs, Tm.nodes, List.length_cons]
    have := subsL_len xs
    omega
theorem subsL_len : ∀ ts : List Tm, (Tm.subsL ts).length ≤ Tm.nodesL ts
  | [] => Nat.le_refl _
  | t :: ts => by
    rw [Tm.subsL, Tm.nodesL, List.length_append]
    have := subs_len t
    have := subsL_len ts
    omega
end

set_option maxRecDepth 100000 in
theorem visit_con (l : Nat) : ∀ (N : Nat) (t : Tm) (I : Nat → Heap → Prop) (S : Heap → Prop) (H : Heap) (Q : AV → Heap → Prop), t.nodes ≤ N →
    (∀ i x H, t.subs[i]? = some x → I i H → RCon Tryz.prog l [tmX x] H fun r H' => (r = .b true ∧ I (i + 1) H') ∨ (r = .b false ∧ S H')) → I 0 H → (∀ H', I t.subs.length H' → Q (.b true) H') → (∀ H', S H' → Q (.b false) H') →
    Con Tryz.prog 180 [tmX t, .fn (.yield l) []] H Q := by
  intro N
  induction N with
  | zero => intro t I S H Q h; have := t.nodes_pos; omega
  | succ N ih =>
    intro t I S H Q hN hr h0 hq1 hq2
    have hnd := t.nodes_eq
    have hse := t.subs_eq
    have hy := hr 0 t H (by rw [hse]; rfl) h0
    refine con_of_awp (esc := fun _ => false) tab_ok mixed Tryz.func180 rfl (ent Tryz.func180 (by kernel_rfl) rfl) (by kernel_rfl) ?_
    intro hw hn
    have hlena := (hw (tmX t) (by simp)).targs
    clear hw hn
    refine ⟨_, LeL.refl _, RCon.mono hy ?_⟩
    rintro r H1 (⟨rfl, h1⟩ | ⟨rfl, h1⟩)
    rotate_left
    · intro hz1 hz2; clear hz1 hz2
      exact ⟨_, _, Le.refl _, List.Sublist.refl _, hq2 _ h1⟩
    · intro hz1 hz2; clear hz1 hz2
      refine ⟨Nat × Heap, fun p => ⟨[(1, .g (.fn (.yield l) [])), (12, .g (.sl .no 5 (t.args.map tmA))), (13, .g (.i t.args.length)), (14, .g (.i p.1))], [(2, (tmX t).cells)], p.2⟩,
        fun p => p.1 ≤ t.args.length ∧ I (1 + (Tm.subsL (t.args.take p.1)).length) p.2, fun p => t.args.length - p.1, ⟨(0, H1), ⟨Nat.zero_le _, h1⟩, ?_⟩, ?_⟩
      · (constructor <;> repeat' (first | exact trivial | exact ⟨rfl, rfl⟩ | exact ⟨rfl, LeL.refl _⟩ | exact Le.refl _ | exact List.Sublist.refl _ | (show Le (AV.i _) (AV.i _); rw [List.length_map]; exact Le.refl _) | refine And.intro ?_ ?_))
      · rintro ⟨j, H2⟩ ⟨hj, h2⟩
        simp only at hj h2
        refine ifB_dec (fun h3 => ?_) (fun h3 => ?_)
        · simp only [List.length_map] at h3
          have hlt : j < t.args.length := by omega
          have hmem := Tm.nodesL_mem (List.getElem_mem hlt)
          refine ⟨j, rfl, _, tmAt' hlt, ?_⟩
          refine ⟨_, LeL.refl _, ih t.args[j] (fun i => I (1 + (Tm.subsL (t.args.take j)).length + i)) S H2 _ (by omega) (fun i x H hx hI => ?_) h2 (fun H3 h4 => ?_) (fun H3 h4 => ?_)⟩
          · refine hr (1 + (Tm.subsL (t.args.take j)).length + i) x H ?_ hI
            rw [hse, Nat.add_assoc, Nat.add_comm 1, List.getElem?_cons_succ]
            exact subsL_at hlt hx
          · intro hz1 hz2; clear hz1 hz2
            refine ⟨in64_of (by first | omega | (dsimp only; omega)) (by first | omega | (dsimp only; omega)), ?_⟩
            refine ⟨(j + 1, H3), ⟨by simp only; omega, ?_⟩, by (try dsimp only); omega, ?_⟩
            · simp only
              rw [subsL_snoc hlt, List.length_append, ← Nat.add_assoc]
              exact h4
            · (constructor <;> repeat' (first | exact trivial | exact ⟨rfl, rfl⟩ | exact ⟨rfl, LeL.refl _⟩ | exact Le.refl _ | exact List.Sublist.refl _ | (show Le (AV.i _) (AV.i _); rw [List.length_map]; exact Le.refl _) | refine And.intro ?_ ?_))
          · intro hz1 hz2; clear hz1 hz2
            exact ⟨_, _, Le.refl _, List.Sublist.refl _, hq2 _ h4⟩
        · simp only [List.length_map] at h3
          have hj' : j = t.args.length := by omega
          refine ⟨_, _, Le.refl _, List.Sublist.refl _, hq1 _ ?_⟩
          rw [hse, List.length_cons, Nat.add_comm]
          rw [hj', List.take_length] at h2
          exact h2

/-- what a term's walk hands on -/
def tmWalk (t : Tm) : List (List AV) := t.subs.map fun x => [tmX x]
set_option maxRecDepth 100000 in
theorem walk_con (t : Tm) : Ans Tryz.prog 153 [tmX t] (.fn (.func 179) [.ip (tmX t).cells]) := by
  intro H Q hq
  refine Con.ice ?_
  refine con_of_awp (esc := ([1].contains ·)) tab_ok mixed Tryz.func153 rfl (ent Tryz.func153 (by kernel_rfl) rfl) (by kernel_rfl) ?_
  intro hw hn b hb
  exact ⟨_, _, Le.refl _, List.Sublist.refl _, b, (tmX t).cells, H, .fn (.func 179) [.ip (tmX t).cells], .here, fun M h => LeM.fn ⟨ptr_ice h, trivial⟩, hq⟩
set_option maxRecDepth 100000 in
theorem walk_iter (t : Tm) : Iter Tryz.prog 179 [.ip (tmX t).cells] (tmWalk t) := by
  intro l I S hr H h0
  refine con_of_awp (esc := fun _ => false) tab_ok mixed Tryz.func179 rfl (ent Tryz.func179 (by kernel_rfl) rfl) (by kernel_rfl) ?_
  intro hw hn
  refine ⟨_, LeL.refl _, visit_con l t.nodes t I S H _ (Nat.le_refl _) (fun i x H hx hI => ?_) h0 (fun H' h => ?_) (fun H' h => ?_)⟩
  · exact hr i [tmX x] H (by rw [tmWalk, List.getElem?_map, hx]; rfl) hI
  · intro hz1 hz2; clear hz1 hz2
    exact ⟨_, _, Le.refl _, List.Sublist.refl _, Or.inl (by rw [tmWalk, List.length_map]; exact h)⟩
  · intro hz1 hz2; clear hz1 hz2
    exact ⟨_, _, Le.refl _, List.Sublist.refl _, Or.inr h⟩

/-! slices.Values -/
set_option maxRecDepth 100000 in
theorem Values_con (o : Own) (ss : List (List UInt8)) : Ans Tryz.prog 183 [.sl o 1 (ss.map .str)] (.fn (.func 197) [.ip [.sl o 1 (ss.map .str)]]) := by
  intro H Q hq
  refine Con.ice ?_
  refine con_of_awp (esc := ([1].contains ·)) tab_ok mixed Tryz.func183 rfl (ent Tryz.func183 (by kernel_rfl) rfl) (by kernel_rfl) ?_
  intro hw hn b hb
  exact ⟨_, _, Le.refl _, List.Sublist.refl _, b, [.sl o 1 (ss.map .str)], H, .fn (.func 197) [.ip [.sl o 1 (ss.map .str)]], .here, fun M h => LeM.fn ⟨ptr_ice h, trivial⟩, hq⟩
def stsEach (ss : List (List UInt8)) : List (List AV) := ss.map fun s => [.str s]
set_option maxRecDepth 100000 in
theorem Values_iter (o : Own) (ss : List (List UInt8)) : Iter Tryz.prog 197 [.ip [.sl o 1 (ss.map .str)]] (stsEach ss) := by
  intro l I S hr H h0
  refine con_of_awp (esc := fun _ => false) tab_ok mixed Tryz.func197 rfl (ent Tryz.func197 (by kernel_rfl) rfl) (by kernel_rfl) ?_
  intro hw hn
  have hlen : ss.length ≤ 9223372036854775807 := by
    have := Wf.len ((hw (.ip [.sl o 1 (ss.map .str)]) (by simp)).ptr (x := .sl o 1 (ss.map .str)) (by simp))
    simpa using this
  clear hw hn
  refine ⟨Nat × Heap, fun p => ⟨[(0, .g (.fn (.yield l) [])), (5, .g (.sl o 1 (ss.map .str))), (6, .g (.i ss.length)), (7, .g (.i p.1))], [], p.2⟩, fun p => p.1 ≤ ss.length ∧ I p.1 p.2, fun p => ss.length - p.1, ⟨(0, H), ⟨Nat.zero_le _, h0⟩, ?_⟩, ?_⟩
  · (constructor <;> repeat' (first | exact trivial | exact ⟨rfl, rfl⟩ | exact ⟨rfl, LeL.refl _⟩ | exact Le.refl _ | exact List.Sublist.refl _ | (show Le (AV.i _) (AV.i _); rw [List.length_map]; exact Le.refl _) | refine And.intro ?_ ?_))
  · rintro ⟨j, H1⟩ ⟨hj, h1⟩
    simp only at hj h1
    refine ifB_dec (fun h3 => ?_) (fun h3 => ?_)
    · simp only at h3
      have hlt : j < ss.length := by omega
      refine ⟨j, rfl, _, stAt hlt, ?_⟩
      refine ⟨_, LeL.refl _, RCon.mono (hr j [.str ss[j]] H1 (by simp [stsEach, hlt]) h1) ?_⟩
      rintro r H2 (⟨rfl, h2⟩ | ⟨rfl, h2⟩)
      · intro hz1 hz2; clear hz1 hz2
        refine ⟨in64_of (by first | omega | (dsimp only; omega)) (by first | omega | (dsimp only; omega)), ?_⟩
        refine ⟨(j + 1, H2), ⟨by simp only; omega, h2⟩, by (try dsimp only); omega, ?_⟩
        (constructor <;> repeat' (first | exact trivial | exact ⟨rfl, rfl⟩ | exact ⟨rfl, LeL.refl _⟩ | exact Le.refl _ | exact List.Sublist.refl _ | (show Le (AV.i _) (AV.i _); rw [List.length_map]; exact Le.refl _) | refine And.intro ?_ ?_))
      · intro hz1 hz2; clear hz1 hz2
        exact ⟨_, _, Le.refl _, List.Sublist.refl _, Or.inr h2⟩
    · simp only at h3
      have hj' : j = ss.length := by omega
      refine ⟨_, _, Le.refl _, List.Sublist.refl _, Or.inl ?_⟩
      rw [stsEach, List.length_map, ← hj']
      exact h1

/-! slices.Backward over terms -/
def backEach (ts : List Tm) : List (List AV) := (List.range ts.length).map fun i => [.i ((ts.length - 1 - i : Nat) : Int), tmX (ts.getD (ts.length - 1 - i) tm0)]
set_option maxRecDepth 100000 in
theorem Backward_con (o : Own) (ts : List Tm) : Ans Tryz.prog 160 [.sl o 5 (ts.map tmA)] (.fn (.func 185) [.ip [.sl o 5 (ts.map tmA)]]) := by
  intro H Q hq
  refine Con.ice ?_
  refine con_of_awp (esc := ([1].contains ·)) tab_ok mixed Tryz.func160 rfl (ent Tryz.func160 (by kernel_rfl) rfl) (by kernel_rfl) ?_
  intro hw hn b hb
  exact ⟨_, _, Le.refl _, List.Sublist.refl _, b, [.sl o 5 (ts.map tmA)], H, .fn (.func 185) [.ip [.sl o 5 (ts.map tmA)]], .here, fun M h => LeM.fn ⟨ptr_ice h, trivial⟩, hq⟩
set_option maxRecDepth 100000 in
theorem Backward_iter (o : Own) (ts : List Tm) : Iter Tryz.prog 185 [.ip [.sl o 5 (ts.map tmA)]] (backEach ts) := by
  intro l I S hr H h0
  refine con_of_awp (esc := fun _ => false) tab_ok mixed Tryz.func185 rfl (ent Tryz.func185 (by kernel_rfl) rfl) (by kernel_rfl) ?_
  intro hw hn
  have hlen : ts.length ≤ 9223372036854775807 := by
    have := Wf.len ((hw (.ip [.sl o 5 (ts.map tmA)]) (by simp)).ptr (x := .sl o 5 (ts.map tmA)) (by simp))
    simpa using this
  have hll : (ts.map tmA).length = ts.length := List.length_map _
  clear hw hn
  refine ⟨by rw [hll]; exact in64_of (by omega) (by omega), ?_⟩
  refine ⟨Nat × Heap, fun p => ⟨[(0, .g (.fn (.yield l) [])), (1, .g (.ip [.sl o 5 (ts.map tmA)])), (3, .g (.i ((ts.length : Int) - 1 - p.1)))], [], p.2⟩, fun p => p.1 ≤ ts.length ∧ I p.1 p.2, fun p => ts.length - p.1, ⟨(0, H), ⟨Nat.zero_le _, h0⟩, ?_⟩, ?_⟩
  · refine ⟨⟨Le.refl _, Le.refl _, le_of_eq ?_, trivial⟩, trivial, List.Sublist.refl _⟩
    show AV.i _ = AV.i _
    rw [hll]
    congr 1
    simp
  · rintro ⟨j, H1⟩ ⟨hj, h1⟩
    simp only at hj h1
    refine ifB_dec (fun h3 => ?_) (fun h3 => ?_)
    · simp only at h3
      have hlt : ts.length - 1 - j < ts.length := by omega
      have e0 : (ts.length : Int) - 1 - j = ((ts.length - 1 - j : Nat) : Int) := by omega
      have e1 : backEach ts = backEach ts := rfl
      refine ⟨ts.length - 1 - j, e0, _, tmAt' hlt, ?_⟩
      refine ⟨_, LeL.refl _, RCon.mono (hr j [.i ((ts.length : Int) - 1 - j), tmX ts[ts.length - 1 - j]] H1 ?_ h1) ?_⟩
      · rw [backEach, List.getElem?_map, List.getElem?_range (by omega)]
        simp only [Option.map_some]
        rw [← e0, List.getD_eq_getElem?_getD, List.getElem?_eq_getElem hlt]
        rfl
      rintro r H2 (⟨rfl, h2⟩ | ⟨rfl, h2⟩)
      · intro hz1 hz2; clear hz1 hz2
        refine ⟨in64_of (by first | omega | (dsimp only; omega)) (by first | omega | (dsimp only; omega)), ?_⟩
        refine ⟨(j + 1, H2), ⟨by simp only; omega, h2⟩, by (try dsimp only); omega, ?_⟩
        refine ⟨⟨Le.refl _, Le.refl _, le_of_eq ?_, trivial⟩, trivial, List.Sublist.refl _⟩
        show AV.i _ = AV.i _
        congr 1
        simp only
        omega
      · intro hz1 hz2; clear hz1 hz2
        exact ⟨_, _, Le.refl _, List.Sublist.refl _, Or.inr h2⟩
    · simp only at h3
      have hj' : j = ts.length := by omega
      refine ⟨_, _, Le.refl _, List.Sublist.refl _, Or.inl ?_⟩
      rw [backEach, List.length_map, List.length_range, ← hj']
      exact h1
end Go.Proofs.YtnjnfegafmhgnaaGreatDoor

/-
  slices.AppendSeq, Collect, Sort, Sorted, Compact over texts; name.Sort; term.Consts. No condition.
-/
namespace Go.Proofs.YtnjnfegafmhgnaaGreatDoor
open Go.RowKit Go.Sort

/-- a row of cells that turned, and new blocks behind the heap -/
theorem row_turn {M : Mem} {H : Heap} {w w' : World} {b : Nat} {cs ys : List AV} {ds : List Value} {T0 : TypeId} (h : Inv M ((b, .cells cs) :: H) w) (hsz : w.heap.size ≤ w'.heap.size) (h1 : w'.os = w.os) (h2 : w'.tape = w.tape) (h3 : w'.output = w.output)
    (hot : ∀ k, k < w.heap.size → k ≠ b → w'.heap[k]? = w.heap[k]?) (hb : w'.heap[b]? = some (.cells ds.toArray T0 (0, 0))) (hc : repC M ys ds) : Evo [b] M w M w' ∧ Inv M ((b, .cells ys) :: H) w' := by
  have e : Evo [b] M w M w' := ⟨h1, h2, h3, hsz, fun k hk hn => hot k hk (by simpa using hn), Mem.le.refl M, fun _ _ _ h => Or.inl h⟩
  obtain ⟨hnone, vs, T, hg, _⟩ := h.obj b (.cells cs) (by simp)
  have hnd := h.nodup
  simp only [Heap.keys, List.map_cons, List.nodup_cons] at hnd
  refine ⟨e, fun b' o v hv => ?_, fun b' x hx => ?_, by simpa only [Heap.keys, List.map_cons, List.nodup_cons] using hnd⟩
  · have hne : b' ≠ b := fun e => by subst e; rw [hnone o] at hv; cases hv
    rw [← h.mem b' o v hv]
    simp only [World.cell?, hot b' (h.lt hv) hne]
  · rcases List.mem_cons.1 hx with hx | hx
    · cases hx
      exact ⟨hnone, ds, T0, hb, hc⟩
    · have hne : b' ≠ b := fun e => hnd.1 (by rw [← e]; exact Heap.mem_keys hx)
      exact (h.obj b' x (List.mem_cons_of_mem _ hx)).keep e (by simpa using hne)
theorem flat_strs : ∀ ss : List (List UInt8), (ss.map AV.str).flatMap AV.cells = ss.map AV.str
  | [] => rfl
  | s :: ss => by
    show AV.str s :: (ss.map AV.str).flatMap AV.cells = _
    rw [flat_strs ss]
    rfl
theorem strs_rep {M : Mem} : ∀ {ss : List (List UInt8)}, (∀ s ∈ ss, s.length ≤ 1125899906842624) → repC M (ss.map .str) (ss.map encStr)
  | [], _ => by simp only [List.map_nil, repC]
  | s :: ss, h => by
    simp only [List.map_cons, repC]
    exact ⟨_, _, rfl, ⟨rfl, rep_str (h s (by simp))⟩, strs_rep fun x hx => h x (List.mem_cons_of_mem _ hx)⟩
theorem strs_vals {M : Mem} : ∀ {ss : List (List UInt8)} {vs : List Value}, repC M (ss.map .str) vs → vs = ss.map encStr ∧ ∀ s ∈ ss, s.length ≤ 1125899906842624
  | [], vs, h => by simp only [List.map_nil, repC] at h; subst h; exact ⟨rfl, fun s hs => by cases hs⟩
  | s :: ss, vs, h => by
    simp only [List.map_cons, repC] at h
    obtain ⟨c, cs, rfl, ⟨_, h1⟩, h2⟩ := h
    simp only [rep] at h1
    obtain ⟨k1, k2⟩ := strs_vals h2
    exact ⟨by rw [h1.1, k1]; rfl, fun x hx => by rcases List.mem_cons.1 hx with rfl | hx; exact h1.2; exact k2 x hx⟩
/-- texts in a row that may turn: what the shelf wants, and what it gives -/
theorem row_strs {M : Mem} {H : Heap} {w : World} {b n cap : Nat} {cs : List AV} {ss : List (List UInt8)} (hok : TurnOk 1 n (ss.map .str) H b cap cs) (hI : Inv M ((b, .cells cs) :: H) w) :
    ss.length = n ∧ (∀ s ∈ ss, s.length ≤ 1125899906842624) ∧ b < w.heap.size ∧ Holds encStr w b 0 ss.toArray ∧
    ∀ (ss' : List (List UInt8)) (k : Nat) (os : Array Obj), ss'.length = n → (∀ s ∈ ss', s.length ≤ 1125899906842624) → Evo [b] M w M (grow (putRow encStr (Sort.ahead w k) b 0 ss'.toArray) os) ∧ Inv M ((b, .cells (ss'.map .str ++ cs.drop n)) :: H) (grow (putRow encStr (Sort.ahead w k) b 0 ss'.toArray) os) := by
  have hn : ss.length = n := by have := hok.len; rwa [List.length_map] at this
  have hhere := hok.here
  rw [flat_strs, Nat.mul_one] at hhere
  obtain ⟨_, vs, T0, hg, hrep⟩ := hI.obj b (.cells cs) (by simp)
  have hlt : b < w.heap.size := (Array.getElem?_eq_some_iff.1 hg).1
  obtain ⟨k1, k2⟩ := strs_vals (M := M) (vs := vs.take n) (by rw [← hhere]; exact hrep.take n)
  have hvl : n ≤ vs.length := by
    have := congrArg List.length k1
    rw [List.length_take, List.length_map] at this
    omega
  refine ⟨hn, k2, hlt, fun j hj => ?_, fun ss' k os hl h50 => ?_⟩
  · simp only [List.size_toArray] at hj
    have e1 : vs[j]? = some (encStr ss[j]) := by
      have : (vs.take n)[j]? = (ss.map encStr)[j]? := by rw [k1]
      rw [List.getElem?_take, if_pos (by omega), List.getElem?_map, List.getElem?_eq_getElem hj] at this
      exact this
    refine ⟨?_, ?_⟩
    · simp only [World.cell?, hg, Nat.zero_add]
      rw [getElem!_pos ss.toArray j (by simpa using hj)]
      simpa using e1
    · simp [World.frozen?, hg]
  · refine row_turn (ds := ss'.map encStr ++ vs.drop n) (T0 := T0) hI (by rw [size_grow]; unfold putRow mapBlock Sort.ahead; simp) rfl rfl rfl (fun q hq hqb => ?_) ?_ ((strs_rep h50).append (hrep.drop n))
    · unfold grow putRow mapBlock Sort.ahead
      simp only
      rw [Array.getElem?_append_left (by simpa using hq), Array.getElem?_modify, if_neg (Ne.symm hqb)]
    · unfold grow putRow mapBlock Sort.ahead
      simp only
      rw [Array.getElem?_append_left (by simpa using hlt), Array.getElem?_modify, if_pos rfl, hg]
      simp only [Option.map_some, onCells]
      congr 2
      apply Array.ext_getElem?
      intro i
      unfold Sort.putCells
      rw [Array.getElem?_mapIdx]
      simp only [List.size_toArray, Nat.zero_le, true_and, Nat.zero_add, Nat.sub_zero, List.getElem?_toArray]
      by_cases hi : i < n
      · rw [List.getElem?_append_left (by simpa [hl] using hi), List.getElem?_map, List.getElem?_eq_getElem (by omega), List.getElem?_eq_getElem (by omega)]
        simp only [Option.map_some]
        rw [if_pos (by omega), getElem!_pos ss'.toArray i (by simpa [hl] using hi)]
        simp
      · rw [List.getElem?_append_right (by simp [hl]; omega), List.length_map, hl, List.getElem?_drop, show n + (i - n) = i by omega]
        cases vs[i]? with
        | none => rfl
        | some v => simp only [Option.map_some]; rw [if_neg (by omega)]

/-- texts in order -/
def stsSort (ss : List (List UInt8)) : List (List UInt8) := ss.mergeSort fun x y => decide (x ≤ y)
theorem stsSort_len (ss : List (List UInt8)) : (stsSort ss).length = ss.length := List.length_mergeSort _
theorem stsSort_mem {ss : List (List UInt8)} {s : List UInt8} : s ∈ stsSort ss ↔ s ∈ ss := List.mem_mergeSort
theorem turn_strs {n cap b : Nat} {ss ss' : List (List UInt8)} {H : Heap} {cs : List AV} (hok : TurnOk 1 n (ss.map .str) H b cap cs) (hl : ss'.length = n) : TurnOk 1 n (ss'.map .str) H b cap (ss'.map .str ++ cs.drop n) := by
  have h := hok.here
  rw [flat_strs, Nat.mul_one] at h
  have h1 : (cs.take n).length = n := by rw [h]; exact hok.len
  have hr := hok.room
  have hle := hok.le
  refine ⟨by simpa using hl, hok.out, hok.le, hok.max, ?_, ?_⟩
  · rw [List.length_append, List.length_map, List.length_drop, hl]
    rw [List.length_take] at h1
    omega
  · rw [flat_strs, Nat.mul_one, List.take_left' (by simpa using hl)]
set_option maxRecDepth 100000 in
theorem Sort_con (ss : List (List UInt8)) {b n cap : Nat} {cs : List AV} {H : Heap} {Q : AV → Heap → Prop} (hok : TurnOk 1 n (ss.map .str) H b cap cs) (hn : n ≤ 1000000) (hq : ∀ cs', TurnOk 1 n ((stsSort ss).map .str) H b cap cs' → Q (.tup []) ((b, .cells cs') :: H)) : Con Tryz.prog 196 [hs b n cap] ((b, .cells cs) :: H) Q := by
  intro M w vs hI hargs
  simp only [repT] at hargs
  obtain ⟨v, _, rfl, hv, rfl⟩ := hargs
  unfold hs at hv
  simp only [rep] at hv
  obtain ⟨rfl, _⟩ := hv
  obtain ⟨h1, h2, h3, h4, h5⟩ := row_strs hok hI
  have hcall := Any.slices_Sort_string Tryz.l190 b 0 cap ss w h4 h3 (by omega)
  rw [h1] at hcall
  rw [ent Tryz.func196 (by kernel_rfl) rfl]
  refine Calls.mono hcall ?_
  rintro e w' ⟨rfl, k, os, rfl⟩
  have hl : (stsSort ss).length = n := by rw [stsSort_len]; exact h1
  obtain ⟨e1, e2⟩ := h5 (stsSort ss) k os hl fun s hs => h2 s (stsSort_mem.1 hs)
  refine ⟨_, rfl, M, .tup [], _, e1.mono (fun q hq => by simp only [List.mem_singleton] at hq; subst hq; simp [Heap.keys]), e2, fun q hq => Or.inl hq, by simp [rep, repT], hq _ (turn_strs hok hl)⟩
set_option maxRecDepth 100000 in
theorem Sort_nil (o : Own) (s : Nat) {H : Heap} {Q : AV → Heap → Prop} (hq : Q (.tup []) H) : Con Tryz.prog 196 [.sl o s []] H Q := by
  intro M w vs hI hargs
  simp only [repT] at hargs
  obtain ⟨v, _, rfl, hv, rfl⟩ := hargs
  simp only [rep] at hv
  obtain ⟨a, cap, rfl, _⟩ := hv
  rw [ent Tryz.func196 (by kernel_rfl) rfl]
  refine Calls.mono (Any.slices_Sort_string_none Tryz.l190 a cap w) ?_
  rintro e w' ⟨rfl, rfl⟩
  exact ⟨_, rfl, M, .tup [], H, Evo.refl _ _ _, hI, fun q hq => Or.inl hq, by simp [rep, repT], hq⟩
/-- each text once -/
def stsOnce (ss : List (List UInt8)) : List (List UInt8) := Lib.compact ss
theorem stsOnce_le (ss : List (List UInt8)) : (stsOnce ss).length ≤ ss.length := Lib.compact_length_le ss
theorem stsOnce_mem {ss : List (List UInt8)} {s : List UInt8} (h : s ∈ stsOnce ss) : s ∈ ss := by
  unfold stsOnce Lib.compact Lib.compactUpTo at h
  obtain ⟨i, hi, rfl⟩ := List.mem_map.1 h
  have := List.mem_range.1 (List.mem_filter.1 hi).1
  rw [getElem!_pos ss.toArray i (by simpa using this)]
  simp
theorem turn_once {n cap b : Nat} {ss : List (List UInt8)} {H : Heap} {cs : List AV} (hok : TurnOk 1 n (ss.map .str) H b cap cs) (hn : ss.length = n) : TurnOk 1 (stsOnce ss).length ((stsOnce ss).map .str) H b cap (((stsOnce ss) ++ List.replicate (ss.length - (stsOnce ss).length) []).map .str ++ cs.drop n) := by
  have hle := stsOnce_le ss
  have h := turn_strs (ss' := stsOnce ss ++ List.replicate (ss.length - (stsOnce ss).length) []) hok (by simp; omega)
  have h2 := h.le
  refine ⟨by simp, h.out, by omega, h.max, h.room, ?_⟩
  rw [flat_strs, Nat.mul_one, List.map_append, List.append_assoc, List.take_left' (by simp)]
set_option maxRecDepth 100000 in
theorem Compact_con (ss : List (List UInt8)) {b n cap : Nat} {cs : List AV} {H : Heap} {Q : AV → Heap → Prop} (hok : TurnOk 1 n (ss.map .str) H b cap cs) (hn : n ≤ 1000000) (hq : ∀ cs', TurnOk 1 (stsOnce ss).length ((stsOnce ss).map .str) H b cap cs' → Q (hs b (stsOnce ss).length cap) ((b, .cells cs') :: H)) : Con Tryz.prog 181 [hs b n cap] ((b, .cells cs) :: H) Q := by
  intro M w vs hI hargs
  simp only [repT] at hargs
  obtain ⟨v, _, rfl, hv, rfl⟩ := hargs
  unfold hs at hv
  simp only [rep] at hv
  obtain ⟨rfl, _⟩ := hv
  obtain ⟨h1, h2, h3, h4, h5⟩ := row_strs hok hI
  have hle := stsOnce_le ss
  have hcall := Any.slices_Compact_string Tryz.l194 b 0 cap ss w h4 (by omega) (by have := hok.le; omega)
  rw [h1] at hcall
  rw [ent Tryz.func181 (by kernel_rfl) rfl]
  refine Calls.mono hcall ?_
  rintro e w' ⟨rfl, k, rfl⟩
  have hl : (stsOnce ss ++ List.replicate (n - (stsOnce ss).length) []).length = n := by simp; omega
  obtain ⟨e1, e2⟩ := h5 (stsOnce ss ++ List.replicate (n - (stsOnce ss).length) []) k #[] hl fun s hs => by
    rcases List.mem_append.1 hs with hs | hs
    · exact h2 s (stsOnce_mem hs)
    · rw [(List.mem_replicate.1 hs).2]; simp
  rw [grow_empty] at e1 e2
  have ht := turn_once hok h1
  rw [h1] at ht
  refine ⟨_, rfl, M, hs b (stsOnce ss).length cap, _, e1.mono (fun q hq => by simp only [List.mem_singleton] at hq; subst hq; simp [Heap.keys]), e2, fun q hq => Or.inl hq, ?_, hq _ ht⟩
  unfold hs
  simp only [rep]
  exact ⟨rfl, rfl⟩
set_option maxRecDepth 100000 in
theorem Compact_nil (o : Own) (s : Nat) {H : Heap} {Q : AV → Heap → Prop} (hq : Q (.sl .no s []) H) : Con Tryz.prog 181 [.sl o s []] H Q := by
  intro M w vs hI hargs
  simp only [repT] at hargs
  obtain ⟨v, _, rfl, hv, rfl⟩ := hargs
  have hv' := Le.own o s [] M v hv
  simp only [rep] at hv
  obtain ⟨a, cap, rfl, _⟩ := hv
  rw [ent Tryz.func181 (by kernel_rfl) rfl]
  refine Calls.mono (Any.slices_Compact_string_empty Tryz.l194 a cap w) ?_
  rintro e w' ⟨rfl, rfl⟩
  exact ⟨_, rfl, M, .sl .no s [], H, Evo.refl _ _ _, hI, fun q hq => Or.inl hq, hv', hq⟩
end Go.Proofs.YtnjnfegafmhgnaaGreatDoor

/-
  slices.AppendSeq, Collect, Sorted over texts; name.Sort; term.Consts. No condition.
-/
namespace Go.Proofs.YtnjnfegafmhgnaaGreatDoor
open Go.RowKit Go.Sort

theorem stsSort_nil : stsSort [] = [] := by simp [stsSort]
theorem TurnOk.drop {size n : Nat} {xs : List AV} {H H' : Heap} {b cap : Nat} {cs : List AV} (h : TurnOk size n xs H b cap cs) (hs : H'.Sublist H) : TurnOk size n xs H' b cap cs :=
  ⟨h.len, fun hb => h.out ((hs.map _).subset hb), h.le, h.max, h.room, h.here⟩
theorem MvOk.drop {size n : Nat} {xs : List AV} {H H' : Heap} {m : Mv} (h : MvOk size n xs H m) (hs : H'.Sublist H) : MvOk size n xs H' m := by
  cases m with
  | none => exact h
  | some p => exact ⟨h.1, h.2.drop hs⟩
theorem mvH_sub {m : Mv} {H H' : Heap} (hs : H'.Sublist H) : (mvH m H').Sublist (mvH m H) := by
  cases m with
  | none => exact hs
  | some p => exact hs.cons_cons _
set_option maxRecDepth 100000 in
set_option maxHeartbeats 1000000 in
theorem AppendSeq_con {f : FuncId} {caps : List AV} {ss : List (List UInt8)} (he : ∀ args w, (callFunc f args).run Tryz.prog w = .ok (.enter f args) w) (hit : Iter Tryz.prog f caps (stsEach ss)) (hl : ss.length ≤ 1000000) (H : Heap) (Q : AV → Heap → Prop)
    (hq : ∀ m : Mv, MvOk 1 ss.length (ss.map .str) H m → Q (mvV 1 m ss.length) (mvH m H)) : Con Tryz.prog 202 [.sl .full 0 [], .fn (.func f) caps] H Q := by
  refine con_of_sem tab_ok Tryz.func202 rfl (ent Tryz.func202 (by kernel_rfl) rfl) (by kernel_rfl) ?_
  intro hw hn
  clear hw hn
  refine sem_seq (esc := [2, 11].contains) tab_ok mixed ?_
  intro b hb
  refine sem_then ?_
  refine sem_seq (esc := [2, 11].contains) tab_ok mixed ?_
  refine sem_block ?_
  refine sem_range (esc := [2, 11].contains) (X := Mv × Nat) (Y := Unit) tab_ok mixed he hit [(2, .g (.ptr b 0)), (6, .g (.fn (.func f) caps))] (fun p => mvH p.1 ((b, .cells [mvS p.1 p.2]) :: H))
    (fun i p => p.2 = i ∧ MvOk 1 i ((ss.take i).map .str) ((b, .cells [mvS p.1 i]) :: H) p.1) (fun _ => H) (fun _ _ => False) rfl (fun args ha => by obtain ⟨s, _, rfl⟩ := List.mem_map.1 ha; rfl) ⟨(none, 0), ⟨rfl, rfl, rfl⟩, ?_⟩ ?_ ?_ nofun
  · exact ⟨⟨Le.refl _, Le.refl _, trivial⟩, HLe.refl _⟩
  · rintro j args ⟨m, k⟩ hj ⟨hk, hz⟩ _ _
    simp only at hk hz
    subst hk
    have hlt : k < ss.length := by
      have := (List.getElem?_eq_some_iff.1 hj).1
      rwa [stsEach, List.length_map] at this
    obtain rfl : [.str ss[k]] = args := by
      rw [stsEach, List.getElem?_map, List.getElem?_eq_getElem hlt] at hj
      exact Option.some.inj hj
    have hsn : (ss.take k).map AV.str ++ [.str ss[k]] = (ss.take (k + 1)).map AV.str := by rw [List.take_succ_eq_append_getElem hlt, List.map_append]; rfl
    cases m with
    | none =>
      obtain rfl : k = 0 := hz.1
      refine ⟨_, List.mem_cons_self, ?_⟩
      refine ⟨(by show (0 + 1) * (16 + 1) ≤ 140737488355328; decide), by simp, rfl, fun c cap rest k1 k2 k3 k4 => ?_⟩
      refine ⟨_, _, .there .here, Nat.le_refl _, ?_⟩
      have hok : MvOk 1 1 ((ss.take (0 + 1)).map .str) ((b, .cells [mvS (some (c, cap, ([] ++ [AV.str ss[0]]).flatMap AV.cells ++ rest)) 1]) :: H) (some (c, cap, ([] ++ [AV.str ss[0]]).flatMap AV.cells ++ rest)) := by
        rw [← hsn]
        exact ⟨by decide, TurnOk.first rfl k1 k2 k3 k4⟩
      exact ⟨(some (c, cap, ([] ++ [AV.str ss[0]]).flatMap AV.cells ++ rest), 1), ⟨rfl, hok⟩, HLe.refl _⟩
    | some p =>
      obtain ⟨b0, cap0, cs0⟩ := p
      obtain ⟨hj0, htk⟩ := hz
      refine ⟨_, List.mem_cons_of_mem _ List.mem_cons_self, ?_⟩
      refine ⟨?_, by simp, cs0, _, Heap.Rem.here, htk.le, htk.max, htk.room, fun c cap rest k1 k2 k3 k4 => ?_⟩
      · simp only [List.length_cons, List.length_nil]
        show _ * (16 + 1) ≤ _
        omega
      refine ⟨_, _, .there .here, Nat.le_refl _, ?_⟩
      have hok : MvOk 1 (k + 1) ((ss.take (k + 1)).map .str) ((b, .cells [mvS (some (c, cap, cs0.take (k * 1) ++ [AV.str ss[k]].flatMap AV.cells ++ rest)) (k + 1)]) :: H) (some (c, cap, cs0.take (k * 1) ++ [AV.str ss[k]].flatMap AV.cells ++ rest)) := by
        rw [← hsn]
        have := htk.next (y := .str ss[k]) (wide_sts _) rfl k1 k2 k3 k4
        exact ⟨by omega, this.len, this.out, this.le, this.max, this.room, this.here⟩
      exact ⟨(some (c, cap, cs0.take (k * 1) ++ [AV.str ss[k]].flatMap AV.cells ++ rest), k + 1), ⟨rfl, hok⟩, HLe.refl _⟩
  · rintro ⟨m, k⟩ ⟨hk, hz⟩
    simp only at hk hz
    subst hk
    have hln : (stsEach ss).length = ss.length := List.length_map _
    have hmem : (b, AObj.cells [mvS m (stsEach ss).length]) ∈ mvH m ((b, AObj.cells [mvS m (stsEach ss).length]) :: H) := mvH_mem List.mem_cons_self
    rw [hln] at hz
    rw [List.take_length] at hz
    refine sem_of (esc := [2, 11].contains) tab_ok mixed ?_
    refine ⟨_, hmem, ?_⟩
    refine ⟨_, _, ?_, mvH_sub (List.sublist_cons_self _ _), hq m (hz.drop (List.sublist_cons_self _ _))⟩
    rw [hln]
    exact mvS_le 1 m _
set_option maxRecDepth 100000 in
theorem Collect_con {f : FuncId} {caps : List AV} {ss : List (List UInt8)} (he : ∀ args w, (callFunc f args).run Tryz.prog w = .ok (.enter f args) w) (hit : Iter Tryz.prog f caps (stsEach ss)) (hl : ss.length ≤ 1000000) (H : Heap) (Q : AV → Heap → Prop)
    (hq : ∀ m : Mv, MvOk 1 ss.length (ss.map .str) H m → Q (mvV 1 m ss.length) (mvH m H)) : Con Tryz.prog 195 [.fn (.func f) caps] H Q := by
  refine con_of_awp (esc := fun _ => false) tab_ok mixed Tryz.func195 rfl (ent Tryz.func195 (by kernel_rfl) rfl) (by kernel_rfl) ?_
  intro hw hn
  refine ⟨_, LeL.refl _, AppendSeq_con he hit hl _ _ fun m hm => ?_⟩
  intro hz1 hz2; clear hz1 hz2
  exact ⟨_, _, Le.refl _, List.Sublist.refl _, hq m hm⟩
set_option maxRecDepth 100000 in
theorem Sorted_con {f : FuncId} {caps : List AV} {ss : List (List UInt8)} (he : ∀ args w, (callFunc f args).run Tryz.prog w = .ok (.enter f args) w) (hit : Iter Tryz.prog f caps (stsEach ss)) (hl : ss.length ≤ 1000000) (H : Heap) (Q : AV → Heap → Prop)
    (hq : ∀ m : Mv, MvOk 1 ss.length ((stsSort ss).map .str) H m → Q (mvV 1 m ss.length) (mvH m H)) : Con Tryz.prog 182 [.fn (.func f) caps] H Q := by
  refine con_of_awp (esc := fun _ => false) tab_ok mixed Tryz.func182 rfl (ent Tryz.func182 (by kernel_rfl) rfl) (by kernel_rfl) ?_
  intro hw hn
  refine ⟨_, LeL.refl _, Collect_con he hit hl _ _ fun m hm => ?_⟩
  intro hz1 hz2; clear hz1 hz2
  cases m with
  | none =>
    refine ⟨_, LeL.refl _, Sort_nil _ _ ?_⟩
    intro hz1 hz2; clear hz1 hz2
    have h0 : ss = [] := by have := hm.2; simpa using this
    subst h0
    exact ⟨_, _, Le.refl _, List.Sublist.refl _, hq none ⟨rfl, by rw [stsSort_nil]; rfl⟩⟩
  | some p =>
    obtain ⟨b, cap, cs⟩ := p
    refine ⟨_, LeL.refl _, Sort_con ss hm.2 hl fun cs' hok => ?_⟩
    intro hz1 hz2; clear hz1 hz2
    exact ⟨_, _, Le.refl _, List.Sublist.refl _, hq (some (b, cap, cs')) ⟨hm.1, hok⟩⟩
/-- texts in order, each once -/
def nmSort (ss : List (List UInt8)) : List (List UInt8) := stsOnce (stsSort ss)
theorem nmSort_nil : nmSort [] = [] := by rw [nmSort, stsSort_nil]; rfl
set_option maxRecDepth 100000 in
theorem nameSort_con (o : Own) (ss : List (List UInt8)) (hl : ss.length ≤ 1000000) : Ans Tryz.prog 154 [.sl o 1 (ss.map .str)] (stsX (nmSort ss)) := by
  intro H Q hq
  cases ss with
  | nil =>
    rw [nmSort_nil] at hq
    refine con_of_awp (esc := fun _ => false) tab_ok mixed Tryz.func154 rfl (ent Tryz.func154 (by kernel_rfl) rfl) (by kernel_rfl) ?_
    intro hw hn
    refine ⟨_, LeL.refl _, Values_con _ _ _ _ ?_⟩
    intro hz1 hz2; clear hz1 hz2
    refine ⟨_, LeL.refl _, Sorted_con (ent Tryz.func197 (by kernel_rfl) rfl) (Values_iter o []) (by simp) _ _ fun m hm => ?_⟩
    intro hz1 hz2; clear hz1 hz2
    cases m with
    | none =>
      refine ⟨_, LeL.refl _, Compact_nil _ _ ?_⟩
      intro hz1 hz2; clear hz1 hz2
      exact ⟨_, _, Le.refl _, List.Sublist.refl _, hq⟩
    | some p => exact absurd rfl hm.1
  | cons s0 ss0 =>
    obtain ⟨ss, hss⟩ : ∃ ss, ss = s0 :: ss0 := ⟨_, rfl⟩
    rw [← hss] at hl hq ⊢
    have hne : ss.length ≠ 0 := by rw [hss]; simp
    refine Con.ice ?_
    refine con_of_awp (esc := fun _ => false) tab_ok mixed Tryz.func154 rfl (ent Tryz.func154 (by kernel_rfl) rfl) (by kernel_rfl) ?_
    intro hw hn
    refine ⟨_, LeL.refl _, Values_con _ _ _ _ ?_⟩
    intro hz1 hz2; clear hz1 hz2
    refine ⟨_, LeL.refl _, Sorted_con (ent Tryz.func197 (by kernel_rfl) rfl) (Values_iter o ss) hl _ _ fun m hm => ?_⟩
    intro hz1 hz2; clear hz1 hz2
    cases m with
    | none => exact absurd hm.1 hne
    | some p =>
      obtain ⟨b, cap, cs⟩ := p
      refine ⟨_, LeL.refl _, Compact_con (stsSort ss) hm.2 hl fun cs' hok => ?_⟩
      intro hz1 hz2; clear hz1 hz2
      exact ⟨_, _, Le.refl _, List.Sublist.refl _, b, cs', H, _, .here, fun M h => hok.see (wide_sts _) h, hq⟩

/-! term.Consts -/
def cnames (ts : List Tm) : List (List UInt8) := (ts.filter fun t => decide (t.kind = 3)).map Tm.name
theorem cnames_snoc {ts : List Tm} {j : Nat} (h : j < ts.length) : cnames (ts.take (j + 1)) = cnames (ts.take j) ++ if ts[j].kind = 3 then [ts[j].name] else [] := by
  rw [List.take_succ_eq_append_getElem h, cnames, List.filter_append, List.map_append]
  congr 1
  by_cases hk : ts[j].kind = 3
  · rw [if_pos hk]; simp [hk]
  · rw [if_neg hk]; simp [hk]
theorem cnames_len (ts : List Tm) : (cnames ts).length ≤ ts.length := by
  rw [cnames, List.length_map]
  exact List.length_filter_le _ _
/-- the names of a term's constants -/
def tmConsts (t : Tm) : List (List UInt8) := if tmRight 4 1125899906842624 t = true then nmSort (cnames t.subs) else []
set_option maxRecDepth 100000 in
set_option maxHeartbeats 1000000 in
theorem Consts_con (t : Tm) : Ans Tryz.prog 110 [tmX t] (stsX (tmConsts t)) := by
  intro H Q hq
  refine con_of_sem tab_ok Tryz.func110 rfl (ent Tryz.func110 (by kernel_rfl) rfl) (by kernel_rfl) ?_
  intro hw hn
  clear hw hn
  refine sem_seq (esc := [3].contains) tab_ok mixed ?_
  by_cases h1 : tmRight 4 1125899906842624 t = true
  rotate_left
  · refine sem_of (esc := [3].contains) tab_ok mixed ?_
    refine ⟨_, LeL.refl _, (tmRight_con 4 1125899906842624 t).no h1 _ _ ?_⟩
    intro hz1 hz2; clear hz1 hz2
    rw [tmConsts, if_neg h1] at hq
    exact ⟨_, H, Le.nil _ _, List.Sublist.refl _, hq⟩
  rw [tmConsts, if_pos h1] at hq
  have hnd : t.nodes ≤ 2000 := by
    unfold tmRight at h1
    simp only [Bool.and_eq_true, decide_eq_true_eq] at h1
    exact h1.1.2
  have hsl := subs_len t
  refine sem_seq (esc := [3].contains) tab_ok mixed ?_
  refine ⟨_, LeL.refl _, (tmRight_con 4 1125899906842624 t).yes h1 _ _ ?_⟩
  intro hz1 hz2; clear hz1 hz2
  refine sem_seq (esc := [3].contains) tab_ok mixed ?_
  intro b hb
  refine sem_then ?_
  refine sem_seq (esc := [3].contains) tab_ok mixed ?_
  refine ⟨_, LeL.refl _, walk_con t _ _ ?_⟩
  intro hz1 hz2; clear hz1 hz2
  refine sem_block ?_
  refine sem_range (esc := [3].contains) (X := Option Cap × Nat) (Y := Unit) tab_ok mixed (ent Tryz.func179 (by kernel_rfl) rfl) (walk_iter t) [(3, .g (.ptr b 0)), (9, .g (.fn (.func 179) [.ip (tmX t).cells]))] (fun p => bufH p.1 ((b, .cells [.sl (ownQ p.1) 1 ((cnames (t.subs.take p.2)).map .str)]) :: H))
    (fun i p => p.2 = i) (fun _ => H) (fun _ _ => False) rfl (fun args ha => by obtain ⟨s, _, rfl⟩ := List.mem_map.1 ha; rfl) ⟨(none, 0), rfl, ?_⟩ ?_ ?_ nofun
  · exact ⟨⟨Le.refl _, Le.refl _, trivial⟩, HLe.here ⟨Le.nil' _, trivial⟩ (HLe.refl _)⟩
  · rintro j args ⟨q, k⟩ hj hk _ _
    simp only at hk
    subst hk
    have hlt : k < t.subs.length := by
      have := (List.getElem?_eq_some_iff.1 hj).1
      rwa [tmWalk, List.length_map] at this
    obtain rfl : [tmX t.subs[k]] = args := by
      rw [tmWalk, List.getElem?_map, List.getElem?_eq_getElem hlt] at hj
      exact Option.some.inj hj
    have hcn := cnames_snoc hlt
    have hcl := cnames_len (t.subs.take k)
    have htk : (t.subs.take k).length ≤ 2000 := by rw [List.length_take]; omega
    have hmem : (b, AObj.cells [AV.sl (ownQ q) 1 ((cnames (t.subs.take k)).map .str)]) ∈ bufH q ((b, .cells [.sl (ownQ q) 1 ((cnames (t.subs.take k)).map .str)]) :: H) := by
      cases q with
      | none => exact List.mem_cons_self
      | some c => exact List.mem_cons_of_mem _ List.mem_cons_self
    refine ifB_dec (fun h2 => ?_) (fun h2 => ?_)
    · rw [if_pos h2] at hcn
      refine ⟨_, hmem, ?_⟩
      refine ⟨?_, ?_⟩
      · simp only [List.length_map, List.length_cons, List.length_nil]
        try simp only [List.length_take]
        show _ * (16 + 1) ≤ _
        omega
      refine own_of (q := q) (H0 := ((b, .cells [.sl (ownQ q) 1 ((cnames (t.subs.take k)).map .str)]) :: H)) ?_ ?_ ?_ (fun c hc => ?_)
      · exact rfl
      · exact rfl
      · exact fun _ h => h
      refine ⟨_, _, .there .here, Nat.le_refl _, ?_⟩
      refine ⟨(some c, k + 1), rfl, HLe.eq (Eq.symm ?_)⟩
      show (c.b, AObj.cap c) :: (b, AObj.cells [AV.sl (.own c) 1 ((cnames (t.subs.take (k + 1))).map .str)]) :: H = _
      rw [hcn, List.map_append]
      rfl
    · rw [if_neg h2, List.append_nil] at hcn
      refine ⟨(q, k + 1), rfl, HLe.eq (Eq.symm ?_)⟩
      show bufH q ((b, AObj.cells [AV.sl (ownQ q) 1 ((cnames (t.subs.take (k + 1))).map .str)]) :: H) = _
      rw [hcn]
      rfl
  · rintro ⟨q, k⟩ hk
    simp only at hk
    subst hk
    have hln : (tmWalk t).length = t.subs.length := List.length_map _
    have hcl := cnames_len t.subs
    have hmem : (b, AObj.cells [AV.sl (ownQ q) 1 ((cnames (t.subs.take (tmWalk t).length)).map .str)]) ∈ bufH q ((b, .cells [.sl (ownQ q) 1 ((cnames (t.subs.take (tmWalk t).length)).map .str)]) :: H) := by
      cases q with
      | none => exact List.mem_cons_self
      | some c => exact List.mem_cons_of_mem _ List.mem_cons_self
    refine sem_of (esc := [3].contains) tab_ok mixed ?_
    refine ⟨_, hmem, ?_⟩
    refine ⟨[.sl (ownQ q) 1 ((cnames t.subs).map .str)], ⟨le_of_eq (by rw [hln, List.take_length]), trivial⟩, nameSort_con _ _ (by omega) _ _ ?_⟩
    intro hz1 hz2; clear hz1 hz2
    exact ⟨_, _, Le.refl _, (List.sublist_cons_self _ _).trans (bufH_sub q _), hq⟩
end Go.Proofs.YtnjnfegafmhgnaaGreatDoor

/-
  term's Var, Sort, Const, App, Lam, Pi, Let. No condition.
-/
namespace Go.Proofs.YtnjnfegafmhgnaaGreatDoor
open Go.RowKit

/-! terms made of others, plain -/
def tmAps (f : Tm) (ts : List Tm) : Tm := ts.foldl (fun out a => .mk 4 0 [] [] [out, a]) f
def tmOver (k : Int) (body : Tm) (ts : List Tm) : Tm := ts.foldr (fun t out => .mk k 0 [] [] [t, out]) body
theorem tmAps_snoc {f : Tm} {ts : List Tm} {j : Nat} (h : j < ts.length) : tmAps f (ts.take (j + 1)) = .mk 4 0 [] [] [tmAps f (ts.take j), ts[j]] := by
  rw [List.take_succ_eq_append_getElem h, tmAps, List.foldl_append]
  rfl
theorem tmOver_step {k : Int} {body : Tm} {ts : List Tm} {j : Nat} (h : j < ts.length) : tmOver k body (ts.drop j) = .mk k 0 [] [] [ts[j], tmOver k body (ts.drop (j + 1))] := by
  rw [List.drop_eq_getElem_cons h]
  rfl
theorem le_parts (k : Int) (a b : Tm) : Le (.agg [.i k, .i 0, .str [], .sl .full 0 [], .sl .full 5 [tmX a, tmX b]]) (tmX (.mk k 0 [] [] [a, b])) := by
  refine Le.agg ⟨Le.refl _, Le.refl _, Le.refl _, Le.nil _ _, ?_, trivial⟩
  refine Le.trans (Le.own _ _ _) (le_of_eq ?_)
  show AV.sl .no 5 [tmX a, tmX b] = .sl .no 5 [tmA a, tmA b]
  rw [tmA_eq, tmA_eq]
theorem le_cells {xs ys : List AV} (h : LeL xs ys) : LeL xs ys := h

set_option maxRecDepth 100000 in
theorem Var_con (n : Int) : Ans Tryz.prog 104 [.i n] (tmX (.mk 1 n [] [] [])) := by
  intro H Q hq
  refine con_of_awp (esc := fun _ => false) tab_ok mixed Tryz.func104 rfl (ent Tryz.func104 (by kernel_rfl) rfl) (by kernel_rfl) ?_
  intro hw hn
  have hfin : Le (.agg [.i 1, .i n, .str [], .sl .full 0 [], .sl .full 0 []]) (tmX (.mk 1 n [] [] [])) := Le.agg ⟨Le.refl _, Le.refl _, Le.refl _, Le.nil _ _, Le.nil _ _, trivial⟩
  exact ⟨_, H, hfin, List.Sublist.refl _, hq⟩
set_option maxRecDepth 100000 in
theorem SortT_con (l : Lv) (hl : l.nodes ≤ 1000000) : Ans Tryz.prog 105 [lvX l] (tmX (.mk 2 0 [] [l] [])) := by
  intro H Q hq
  refine con_of_awp (esc := fun _ => false) tab_ok mixed Tryz.func105 rfl (ent Tryz.func105 (by kernel_rfl) rfl) (by kernel_rfl) ?_
  intro hw hn
  refine ⟨_, LeL.refl _, Max1_con _ l hl _ _ ?_⟩
  intro hz1 hz2; clear hz1 hz2
  have hl1 : Le (.sl .full 3 [lvX l]) (.sl .no 3 ([l].map lvA)) := Le.trans (Le.own _ _ _) (le_of_eq (by
    show AV.sl .no 3 [lvX l] = .sl .no 3 [lvA l]
    rw [lvA_eq]))
  have hfin : Le (.agg [.i 2, .i 0, .str [], .sl .full 3 [lvX l], .sl .full 0 []]) (tmX (.mk 2 0 [] [l] [])) := Le.agg ⟨Le.refl _, Le.refl _, Le.refl _, hl1, Le.nil _ _, trivial⟩
  exact ⟨_, H, hfin, List.Sublist.refl _, hq⟩
set_option maxRecDepth 100000 in
set_option maxHeartbeats 1000000 in
theorem Const_con (o : Own) (nm : List UInt8) (ls : List Lv) (hl : ∀ l ∈ ls, l.nodes ≤ 1000000) (hn : ls.length ≤ 1000000) : Ans Tryz.prog 109 [.str nm, .sl o 3 (ls.map lvA)] (tmX (.mk 3 0 nm ls [])) := by
  intro H Q hq
  refine con_of_awp (esc := fun _ => false) tab_ok mixed Tryz.func109 rfl (ent Tryz.func109 (by kernel_rfl) rfl) (by kernel_rfl) ?_
  intro hw hn
  clear hw hn
  refine ⟨Option Cap × Nat, fun p => ⟨[(4, .lp 4 0), (5, .lp 5 0), (10, .g (.sl o 3 (ls.map lvA))), (11, .g (.i ls.length)), (12, .g (.i p.2))], [(5, [.i 3, .i 0, .str nm, .sl (ownQ p.1) 3 ((ls.take p.2).map lvA), .sl .full 0 []]), (4, [.i 0, .i 0, .str [], .sl .full 0 [], .sl .full 0 []])], bufH p.1 H⟩,
    fun p => p.2 ≤ ls.length, fun p => ls.length - p.2, ⟨(none, 0), Nat.zero_le _, ?_⟩, ?_⟩
  · refine ⟨⟨⟨rfl, rfl⟩, ⟨rfl, rfl⟩, Le.refl _, le_of_eq ?_, Le.refl _, trivial⟩, ⟨⟨rfl, ⟨Le.refl _, Le.refl _, Le.refl _, Le.nil' _, Le.refl _, trivial⟩⟩, ⟨rfl, LeL.refl _⟩, trivial⟩, List.Sublist.refl _⟩
    show AV.i _ = AV.i _
    rw [List.length_map]
  · rintro ⟨q, j⟩ hj
    simp only at hj
    refine ifB_dec (fun h1 => ?_) (fun h1 => ?_)
    · simp only at h1
      have hlt : j < ls.length := by omega
      have hsn : (ls.take j).map lvA ++ [lvX ls[j]] = (ls.take (j + 1)).map lvA := by rw [List.take_succ_eq_append_getElem hlt, List.map_append, ← lvA_eq]; rfl
      have hnext : ∀ c' : Cap, Le (.sl (.own c') 3 ((ls.take j).map lvA ++ [lvX ls[j]])) (.sl (ownQ (some c')) 3 ((ls.take (j + 1)).map lvA)) := fun c' => by rw [hsn]; exact Le.refl _
      refine ⟨j, rfl, _, lvAt hlt, ?_⟩
      refine ⟨[0, 1, 2, 3, 4, 5, 6, 7, 8], [], by kernel_rfl, by simp, ?_⟩
      refine ⟨_, LeL.refl _, Max1_con _ ls[j] (hl _ (List.getElem_mem hlt)) _ _ ?_⟩
      intro hz1 hz2; clear hz1 hz2
      refine ⟨?_, ?_⟩
      · simp only [List.length_map, List.length_cons, List.length_nil]
        try simp only [List.length_take]
        show _ * (40 + 1) ≤ _
        omega
      refine own_of (q := q) (H0 := H) ?_ ?_ ?_ (fun c hc => ?_)
      · exact rfl
      · exact rfl
      · exact fun _ h => h
      refine ⟨in64_of (by first | omega | (dsimp only; omega)) (by first | omega | (dsimp only; omega)), ?_⟩
      exact ⟨(some c, j + 1), (by simp only; omega), by (try dsimp only); omega, ⟨⟨⟨rfl, rfl⟩, ⟨rfl, rfl⟩, Le.refl _, Le.refl _, Le.refl _, trivial⟩, ⟨⟨rfl, ⟨Le.refl _, Le.refl _, Le.refl _, hnext c, Le.refl _, trivial⟩⟩, ⟨rfl, LeL.refl _⟩, trivial⟩, List.Sublist.refl _⟩⟩
    · simp only at h1
      have hj' : ls.length = j := by omega
      subst hj'
      have hfin : Le (.agg [.i 3, .i 0, .str nm, .sl (ownQ q) 3 ((ls.take ls.length).map lvA), .sl .full 0 []]) (tmX (.mk 3 0 nm ls [])) := Le.agg ⟨Le.refl _, Le.refl _, Le.refl _, Le.trans (ownQ_le _ _ _) (le_of_eq (by rw [List.take_length]; rfl)), Le.nil _ _, trivial⟩
      exact ⟨_, _, hfin, bufH_sub q _, hq⟩
set_option maxRecDepth 100000 in
set_option maxHeartbeats 1000000 in
theorem App_con (o : Own) (f : Tm) (ts : List Tm) (hf : f.nodes ≤ 1000000) (ht : ∀ t ∈ ts, t.nodes ≤ 1000000) (hl : ts.length ≤ 1000000) : Ans Tryz.prog 54 [tmX f, .sl o 5 (ts.map tmA)] (tmX (tmAps f ts)) := by
  intro H Q hq
  refine con_of_awp (esc := fun _ => false) tab_ok mixed Tryz.func54 rfl (ent Tryz.func54 (by kernel_rfl) rfl) (by kernel_rfl) ?_
  intro hw hn
  clear hw hn
  refine ⟨_, LeL.refl _, fresh_con _ f hf (Nat.le_refl _) _ _ ?_⟩
  intro hz1 hz2; clear hz1 hz2
  refine ⟨Nat, fun j => ⟨[(4, .lp 4 0), (5, .lp 5 0), (10, .g (.sl o 5 (ts.map tmA))), (11, .g (.i ts.length)), (12, .g (.i j))], [(5, (tmX (tmAps f (ts.take j))).cells), (4, [.i 0, .i 0, .str [], .sl .full 0 [], .sl .full 0 []]), (2, (tmX f).cells)], H⟩, fun j => j ≤ ts.length, fun j => ts.length - j, ⟨0, Nat.zero_le _, ?_⟩, ?_⟩
  · refine ⟨⟨⟨rfl, rfl⟩, ⟨rfl, rfl⟩, Le.refl _, le_of_eq ?_, Le.refl _, trivial⟩, ⟨⟨rfl, LeL.refl _⟩, ⟨rfl, LeL.refl _⟩, ⟨rfl, LeL.refl _⟩, trivial⟩, List.Sublist.refl _⟩
    show AV.i _ = AV.i _
    rw [List.length_map]
  · intro j hj
    refine ifB_dec (fun h1 => ?_) (fun h1 => ?_)
    · have hlt : j < ts.length := by omega
      refine ⟨j, rfl, _, tmAt' hlt, ?_⟩
      refine ⟨[0, 1, 2, 3, 4, 5], [], by kernel_rfl, by simp, ?_⟩
      refine ⟨_, LeL.refl _, fresh_con _ ts[j] (ht _ (List.getElem_mem hlt)) (Nat.le_refl _) _ _ ?_⟩
      intro hz1 hz2; clear hz1 hz2
      refine ⟨in64_of (by first | omega | (dsimp only; omega)) (by first | omega | (dsimp only; omega)), ?_⟩
      refine ⟨j + 1, by omega, by (try dsimp only); omega, ⟨⟨⟨rfl, rfl⟩, ⟨rfl, rfl⟩, Le.refl _, Le.refl _, Le.refl _, trivial⟩, ⟨⟨rfl, ?_⟩, ⟨rfl, LeL.refl _⟩, ⟨rfl, LeL.refl _⟩, trivial⟩, List.Sublist.refl _⟩⟩
      rw [tmAps_snoc hlt]
      refine ⟨Le.refl _, Le.refl _, Le.refl _, Le.nil _ _, ?_, trivial⟩
      refine Le.trans (Le.own _ _ _) (le_of_eq ?_)
      show AV.sl .no 5 [tmX _, tmX _] = .sl .no 5 [tmA _, tmA _]
      rw [tmA_eq, tmA_eq]
    · have hj' : ts.length = j := by omega
      subst hj'
      exact ⟨_, H, le_of_eq (by rw [List.take_length]; rfl), List.Sublist.refl _, hq⟩
set_option maxRecDepth 100000 in
set_option maxHeartbeats 1000000 in
theorem over_con (o : Own) (k : Int) (body : Tm) (ts : List Tm) (hf : body.nodes ≤ 1000000) (ht : ∀ t ∈ ts, t.nodes ≤ 1000000) : Ans Tryz.prog 119 [.i k, tmX body, .sl o 5 (ts.map tmA)] (tmX (tmOver k body ts)) := by
  intro H Q hq
  refine con_of_sem tab_ok Tryz.func119 rfl (ent Tryz.func119 (by kernel_rfl) rfl) (by kernel_rfl) ?_
  intro hw hn
  clear hw hn
  refine sem_seq (esc := [3, 6, 7].contains) tab_ok mixed ?_
  intro b3 hb3 b6 hb6
  refine sem_seq (esc := [3, 6, 7].contains) tab_ok mixed ?_
  refine ⟨_, LeL.refl _, fresh_con _ body hf (Nat.le_refl _) _ _ ?_⟩
  intro hz1 hz2; clear hz1 hz2
  intro b7 hb7
  refine ⟨_, _, .here, Nat.le_refl _, ?_⟩
  refine sem_then ?_
  refine sem_seq (esc := [3, 6, 7].contains) tab_ok mixed ?_
  refine ⟨_, LeL.refl _, Backward_con o ts _ _ ?_⟩
  intro hz1 hz2; clear hz1 hz2
  refine sem_block ?_
  refine sem_range (esc := [3, 6, 7].contains) (X := Nat) (Y := Unit) tab_ok mixed (ent Tryz.func185 (by kernel_rfl) rfl) (Backward_iter o ts) [(3, .g (.ptr b3 0)), (6, .g (.ptr b6 0)), (7, .g (.ptr b7 0)), (13, .g (.fn (.func 185) [.ip [.sl o 5 (ts.map tmA)]]))]
    (fun i => (b7, .cells (tmX (tmOver k body (ts.drop (ts.length - i)))).cells) :: (b6, .cells [.i 0, .i 0, .str [], .sl .full 0 [], .sl .full 0 []]) :: (b3, .cells [.i k]) :: H)
    (fun i x => x = i) (fun _ => H) (fun _ _ => False) rfl (fun args ha => by obtain ⟨s, _, rfl⟩ := List.mem_map.1 ha; rfl) ⟨0, rfl, ?_⟩ ?_ ?_ nofun
  · refine ⟨⟨Le.refl _, Le.refl _, Le.refl _, Le.refl _, trivial⟩, HLe.eq ?_⟩
    rw [Nat.sub_zero, List.drop_length]
    rfl
  · rintro i args x hi hx _ _
    subst hx
    have hlt : x < ts.length := by
      have := (List.getElem?_eq_some_iff.1 hi).1
      rwa [backEach, List.length_map, List.length_range] at this
    have hlt2 : ts.length - 1 - x < ts.length := by omega
    obtain rfl : [.i ((ts.length - 1 - x : Nat) : Int), tmX ts[ts.length - 1 - x]] = args := by
      rw [backEach, List.getElem?_map, List.getElem?_range hlt] at hi
      simp only [Option.map_some, Option.some.injEq] at hi
      rw [← hi, List.getD_eq_getElem?_getD, List.getElem?_eq_getElem hlt2]
      rfl
    have hstep : tmOver k body (ts.drop (ts.length - (x + 1))) = .mk k 0 [] [] [ts[ts.length - 1 - x], tmOver k body (ts.drop (ts.length - x))] := by
      rw [show ts.length - (x + 1) = ts.length - 1 - x by omega, tmOver_step hlt2, show ts.length - 1 - x + 1 = ts.length - x by omega]
    refine ⟨[0, 1, 3, 2, 4, 5, 6], [(b7, .cells (tmX (tmOver k body (ts.drop (ts.length - x)))).cells), (b3, .cells [.i k])], by kernel_rfl, ?_, ?_⟩
    · intro p hp
      rcases List.mem_cons.1 hp with rfl | hp
      · exact List.mem_cons_self
      · obtain rfl := List.mem_singleton.1 hp
        exact List.mem_cons_of_mem _ (List.mem_cons_of_mem _ List.mem_cons_self)
    refine ⟨_, List.mem_cons_of_mem _ (List.mem_singleton.2 rfl), ?_⟩
    refine ⟨_, List.mem_cons_self, ?_⟩
    refine ⟨_, LeL.refl _, fresh_con _ ts[ts.length - 1 - x] (ht _ (List.getElem_mem hlt2)) (Nat.le_refl _) _ _ ?_⟩
    intro hz1 hz2; clear hz1 hz2
    refine ⟨?_, ?_⟩
    · intro p hp
      rcases List.mem_cons.1 hp with rfl | hp
      · exact List.mem_cons_self
      · obtain rfl := List.mem_singleton.1 hp
        exact List.mem_cons_of_mem _ (List.mem_cons_of_mem _ List.mem_cons_self)
    refine ⟨_, _, .here, Nat.le_refl _, ?_⟩
    refine ⟨x + 1, rfl, ?_⟩
    simp only
    rw [hstep]
    refine HLe.here ⟨Le.refl _, Le.refl _, Le.refl _, Le.nil _ _, ?_, trivial⟩ (HLe.refl _)
    refine Le.trans (Le.own _ _ _) (le_of_eq ?_)
    show AV.sl .no 5 [tmX _, tmX _] = .sl .no 5 [tmA _, tmA _]
    rw [tmA_eq, tmA_eq]
  · rintro x rfl
    have hln : (backEach ts).length = ts.length := by rw [backEach, List.length_map, List.length_range]
    refine sem_of (esc := [3, 6, 7].contains) tab_ok mixed ?_
    refine ⟨_, List.mem_cons_self, ?_⟩
    refine ⟨_, _, .there .here, Nat.le_refl _, ?_⟩
    refine ⟨_, List.mem_cons_of_mem _ List.mem_cons_self, ?_⟩
    refine ⟨_, H, le_of_eq ?_, ?_, hq⟩
    · show tmX (tmOver k body (ts.drop (ts.length - (backEach ts).length))) = _
      rw [hln, Nat.sub_self]
      rfl
    · exact ((List.sublist_cons_self _ _).trans (List.sublist_cons_self _ _)).trans (List.sublist_cons_self _ _)
set_option maxRecDepth 100000 in
theorem Lam_con (o : Own) (body : Tm) (ts : List Tm) (hf : body.nodes ≤ 1000000) (ht : ∀ t ∈ ts, t.nodes ≤ 1000000) : Ans Tryz.prog 55 [tmX body, .sl o 5 (ts.map tmA)] (tmX (tmOver 5 body ts)) := by
  intro H Q hq
  refine con_of_awp (esc := fun _ => false) tab_ok mixed Tryz.func55 rfl (ent Tryz.func55 (by kernel_rfl) rfl) (by kernel_rfl) ?_
  intro hw hn
  refine ⟨_, LeL.refl _, over_con o 5 body ts hf ht _ _ ?_⟩
  intro hz1 hz2; clear hz1 hz2
  exact ⟨_, H, Le.refl _, List.Sublist.refl _, hq⟩
set_option maxRecDepth 100000 in
theorem Pi_con (o : Own) (body : Tm) (ts : List Tm) (hf : body.nodes ≤ 1000000) (ht : ∀ t ∈ ts, t.nodes ≤ 1000000) : Ans Tryz.prog 56 [tmX body, .sl o 5 (ts.map tmA)] (tmX (tmOver 6 body ts)) := by
  intro H Q hq
  refine con_of_awp (esc := fun _ => false) tab_ok mixed Tryz.func56 rfl (ent Tryz.func56 (by kernel_rfl) rfl) (by kernel_rfl) ?_
  intro hw hn
  refine ⟨_, LeL.refl _, over_con o 6 body ts hf ht _ _ ?_⟩
  intro hz1 hz2; clear hz1 hz2
  exact ⟨_, H, Le.refl _, List.Sublist.refl _, hq⟩
set_option maxRecDepth 100000 in
set_option maxHeartbeats 1000000 in
theorem made_con (o : Own) (k : Int) (ts : List Tm) (ht : ∀ t ∈ ts, t.nodes ≤ 1000000) (hl : ts.length ≤ 1000000) : Ans Tryz.prog 155 [.i k, .sl o 5 (ts.map tmA)] (tmX (.mk k 0 [] [] ts)) := by
  intro H Q hq
  refine con_of_awp (esc := fun _ => false) tab_ok mixed Tryz.func155 rfl (ent Tryz.func155 (by kernel_rfl) rfl) (by kernel_rfl) ?_
  intro hw hn
  clear hw hn
  refine ⟨Option Cap × Nat, fun p => ⟨[(4, .lp 4 0), (5, .lp 5 0), (10, .g (.sl o 5 (ts.map tmA))), (11, .g (.i ts.length)), (12, .g (.i p.2))], [(5, [.i k, .i 0, .str [], .sl .full 0 [], .sl (ownQ p.1) 5 ((ts.take p.2).map tmA)]), (4, [.i 0, .i 0, .str [], .sl .full 0 [], .sl .full 0 []])], bufH p.1 H⟩,
    fun p => p.2 ≤ ts.length, fun p => ts.length - p.2, ⟨(none, 0), Nat.zero_le _, ?_⟩, ?_⟩
  · refine ⟨⟨⟨rfl, rfl⟩, ⟨rfl, rfl⟩, Le.refl _, le_of_eq ?_, Le.refl _, trivial⟩, ⟨⟨rfl, ⟨Le.refl _, Le.refl _, Le.refl _, Le.refl _, Le.nil' _, trivial⟩⟩, ⟨rfl, LeL.refl _⟩, trivial⟩, List.Sublist.refl _⟩
    show AV.i _ = AV.i _
    rw [List.length_map]
  · rintro ⟨q, j⟩ hj
    simp only at hj
    refine ifB_dec (fun h1 => ?_) (fun h1 => ?_)
    · simp only at h1
      have hlt : j < ts.length := by omega
      have hsn : (ts.take j).map tmA ++ [tmX ts[j]] = (ts.take (j + 1)).map tmA := by rw [List.take_succ_eq_append_getElem hlt, List.map_append, ← tmA_eq]; rfl
      have hnext : ∀ c' : Cap, Le (.sl (.own c') 5 ((ts.take j).map tmA ++ [tmX ts[j]])) (.sl (ownQ (some c')) 5 ((ts.take (j + 1)).map tmA)) := fun c' => by rw [hsn]; exact Le.refl _
      refine ⟨j, rfl, _, tmAt' hlt, ?_⟩
      refine ⟨[0, 1, 2, 3, 4, 5, 6, 7], [], by kernel_rfl, by simp, ?_⟩
      refine ⟨_, LeL.refl _, fresh_con _ ts[j] (ht _ (List.getElem_mem hlt)) (Nat.le_refl _) _ _ ?_⟩
      intro hz1 hz2; clear hz1 hz2
      refine ⟨?_, ?_⟩
      · simp only [List.length_map, List.length_cons, List.length_nil]
        try simp only [List.length_take]
        show _ * (80 + 1) ≤ _
        omega
      refine own_of (q := q) (H0 := H) ?_ ?_ ?_ (fun c hc => ?_)
      · exact rfl
      · exact rfl
      · exact fun _ h => h
      refine ⟨in64_of (by first | omega | (dsimp only; omega)) (by first | omega | (dsimp only; omega)), ?_⟩
      exact ⟨(some c, j + 1), (by simp only; omega), by (try dsimp only); omega, ⟨⟨⟨rfl, rfl⟩, ⟨rfl, rfl⟩, Le.refl _, Le.refl _, Le.refl _, trivial⟩, ⟨⟨rfl, ⟨Le.refl _, Le.refl _, Le.refl _, Le.refl _, hnext c, trivial⟩⟩, ⟨rfl, LeL.refl _⟩, trivial⟩, List.Sublist.refl _⟩⟩
    · simp only at h1
      have hj' : ts.length = j := by omega
      subst hj'
      have hfin : Le (.agg [.i k, .i 0, .str [], .sl .full 0 [], .sl (ownQ q) 5 ((ts.take ts.length).map tmA)]) (tmX (.mk k 0 [] [] ts)) := Le.agg ⟨Le.refl _, Le.refl _, Le.refl _, Le.nil _ _, Le.trans (ownQ_le _ _ _) (le_of_eq (by rw [List.take_length]; rfl)), trivial⟩
      exact ⟨_, _, hfin, bufH_sub q _, hq⟩
set_option maxRecDepth 100000 in
theorem Let_con (a b c : Tm) (h1 : a.nodes ≤ 1000000) (h2 : b.nodes ≤ 1000000) (h3 : c.nodes ≤ 1000000) : Ans Tryz.prog 111 [tmX a, tmX b, tmX c] (tmX (.mk 7 0 [] [] [a, b, c])) := by
  intro H Q hq
  refine con_of_awp (esc := fun _ => false) tab_ok mixed Tryz.func111 rfl (ent Tryz.func111 (by kernel_rfl) rfl) (by kernel_rfl) ?_
  intro hw hn
  clear hw hn
  refine ⟨[.i 7, .sl .full 5 ([a, b, c].map tmA)], ⟨Le.refl _, le_of_eq ?_, trivial⟩, made_con .full 7 [a, b, c] ?_ (by simp) _ _ ?_⟩
  · show AV.sl .full 5 [tmX a, tmX b, tmX c] = .sl .full 5 [tmA a, tmA b, tmA c]
    rw [tmA_eq, tmA_eq, tmA_eq]
  · intro t ht
    simp only [List.mem_cons, List.not_mem_nil, or_false] at ht
    rcases ht with rfl | rfl | rfl <;> assumption
  intro hz1 hz2; clear hz1 hz2
  exact ⟨_, H, Le.refl _, List.Sublist.refl _, hq⟩
end Go.Proofs.YtnjnfegafmhgnaaGreatDoor

/-
  term's loose, Loose, lift; slices.Reverse over terms; term.Spine. No condition.
-/
namespace Go.Proofs.YtnjnfegafmhgnaaGreatDoor
open Go.RowKit

/-! loose -/
theorem tmFit_kind {p vars : Int} {t : Tm} (h : tmFit p t vars = true) : (decide (1 ≤ t.kind) && decide (t.kind ≤ 7)) = true := by
  rw [tmFit_eq, shape_node] at h
  simp only [Bool.and_eq_true] at h ⊢
  exact h.1.1.1
set_option maxRecDepth 100000 in
set_option maxHeartbeats 1000000 in
theorem loose_con (p : Int) : ∀ (N : Nat) (l : Tm) (deep vars : Int), l.nodes ≤ N → tmFit p l vars = true → vars + N ≤ 4611686018427387904 → 0 ≤ deep → deep + N ≤ 4611686018427387904 → Ans Tryz.prog 112 [tmX l, .i deep] (.i (tmLoose l deep)) := by
  intro N
  induction N with
  | zero => intro l d v h; have := l.nodes_pos; omega
  | succ N ih =>
    intro l deep vars hN hfit hv hd0 hd1 H Q hq
    have hnd := l.nodes_eq
    have hl := tmLoose_eq l deep
    have hfl := tmFit_argL hfit
    have hkd := tmFit_kind hfit
    refine con_of_awp (esc := fun _ => false) tab_ok mixed Tryz.func112 rfl (ent Tryz.func112 (by kernel_rfl) rfl) (by kernel_rfl) ?_
    intro hw hn
    have hlena := (hw (tmX l) (by simp)).targs
    clear hw hn
    refine ifB_dec (fun h1 => ?_) (fun h1 => ?_)
    · have hvn := tmFit_var hfit h1
      rw [if_pos h1] at hl
      refine ⟨in64_of (by first | omega | (dsimp only; omega)) (by first | omega | (dsimp only; omega)), ?_⟩
      refine ⟨in64_of (by first | omega | (dsimp only; omega)) (by first | omega | (dsimp only; omega)), ?_⟩
      exact ⟨_, H, ret_i hl.symm, List.Sublist.refl _, hq⟩
    · rw [if_neg h1] at hl
      refine ⟨_, LeL.refl _, shaped_con _ _ _ ?_⟩
      intro hz1 hz2; clear hz1 hz2
      refine ⟨Nat × Int, fun p => ⟨[(1, .g (.i deep)), (5, .lp 5 0), (7, .g (.i p.2)), (26, .g (.sl .no 5 (l.args.map tmA))), (27, .g (.i l.args.length)), (28, .g (.i p.1))], [(5, (shX (shapeOf l.kind)).cells), (2, (tmX l).cells)], H⟩,
        fun q => q.1 ≤ l.args.length ∧ tmLooseL l.kind l.args 0 deep = max q.2 (tmLooseL l.kind (l.args.drop q.1) q.1 deep) ∧ tmFitL p l.kind (l.args.drop q.1) q.1 vars = true ∧ 0 ≤ q.2, fun q => l.args.length - q.1, ⟨(0, 0), ⟨Nat.zero_le _, ?_, hfl, Int.le_refl _⟩, ?_⟩, ?_⟩
      · have := tmLooseL_nonneg l.kind l.args 0 deep
        show _ = max 0 (tmLooseL l.kind l.args 0 deep)
        omega
      · refine ⟨⟨Le.refl _, ⟨rfl, rfl⟩, Le.refl _, Le.refl _, le_of_eq ?_, Le.refl _, trivial⟩, ⟨⟨rfl, LeL.refl _⟩, ⟨rfl, LeL.refl _⟩, trivial⟩, List.Sublist.refl _⟩
        show AV.i _ = AV.i _
        rw [List.length_map]
      · rintro ⟨j, out⟩ ⟨hj, hinv, hft, ho⟩
        simp only at hj hinv hft ho
        refine ifB_dec (fun h2 => ?_) (fun h2 => ?_)
        · simp only at h2
          have hlt : j < l.args.length := by omega
          have hmem := Tm.nodesL_mem (List.getElem_mem hlt)
          rw [tmLooseL_at hlt] at hinv
          rw [tmFitL_at hlt, Bool.and_eq_true] at hft
          have hb := shape_bind l.kind j hkd
          have hdeep : (if (j : Int) = (shapeOf l.kind).2.2 then deep + 1 else deep) = (if tmBind l.kind j = true then deep + 1 else deep) := by simp only [hb]
          have hd2 : 0 ≤ (if tmBind l.kind j = true then deep + 1 else deep) ∧ (if tmBind l.kind j = true then deep + 1 else deep) ≤ deep + 1 := by split <;> omega
          have hv2 : (if tmBind l.kind j = true then vars + 1 else vars) ≤ vars + 1 := by split <;> omega
          refine ⟨j, rfl, _, tmAt' hlt, ?_⟩
          refine ⟨[0, 1, 2, 3, 4, 5, 6, 7, 8], [], by kernel_rfl, by simp, ?_⟩
          refine ⟨_, LeL.refl _, (inner_con (shapeOf l.kind) j deep (in64_of (by omega) (by omega))).to (by rw [hdeep]) _ _ ?_⟩
          intro hz1 hz2; clear hz1 hz2
          refine ⟨_, LeL.refl _, ih l.args[j] (if tmBind l.kind j = true then deep + 1 else deep) (if tmBind l.kind j = true then vars + 1 else vars) (by omega) hft.1 (by omega) hd2.1 (by omega) _ _ ?_⟩
          intro hz1 hz2; clear hz1 hz2
          refine ⟨in64_of (by first | omega | (dsimp only; omega)) (by first | omega | (dsimp only; omega)), ?_⟩
          refine ⟨(j + 1, max out (tmLoose l.args[j] (if tmBind l.kind j = true then deep + 1 else deep))), ⟨by simp only; omega, ?_, hft.2, by simp only; omega⟩, by (try dsimp only); omega, ?_⟩
          · simp only
            rw [hinv]
            omega
          · (constructor <;> repeat' (first | exact trivial | exact ⟨rfl, rfl⟩ | exact ⟨rfl, LeL.refl _⟩ | exact Le.refl _ | exact List.Sublist.refl _ | (show Le (AV.i _) (AV.i _); rw [List.length_map]; exact Le.refl _) | refine And.intro ?_ ?_))
        · simp only at h2
          have hj' : j = l.args.length := by omega
          rw [hj', List.drop_length, tmLooseL] at hinv
          exact ⟨_, H, ret_i (by rw [hl, hinv]; omega), List.Sublist.refl _, hq⟩
/-- how many variables a term needs; 0, if it is not right -/
def tmNeeds (t : Tm) : Int := if tmRight 4 1125899906842624 t = true then tmLoose t 0 else 0
set_option maxRecDepth 100000 in
theorem Loose_con (t : Tm) : Ans Tryz.prog 48 [tmX t] (.i (tmNeeds t)) := by
  intro H Q hq
  unfold tmNeeds at hq
  refine con_of_awp (esc := fun _ => false) tab_ok mixed Tryz.func48 rfl (ent Tryz.func48 (by kernel_rfl) rfl) (by kernel_rfl) ?_
  intro hw hn
  by_cases h1 : tmRight 4 1125899906842624 t = true
  · rw [if_pos h1] at hq
    have h2 := h1
    unfold tmRight at h2
    simp only [Bool.and_eq_true, decide_eq_true_eq] at h2
    refine ⟨_, LeL.refl _, (tmRight_con 4 1125899906842624 t).yes h1 _ _ ?_⟩
    intro hz1 hz2; clear hz1 hz2
    refine ⟨_, LeL.refl _, loose_con 4 _ t 0 _ (Nat.le_refl _) h2.2 (by omega) (by omega) (by omega) _ _ ?_⟩
    intro hz1 hz2; clear hz1 hz2
    exact ⟨_, H, Le.refl _, List.Sublist.refl _, hq⟩
  · rw [if_neg h1] at hq
    refine ⟨_, LeL.refl _, (tmRight_con 4 1125899906842624 t).no h1 _ _ ?_⟩
    intro hz1 hz2; clear hz1 hz2
    exact ⟨_, H, Le.refl _, List.Sublist.refl _, hq⟩

/-! lift -/
mutual
/-- a term, in deep binders, with some added to its loose variables -/
def tmLift (by_ : Int) : Tm → Int → Tm
  | .mk k n nm ls xs, deep => .mk k (if k = 1 ∧ deep ≤ n then n + by_ else n) nm ls (tmLiftL by_ k xs 0 deep)
def tmLiftL (by_ k : Int) : List Tm → Nat → Int → List Tm
  | [], _, _ => []
  | t :: ts, i, deep => tmLift by_ t (if tmBind k i = true then deep + 1 else deep) :: tmLiftL by_ k ts (i + 1) deep
end
theorem tmLift_eq (c : Int) (t : Tm) (deep : Int) : tmLift c t deep = .mk t.kind (if t.kind = 1 ∧ deep ≤ t.n then t.n + c else t.n) t.name t.levels (tmLiftL c t.kind t.args 0 deep) := by cases t; rfl
theorem tmLiftL_len (c k : Int) : ∀ (ts : List Tm) (i : Nat) (deep : Int), (tmLiftL c k ts i deep).length = ts.length
  | [], _, _ => rfl
  | t :: ts, i, deep => by rw [tmLiftL, List.length_cons, List.length_cons, tmLiftL_len c k ts]
theorem tmLiftL_get (c k : Int) : ∀ (ts : List Tm) (i : Nat) (deep : Int) (j : Nat) (h : j < ts.length), (tmLiftL c k ts i deep)[j]'(by rw [tmLiftL_len]; exact h) = tmLift c ts[j] (if tmBind k (i + j) = true then deep + 1 else deep)
  | t :: ts, i, deep, 0, _ => by simp [tmLiftL]
  | t :: ts, i, deep, j + 1, h => by
    have := tmLiftL_get c k ts (i + 1) deep j (by simpa using h)
    simp only [tmLiftL, List.getElem_cons_succ]
    rw [this, show i + 1 + j = i + (j + 1) by omega]
theorem tmLiftL_take {c k : Int} {ts : List Tm} {deep : Int} {j : Nat} (h : j < ts.length) : (tmLiftL c k ts 0 deep).take (j + 1) = (tmLiftL c k ts 0 deep).take j ++ [tmLift c ts[j] (if tmBind k j = true then deep + 1 else deep)] := by
  rw [List.take_succ_eq_append_getElem (by rw [tmLiftL_len]; exact h), tmLiftL_get c k ts 0 deep j h, Nat.zero_add]
set_option maxRecDepth 100000 in
set_option maxHeartbeats 1000000 in
theorem lift_con (p c : Int) (hc0 : 0 ≤ c) (hc1 : c ≤ 1125899906842624) : ∀ (N : Nat) (t : Tm) (deep vars : Int), t.nodes ≤ N → tmFit p t vars = true → vars + N ≤ 2305843009213693952 → 0 ≤ deep → deep + N ≤ 4611686018427387904 → N ≤ 1000000 → Ans Tryz.prog 115 [tmX t, .i c, .i deep] (tmX (tmLift c t deep)) := by
  intro N
  induction N with
  | zero => intro l d v h; have := l.nodes_pos; omega
  | succ N ih =>
    intro t deep vars hN hfit hv hd0 hd1 hN1 H Q hq
    have hnd := t.nodes_eq
    have htl := tmLen_nodes t.args
    have hfl := tmFit_argL hfit
    have hkd := tmFit_kind hfit
    obtain ⟨n', hn'⟩ : ∃ n', (if t.kind = 1 ∧ deep ≤ t.n then t.n + c else t.n) = n' := ⟨_, rfl⟩
    rw [tmLift_eq, hn'] at hq
    refine con_of_sem tab_ok Tryz.func115 rfl (ent Tryz.func115 (by kernel_rfl) rfl) (by kernel_rfl) ?_
    intro hw hn
    clear hw hn
    refine sem_seq (esc := fun _ => false) tab_ok mixed ?_
    refine sem_seq (esc := fun _ => false) tab_ok mixed ?_
    refine sem_join (esc := fun _ => false) tab_ok mixed (X := Unit) (fun _ => ⟨[(1, .g (.i c)), (2, .g (.i deep)), (3, .lp 3 0), (6, .lp 6 0), (7, .lp 7 0)], [(7, [.i t.kind, .i n', .str t.name, .sl .no 3 (t.levels.map lvA), .sl .no 5 (t.args.map tmA)]), (6, [.i 0, .i 0, .str [], .sl .full 0 [], .sl .full 0 []]), (3, (tmX t).cells)], H⟩) (fun _ => True) ?_ (fun _ _ => ?_)
    · refine ifB_dec (fun h1 => ?_) (fun h1 => ?_)
      · have hvn := tmFit_var hfit h1
        refine ifB_dec (fun h2 => ?_) (fun h2 => ?_)
        · rw [if_pos ⟨h1, h2⟩] at hn'
          refine ⟨in64_of (by first | omega | (dsimp only; omega)) (by first | omega | (dsimp only; omega)), ?_⟩
          refine ⟨(), trivial, ⟨⟨Le.refl _, Le.refl _, ⟨rfl, rfl⟩, ⟨rfl, rfl⟩, ⟨rfl, rfl⟩, trivial⟩, ⟨⟨rfl, ⟨Le.refl _, ret_i hn', Le.refl _, Le.refl _, Le.refl _, trivial⟩⟩, ⟨rfl, LeL.refl _⟩, ⟨rfl, LeL.refl _⟩, trivial⟩, List.Sublist.refl _⟩⟩
        · rw [if_neg (fun h => h2 h.2)] at hn'
          refine ⟨(), trivial, ⟨⟨Le.refl _, Le.refl _, ⟨rfl, rfl⟩, ⟨rfl, rfl⟩, ⟨rfl, rfl⟩, trivial⟩, ⟨⟨rfl, ⟨Le.refl _, ret_i hn', Le.refl _, Le.refl _, Le.refl _, trivial⟩⟩, ⟨rfl, LeL.refl _⟩, ⟨rfl, LeL.refl _⟩, trivial⟩, List.Sublist.refl _⟩⟩
      · rw [if_neg (fun h => h1 h.1)] at hn'
        refine ⟨(), trivial, ⟨⟨Le.refl _, Le.refl _, ⟨rfl, rfl⟩, ⟨rfl, rfl⟩, ⟨rfl, rfl⟩, trivial⟩, ⟨⟨rfl, ⟨Le.refl _, ret_i hn', Le.refl _, Le.refl _, Le.refl _, trivial⟩⟩, ⟨rfl, LeL.refl _⟩, ⟨rfl, LeL.refl _⟩, trivial⟩, List.Sublist.refl _⟩⟩
    refine sem_of (esc := fun _ => false) tab_ok mixed ?_
    refine ⟨_, LeL.refl _, shaped_con _ _ _ ?_⟩
    intro hz1 hz2; clear hz1 hz2
    refine ⟨Option Cap × Nat, fun q => ⟨[(1, .g (.i c)), (2, .g (.i deep)), (6, .lp 6 0), (7, .lp 7 0), (8, .lp 8 0), (35, .g (.sl .no 5 (t.args.map tmA))), (36, .g (.i t.args.length)), (37, .g (.i q.2))], [(8, (shX (shapeOf t.kind)).cells), (7, [.i t.kind, .i n', .str t.name, .sl .no 3 (t.levels.map lvA), .sl (ownQ q.1) 5 (((tmLiftL c t.kind t.args 0 deep).take q.2).map tmA)]), (6, [.i 0, .i 0, .str [], .sl .full 0 [], .sl .full 0 []]), (3, (tmX t).cells)], bufH q.1 H⟩,
      fun q => q.2 ≤ t.args.length ∧ tmFitL p t.kind (t.args.drop q.2) q.2 vars = true, fun q => t.args.length - q.2, ⟨(none, 0), ⟨Nat.zero_le _, hfl⟩, ?_⟩, ?_⟩
    · refine ⟨⟨Le.refl _, Le.refl _, ⟨rfl, rfl⟩, ⟨rfl, rfl⟩, ⟨rfl, rfl⟩, Le.refl _, le_of_eq ?_, Le.refl _, trivial⟩, ⟨⟨rfl, LeL.refl _⟩, ⟨rfl, ⟨Le.refl _, Le.refl _, Le.refl _, Le.refl _, Le.nil' _, trivial⟩⟩, ⟨rfl, LeL.refl _⟩, ⟨rfl, LeL.refl _⟩, trivial⟩, List.Sublist.refl _⟩
      show AV.i _ = AV.i _
      rw [List.length_map]
    · rintro ⟨q, j⟩ ⟨hj, hft⟩
      simp only at hj hft
      refine ifB_dec (fun h1 => ?_) (fun h1 => ?_)
      · simp only at h1
        have hlt : j < t.args.length := by omega
        have hmem := Tm.nodesL_mem (List.getElem_mem hlt)
        rw [tmFitL_at hlt, Bool.and_eq_true] at hft
        have hb := shape_bind t.kind j hkd
        have hdeep : (if (j : Int) = (shapeOf t.kind).2.2 then deep + 1 else deep) = (if tmBind t.kind j = true then deep + 1 else deep) := by simp only [hb]
        have hd2 : 0 ≤ (if tmBind t.kind j = true then deep + 1 else deep) ∧ (if tmBind t.kind j = true then deep + 1 else deep) ≤ deep + 1 := by split <;> omega
        have hv2 : (if tmBind t.kind j = true then vars + 1 else vars) ≤ vars + 1 := by split <;> omega
        obtain ⟨d2, hd2e⟩ : ∃ d2, (if tmBind t.kind j = true then deep + 1 else deep) = d2 := ⟨_, rfl⟩
        have hsn : ((tmLiftL c t.kind t.args 0 deep).take j).map tmA ++ [tmX (tmLift c t.args[j] d2)] = ((tmLiftL c t.kind t.args 0 deep).take (j + 1)).map tmA := by rw [tmLiftL_take hlt, List.map_append, ← tmA_eq, hd2e]; rfl
        have hnext : ∀ c' : Cap, Le (.sl (.own c') 5 (((tmLiftL c t.kind t.args 0 deep).take j).map tmA ++ [tmX (tmLift c t.args[j] d2)])) (.sl (ownQ (some c')) 5 (((tmLiftL c t.kind t.args 0 deep).take (j + 1)).map tmA)) := fun c' => by rw [hsn]; exact Le.refl _
        have hlen2 : ((tmLiftL c t.kind t.args 0 deep).take j).length ≤ t.args.length := by rw [List.length_take, tmLiftL_len]; omega
        rw [hd2e] at hd2 hdeep
        refine ⟨j, rfl, _, tmAt' hlt, ?_⟩
        refine ⟨[0, 1, 2, 3, 4, 5, 6, 7, 8, 9, 10, 11, 12], [], by kernel_rfl, by simp, ?_⟩
        refine ⟨_, LeL.refl _, (inner_con (shapeOf t.kind) j deep (in64_of (by omega) (by omega))).to (by rw [hdeep]) _ _ ?_⟩
        intro hz1 hz2; clear hz1 hz2
        refine ⟨_, LeL.refl _, ih t.args[j] d2 (if tmBind t.kind j = true then vars + 1 else vars) (by omega) hft.1 (by omega) hd2.1 (by omega) (by omega) _ _ ?_⟩
        intro hz1 hz2; clear hz1 hz2
        refine ⟨?_, ?_⟩
        · simp only [List.length_map, List.length_cons, List.length_nil]
          show _ * (80 + 1) ≤ _
          omega
        refine own_of (q := q) (H0 := H) ?_ ?_ ?_ (fun c' hc => ?_)
        · exact rfl
        · exact rfl
        · exact fun _ h => h
        refine ⟨in64_of (by first | omega | (dsimp only; omega)) (by first | omega | (dsimp only; omega)), ?_⟩
        exact ⟨(some c', j + 1), ⟨(by simp only; omega), hft.2⟩, by (try dsimp only); omega, ⟨⟨Le.refl _, Le.refl _, ⟨rfl, rfl⟩, ⟨rfl, rfl⟩, ⟨rfl, rfl⟩, Le.refl _, Le.refl _, Le.refl _, trivial⟩, ⟨⟨rfl, LeL.refl _⟩, ⟨rfl, ⟨Le.refl _, Le.refl _, Le.refl _, Le.refl _, hnext c', trivial⟩⟩, ⟨rfl, LeL.refl _⟩, ⟨rfl, LeL.refl _⟩, trivial⟩, List.Sublist.refl _⟩⟩
      · simp only at h1
        have hj' : t.args.length = j := by omega
        subst hj'
        have hfin : Le (.agg [.i t.kind, .i n', .str t.name, .sl .no 3 (t.levels.map lvA), .sl (ownQ q) 5 (((tmLiftL c t.kind t.args 0 deep).take t.args.length).map tmA)]) (tmX (.mk t.kind n' t.name t.levels (tmLiftL c t.kind t.args 0 deep))) := by
          refine Le.agg ⟨Le.refl _, Le.refl _, Le.refl _, Le.refl _, Le.trans (ownQ_le _ _ _) (le_of_eq ?_), trivial⟩
          rw [List.take_of_length_le (by rw [tmLiftL_len]; exact Nat.le_refl _)]
          rfl
        exact ⟨_, _, hfin, bufH_sub q _, hq⟩
end Go.Proofs.YtnjnfegafmhgnaaGreatDoor

/-
  slices.Reverse over terms; term.Spine. No condition.
-/
namespace Go.Proofs.YtnjnfegafmhgnaaGreatDoor
open Go.RowKit

/-! rows of elements of a width -/
theorem wide_take {s : Nat} {xs : List AV} (h : ∀ y ∈ xs, y.cells.length = s) (i : Nat) : ((xs.take i).flatMap AV.cells).length = (xs.take i).length * s := by
  induction xs generalizing i with
  | nil => simp
  | cons x xs ih =>
    cases i with
    | zero => simp
    | succ i =>
      rw [List.take_succ_cons, List.flatMap_cons, List.length_append, h x (by simp), ih (fun y hy => h y (List.mem_cons_of_mem _ hy)), List.length_cons, Nat.add_mul, Nat.one_mul, Nat.add_comm]
theorem row_split {xs : List AV} {i : Nat} (h : i < xs.length) (rest : List AV) : xs.flatMap AV.cells ++ rest = (xs.take i).flatMap AV.cells ++ (xs[i].cells ++ ((xs.drop (i + 1)).flatMap AV.cells ++ rest)) := by
  conv => lhs; rw [← List.take_append_drop i xs, List.drop_eq_getElem_cons h, List.flatMap_append, List.flatMap_cons]
  simp
theorem row_get {s : Nat} {xs : List AV} (hw : ∀ y ∈ xs, y.cells.length = s) {i : Nat} (h : i < xs.length) (rest : List AV) : ((xs.flatMap AV.cells ++ rest).drop (i * s)).take s = xs[i].cells := by
  have hl := wide_take hw i
  rw [List.length_take, Nat.min_eq_left (by omega)] at hl
  rw [row_split h, List.drop_left' hl, List.take_left' (hw _ (List.getElem_mem h))]
theorem row_room {s : Nat} {xs : List AV} (hw : ∀ y ∈ xs, y.cells.length = s) {i : Nat} (h : i < xs.length) (rest : List AV) : i * s + s ≤ (xs.flatMap AV.cells ++ rest).length := by
  have hl := wide_take hw i
  rw [List.length_take, Nat.min_eq_left (by omega)] at hl
  rw [row_split h, List.length_append, List.length_append, hl, hw _ (List.getElem_mem h)]
  omega
theorem row_put {s : Nat} {xs : List AV} (hw : ∀ y ∈ xs, y.cells.length = s) {i : Nat} (h : i < xs.length) (rest : List AV) {y : AV} (hy : y.cells.length = s) : putCells (xs.flatMap AV.cells ++ rest) (i * s) y.cells = (xs.set i y).flatMap AV.cells ++ rest := by
  have hl := wide_take hw i
  rw [List.length_take, Nat.min_eq_left (by omega)] at hl
  have hx := hw _ (List.getElem_mem h)
  rw [row_split h, putCells, List.take_left' hl, ← List.drop_drop, List.drop_left' hl, List.drop_left' (by rw [hx, hy])]
  rw [List.set_eq_take_append_cons_drop, if_pos h, List.flatMap_append, List.flatMap_cons]
  simp
theorem part_run {tab : Tab} {t : TypeId} {i : TI} {cs xs : List AV} {K : T → Prop} (hi : tab.get t = some i) (hk : i.kind.agg = true) (hl : i.size ≤ cs.length) (hx : cs.take i.size = xs) (k : K (.g (.agg xs))) : (partR tab t cs).run K := by
  unfold partR
  rw [hi]
  simp only [hk, cond_true]
  rw [Nat.ble_eq_true_of_le hl, hx]
  exact k

/-- so many ends are turned -/
def revT (ts : List Tm) (k : Nat) : List Tm := (List.range ts.length).map fun i => if i < k ∨ ts.length ≤ i + k then ts.getD (ts.length - 1 - i) tm0 else ts.getD i tm0
theorem revT_len (ts : List Tm) (k : Nat) : (revT ts k).length = ts.length := by simp [revT]
theorem revT_get (ts : List Tm) (k : Nat) {i : Nat} (h : i < ts.length) : (revT ts k)[i]'(by rw [revT_len]; exact h) = if i < k ∨ ts.length ≤ i + k then ts[ts.length - 1 - i] else ts[i] := by
  simp only [revT, List.getElem_map, List.getElem_range]
  rw [List.getD_eq_getElem?_getD, List.getElem?_eq_getElem (by omega), List.getD_eq_getElem?_getD, List.getElem?_eq_getElem h]
  rfl
theorem revT_zero (ts : List Tm) : revT ts 0 = ts := by
  apply List.ext_getElem (revT_len ts 0)
  intro i h1 h2
  rw [revT_get ts 0 h2, if_neg (by omega)]
theorem revT_done {ts : List Tm} {k : Nat} (h : ts.length ≤ 2 * k + 1) : revT ts k = ts.reverse := by
  apply List.ext_getElem (by rw [revT_len, List.length_reverse])
  intro i h1 h2
  rw [revT_len] at h1
  rw [revT_get ts k h1, List.getElem_reverse]
  split
  · rfl
  · have : ts.length - 1 - i = i := by omega
    simp only [this]
theorem revT_step {ts : List Tm} {k : Nat} (h : 2 * k + 1 < ts.length) : ((revT ts k).set k ((revT ts k)[ts.length - 1 - k]'(by rw [revT_len]; omega))).set (ts.length - 1 - k) ((revT ts k)[k]'(by rw [revT_len]; omega)) = revT ts (k + 1) := by
  apply List.ext_getElem (by simp [revT_len])
  intro i h1 h2
  rw [revT_len] at h2
  have g1 : (revT ts k)[k]'(by rw [revT_len]; omega) = ts[k] := by rw [revT_get ts k (by omega), if_neg (by omega)]
  have g2 : (revT ts k)[ts.length - 1 - k]'(by rw [revT_len]; omega) = ts[ts.length - 1 - k] := by rw [revT_get ts k (by omega), if_neg (by omega)]
  have g3 := revT_get ts k h2
  rw [revT_get ts (k + 1) h2, List.getElem_set, List.getElem_set]
  by_cases e1 : ts.length - 1 - k = i
  · rw [if_pos e1, if_pos (by omega), g1]
    have : ts.length - 1 - i = k := by omega
    simp only [this]
  · rw [if_neg e1]
    by_cases e2 : k = i
    · rw [if_pos e2, if_pos (by omega), g2]
      subst e2
      rfl
    · rw [if_neg e2, g3]
      by_cases e3 : i < k ∨ ts.length ≤ i + k
      · rw [if_pos e3, if_pos (by omega)]
      · rw [if_neg e3, if_neg (by omega)]
theorem tmA_wide (ts : List Tm) : ∀ y ∈ ts.map tmA, y.cells.length = 5 := (wide_tms ts).2
set_option maxRecDepth 100000 in
set_option maxHeartbeats 1000000 in
theorem Reverse_con (ts : List Tm) {b n cap : Nat} {cs : List AV} {H : Heap} {Q : AV → Heap → Prop} (hok : TurnOk 5 n (ts.map tmA) H b cap cs) (hn1 : n ≤ 1000000) (hq : ∀ cs', TurnOk 5 n (ts.reverse.map tmA) H b cap cs' → Q (.tup []) ((b, .cells cs') :: H)) : Con Tryz.prog 120 [hs b n cap] ((b, .cells cs) :: H) Q := by
  have hn : ts.length = n := by have := hok.len; rwa [List.length_map] at this
  obtain ⟨rest, hrest⟩ : ∃ rest, cs = (ts.map tmA).flatMap AV.cells ++ rest := ⟨cs.drop (n * 5), by rw [← hok.here, List.take_append_drop]⟩
  have hfl : ((ts.map tmA).flatMap AV.cells).length = n * 5 := by rw [flat_len (wide_tms ts), List.length_map, hn]
  have hroom := hok.room
  rw [hrest, List.length_append, hfl] at hroom
  refine con_of_awp (esc := fun _ => false) tab_ok mixed Tryz.func120 rfl (ent Tryz.func120 (by kernel_rfl) rfl) (by kernel_rfl) ?_
  intro hw hnd
  clear hw hnd
  refine ⟨in64_of (by first | omega | (dsimp only; omega)) (by first | omega | (dsimp only; omega)), ?_⟩
  refine ⟨Nat, fun k => ⟨[(0, .g (hs b n cap)), (2, .g (.i k)), (3, .g (.i ((n : Int) - 1 - k)))], [], (b, .cells (((revT ts k).map tmA).flatMap AV.cells ++ rest)) :: H⟩, fun k => k ≤ n, fun k => n - k, ⟨0, Nat.zero_le _, ?_⟩, ?_⟩
  · refine ⟨⟨Le.refl _, Le.refl _, le_of_eq ?_, trivial⟩, trivial, sub_eq ?_⟩
    · show AV.i _ = AV.i _
      congr 1
      simp
    · show (b, AObj.cells (((revT ts 0).map tmA).flatMap AV.cells ++ rest)) :: H = _
      rw [revT_zero, hrest]
      rfl
  · intro k hk
    refine ifB_dec (fun h1 => ?_) (fun h1 => ?_)
    · have hlt : 2 * k + 1 < ts.length := by omega
      have hkl : k < ((revT ts k).map tmA).length := by rw [List.length_map, revT_len]; omega
      have hjl : n - 1 - k < ((revT ts k).map tmA).length := by rw [List.length_map, revT_len]; omega
      have ej : (n : Int) - 1 - k = ((n - 1 - k : Nat) : Int) := by omega
      have hwd := tmA_wide (revT ts k)
      have g1 := row_get hwd hjl rest
      have g2 := row_get hwd hkl rest
      have r1 := row_room hwd hjl rest
      have r2 := row_room hwd hkl rest
      have xk : ((revT ts k).map tmA)[k] = tmX ((revT ts k)[k]'(by rw [revT_len]; omega)) := by rw [List.getElem_map, tmA_eq]
      have xj : ((revT ts k).map tmA)[n - 1 - k] = tmX ((revT ts k)[n - 1 - k]'(by rw [revT_len]; omega)) := by rw [List.getElem_map, tmA_eq]
      rw [xj] at g1
      rw [xk] at g2
      refine ⟨[0, 1, 2, 3, 4, 5, 6, 7, 8, 9, 10, 11, 12, 13, 14, 15], [(b, .cells (((revT ts k).map tmA).flatMap AV.cells ++ rest))], by kernel_rfl, pin1 List.mem_cons_self, ?_⟩
      refine ⟨n - 1 - k, ej, by omega, ?_⟩
      refine ⟨_, List.mem_singleton.2 rfl, ?_⟩
      refine part_run (xs := (tmX ((revT ts k)[n - 1 - k]'(by rw [revT_len]; omega))).cells) rfl rfl ?_ (by rw [Nat.zero_add]; exact g1) ?_
      · rw [Nat.zero_add]
        show 5 ≤ (List.drop ((n - 1 - k) * 5) _).length
        rw [List.length_drop]
        omega
      refine ⟨k, rfl, by omega, ?_⟩
      refine ⟨_, List.mem_singleton.2 rfl, ?_⟩
      refine part_run (xs := (tmX ((revT ts k)[k]'(by rw [revT_len]; omega))).cells) rfl rfl ?_ (by rw [Nat.zero_add]; exact g2) ?_
      · rw [Nat.zero_add]
        show 5 ≤ (List.drop (k * 5) _).length
        rw [List.length_drop]
        omega
      refine ⟨k, rfl, by omega, ?_⟩
      refine ⟨_, _, .here, ?_, ?_⟩
      · rw [Nat.zero_add]
        show k * 5 + 5 ≤ _
        omega
      refine ⟨n - 1 - k, ej, by omega, ?_⟩
      refine ⟨_, _, .here, ?_, ?_⟩
      · rw [Nat.zero_add, Nat.zero_add, row_put hwd hkl rest rfl]
        have := row_room (xs := ((revT ts k).map tmA).set k (tmX ((revT ts k)[n - 1 - k]'(by rw [revT_len]; omega)))) (s := 5) (i := n - 1 - k) (fun y hy => ?_) (by rw [List.length_set]; exact hjl) rest
        · show (n - 1 - k) * 5 + 5 ≤ _
          exact this
        · rcases List.mem_or_eq_of_mem_set hy with hy | rfl
          · exact hwd y hy
          · rfl
      refine ⟨in64_of (by first | omega | (dsimp only; omega)) (by first | omega | (dsimp only; omega)), ?_⟩
      refine ⟨in64_of (by first | omega | (dsimp only; omega)) (by first | omega | (dsimp only; omega)), ?_⟩
      have hfin : putCells (putCells (((revT ts k).map tmA).flatMap AV.cells ++ rest) (0 + k * 5) (tmX ((revT ts k)[n - 1 - k]'(by rw [revT_len]; omega))).cells) (0 + (n - 1 - k) * 5) (tmX ((revT ts k)[k]'(by rw [revT_len]; omega))).cells = ((revT ts (k + 1)).map tmA).flatMap AV.cells ++ rest := by
        rw [Nat.zero_add, Nat.zero_add, row_put hwd hkl rest rfl, row_put (s := 5) (y := tmX ((revT ts k)[k]'(by rw [revT_len]; omega))) (fun y hy => ?_) (by rw [List.length_set]; exact hjl) rest rfl]
        · congr 2
          subst hn
          rw [← revT_step hlt, List.map_set, List.map_set, tmA_eq, tmA_eq]
        · rcases List.mem_or_eq_of_mem_set hy with hy | rfl
          · exact hwd y hy
          · rfl
      refine ⟨k + 1, by omega, by (try dsimp only); omega, ⟨⟨Le.refl _, Le.refl _, le_of_eq ?_, trivial⟩, trivial, sub_eq ?_⟩⟩
      · show AV.i _ = AV.i _
        congr 1
        omega
      · show (b, AObj.cells (((revT ts (k + 1)).map tmA).flatMap AV.cells ++ rest)) :: H = _
        rw [← hfin]
        rfl
    · have hd : revT ts k = ts.reverse := revT_done (by omega)
      refine ⟨_, _, Le.refl _, List.Sublist.refl _, hq _ ?_⟩
      rw [hd]
      have hfl2 : ((ts.reverse.map tmA).flatMap AV.cells).length = n * 5 := by rw [flat_len (wide_tms _), List.length_map, List.length_reverse, hn]
      exact ⟨by simpa using hn, hok.out, hok.le, hok.max, by rw [List.length_append, hfl2]; exact hroom, List.take_left' hfl2⟩
set_option maxRecDepth 100000 in
theorem Reverse_nil {H : Heap} {Q : AV → Heap → Prop} (hq : Q (.tup []) H) : Con Tryz.prog 120 [.sl .full 0 []] H Q := by
  refine con_of_awp (esc := fun _ => false) tab_ok mixed Tryz.func120 rfl (ent Tryz.func120 (by kernel_rfl) rfl) (by kernel_rfl) ?_
  intro hw hnd
  clear hw hnd
  refine ⟨in64_of (by decide) (by decide), ?_⟩
  refine ⟨Unit, fun _ => ⟨[(0, .g (.sl .full 0 [])), (2, .g (.i 0)), (3, .g (.i (-1)))], [], H⟩, fun _ => True, fun _ => 0, ⟨(), trivial, ?_⟩, ?_⟩
  · (constructor <;> repeat' (first | exact trivial | exact ⟨rfl, rfl⟩ | exact ⟨rfl, LeL.refl _⟩ | exact Le.refl _ | exact List.Sublist.refl _ | (show Le (AV.i _) (AV.i _); rw [List.length_map]; exact Le.refl _) | refine And.intro ?_ ?_))
  · intro u hu
    exact ⟨_, _, Le.refl _, List.Sublist.refl _, hq⟩

/-! term.Spine -/
/-- a term's head -/
def tmHead : Tm → Tm
  | .mk k n nm ls xs =>
    match xs with
    | [f, a] => if k = 4 then tmHead f else .mk k n nm ls [f, a]
    | xs => .mk k n nm ls xs
/-- what it is applied to -/
def tmArgs : Tm → List Tm
  | .mk k n nm ls xs =>
    match xs with
    | [f, a] => if k = 4 then tmArgs f ++ [a] else []
    | _ => []
theorem spine_step {t : Tm} (h1 : t.kind = 4) (h2 : t.args.length = 2) : tmHead t = tmHead (t.args[0]) ∧ tmArgs t = tmArgs (t.args[0]) ++ [t.args[1]] := by
  cases t with
  | mk k n nm ls xs =>
    obtain rfl : k = 4 := h1
    match xs, h2 with
    | [f, a], _ => exact ⟨by rw [tmHead]; rfl, by rw [tmArgs]; rfl⟩
theorem spine_stop {t : Tm} (h : ¬(t.kind = 4 ∧ t.args.length = 2)) : tmHead t = t ∧ tmArgs t = [] := by
  cases t with
  | mk k n nm ls xs =>
    match xs with
    | [] => exact ⟨rfl, rfl⟩
    | [a] => exact ⟨rfl, rfl⟩
    | [f, a] =>
      have hk : ¬ k = 4 := fun e => h ⟨e, rfl⟩
      exact ⟨by rw [tmHead]; simp [hk], by rw [tmArgs]; simp [hk]⟩
    | a :: b :: c :: r => exact ⟨rfl, rfl⟩
set_option maxRecDepth 100000 in
set_option maxHeartbeats 1000000 in
theorem SpineM_con (t : Tm) (hn1 : t.nodes ≤ 1000000) (H : Heap) (Q : AV → Heap → Prop) (hq : ∀ m : Mv, MvOk 5 (tmArgs t).length ((tmArgs t).map tmA) H m → Q (.tup [tmX (tmHead t), mvV 5 m (tmArgs t).length]) (mvH m H)) : Con Tryz.prog 57 [tmX t] H Q := by
  refine con_of_awp (esc := ([21].contains ·)) tab_ok mixed Tryz.func57 rfl (ent Tryz.func57 (by kernel_rfl) rfl) (by kernel_rfl) ?_
  intro hw hn
  clear hw hn
  refine ⟨Tm × Mv × List Tm, fun p => ⟨[(1, .lp 1 0), (2, .lp 2 0), (4, .g (mvS p.2.1 p.2.2.length))], [(2, [.i 0, .i 0, .str [], .sl .full 0 [], .sl .full 0 []]), (1, (tmX p.1).cells)], mvH p.2.1 H⟩,
    fun p => p.1.nodes + p.2.2.length ≤ t.nodes ∧ tmHead t = tmHead p.1 ∧ tmArgs t = tmArgs p.1 ++ p.2.2.reverse ∧ MvOk 5 p.2.2.length (p.2.2.map tmA) H p.2.1, fun p => p.1.nodes, ⟨(t, none, []), ⟨Nat.le_refl _, rfl, by simp, rfl, rfl⟩, ?_⟩, ?_⟩
  · exact ⟨⟨⟨rfl, rfl⟩, ⟨rfl, rfl⟩, Le.refl _, trivial⟩, ⟨⟨rfl, LeL.refl _⟩, ⟨rfl, LeL.refl _⟩, trivial⟩, List.Sublist.refl _⟩
  · rintro ⟨u, m, gs⟩ ⟨hnn, hh, ha, hz⟩
    simp only at hnn hh ha hz
    have hend : ¬(u.kind = 4 ∧ u.args.length = 2) → ∃ r H', True := fun _ => ⟨AV.i 0, H, trivial⟩
    have hun := u.nodes_eq
    refine ifB_dec (fun h1 => ?_) (fun h1 => ?_)
    · refine ifB_dec (fun h2 => ?_) (fun h2 => ?_)
      · simp only [List.length_map] at h2
        have h2' : u.args.length = 2 := by omega
        obtain ⟨s1, s2⟩ := spine_step h1 h2'
        have hm1 := Tm.nodesL_mem (List.getElem_mem (show 1 < u.args.length by omega))
        have hm01 : (u.args[0]'(by omega)).nodes + (u.args[1]'(by omega)).nodes ≤ Tm.nodesL u.args := by
          cases u with
          | mk k n nm ls xs =>
            match xs, h2' with
            | [f, a], _ => show f.nodes + a.nodes ≤ f.nodes + (a.nodes + 0); omega
        have hp1 := (u.args[1]'(by omega)).nodes_pos
        refine ⟨1, rfl, _, tmAt' (show 1 < u.args.length by omega), ?_⟩
        refine ⟨_, LeL.refl _, fresh_con _ (u.args[1]'(by omega)) (by omega) (Nat.le_refl _) _ _ ?_⟩
        intro hz1 hz2; clear hz1 hz2
        cases m with
        | none =>
          have h0 : gs = [] := by have := hz.2; simpa using this
          subst h0
          refine ⟨(by show (0 + 1) * (80 + 1) ≤ 140737488355328; decide), by simp, rfl, fun b cap rest k1 k2 k3 k4 => ?_⟩
          refine ⟨0, rfl, _, tmAt' (show 0 < u.args.length by omega), ?_⟩
          refine ⟨(u.args[0]'(by omega), some (b, cap, ([] ++ [tmX (u.args[1]'(by omega))]).flatMap AV.cells ++ rest), [u.args[1]'(by omega)]), ⟨by simp only [List.length_cons, List.length_nil]; omega, by simp only; rw [hh, s1], by simp only; rw [ha, s2]; simp, by simp, ?_⟩, by simp only; omega, ?_⟩
          · simp only [List.map_cons, List.map_nil, List.length_cons, List.length_nil]
            rw [tmA_eq]
            exact TurnOk.first rfl k1 k2 k3 k4
          · exact ⟨⟨⟨rfl, rfl⟩, ⟨rfl, rfl⟩, Le.refl _, trivial⟩, ⟨⟨rfl, LeL.refl _⟩, ⟨rfl, LeL.refl _⟩, trivial⟩, List.Sublist.refl _⟩
        | some p =>
          obtain ⟨b0, cap0, cs0⟩ := p
          obtain ⟨hj0, htk⟩ := hz
          refine ⟨?_, by simp, cs0, H, Heap.Rem.here, htk.le, htk.max, htk.room, fun b cap rest k1 k2 k3 k4 => ?_⟩
          · simp only [List.length_cons, List.length_nil]
            show _ * (80 + 1) ≤ _
            omega
          refine ⟨0, rfl, _, tmAt' (show 0 < u.args.length by omega), ?_⟩
          refine ⟨(u.args[0]'(by omega), some (b, cap, cs0.take (gs.length * 5) ++ [tmX (u.args[1]'(by omega))].flatMap AV.cells ++ rest), gs ++ [u.args[1]'(by omega)]), ⟨by simp only [List.length_append, List.length_cons, List.length_nil]; omega, by simp only; rw [hh, s1], by simp only; rw [ha, s2]; simp, by simp, ?_⟩, by simp only; omega, ?_⟩
          · simp only [List.map_append, List.map_cons, List.map_nil, List.length_append, List.length_cons, List.length_nil]
            rw [tmA_eq]
            exact htk.next (wide_tms gs) rfl k1 k2 k3 k4
          · refine ⟨⟨⟨rfl, rfl⟩, ⟨rfl, rfl⟩, le_of_eq ?_, trivial⟩, ⟨⟨rfl, LeL.refl _⟩, ⟨rfl, LeL.refl _⟩, trivial⟩, List.Sublist.refl _⟩
            show hs b (gs.length + 1) cap = hs b (gs ++ [_]).length cap
            rw [List.length_append]
            rfl
      · simp only [List.length_map] at h2
        obtain ⟨s1, s2⟩ := spine_stop (t := u) (fun h => h2 (by rw [h.2]; rfl))
        rw [s1] at hh
        rw [s2, List.nil_append] at ha
        cases m with
        | none =>
          have h0 : gs = [] := by have := hz.2; simpa using this
          subst h0
          refine ⟨_, LeL.refl _, Reverse_nil ?_⟩
          intro hz1 hz2; clear hz1 hz2
          refine ⟨_, LeL.refl _, fresh_con _ u (by omega) (Nat.le_refl _) _ _ ?_⟩
          intro hz1 hz2; clear hz1 hz2
          refine ⟨_, _, ?_, List.Sublist.refl _, hq none ⟨by rw [ha]; rfl, by rw [ha]; rfl⟩⟩
          rw [hh, ha]
          exact Le.tup ⟨Le.refl _, Le.nil _ _, trivial⟩
        | some p =>
          obtain ⟨b, cap, cs⟩ := p
          refine ⟨_, LeL.refl _, Reverse_con (n := gs.length) gs hz.2 (by omega) (fun cs' hok => ?_)⟩
          intro hz1 hz2; clear hz1 hz2
          refine ⟨_, LeL.refl _, fresh_con _ u (by omega) (Nat.le_refl _) _ _ ?_⟩
          intro hz1 hz2; clear hz1 hz2
          have hrl : gs.reverse.length = gs.length := List.length_reverse
          refine ⟨_, _, ?_, List.Sublist.refl _, hq (some (b, cap, cs')) ?_⟩
          · rw [hh, ha, hrl]
            exact Le.refl _
          · rw [ha, hrl]
            exact ⟨hz.1, hok⟩
    · obtain ⟨s1, s2⟩ := spine_stop (t := u) (fun h => h1 h.1)
      rw [s1] at hh
      rw [s2, List.nil_append] at ha
      cases m with
      | none =>
        have h0 : gs = [] := by have := hz.2; simpa using this
        subst h0
        refine ⟨_, LeL.refl _, Reverse_nil ?_⟩
        intro hz1 hz2; clear hz1 hz2
        refine ⟨_, LeL.refl _, fresh_con _ u (by omega) (Nat.le_refl _) _ _ ?_⟩
        intro hz1 hz2; clear hz1 hz2
        refine ⟨_, _, ?_, List.Sublist.refl _, hq none ⟨by rw [ha]; rfl, by rw [ha]; rfl⟩⟩
        rw [hh, ha]
        exact Le.tup ⟨Le.refl _, Le.nil _ _, trivial⟩
      | some p =>
        obtain ⟨b, cap, cs⟩ := p
        refine ⟨_, LeL.refl _, Reverse_con (n := gs.length) gs hz.2 (by omega) (fun cs' hok => ?_)⟩
        intro hz1 hz2; clear hz1 hz2
        refine ⟨_, LeL.refl _, fresh_con _ u (by omega) (Nat.le_refl _) _ _ ?_⟩
        intro hz1 hz2; clear hz1 hz2
        have hrl : gs.reverse.length = gs.length := List.length_reverse
        refine ⟨_, _, ?_, List.Sublist.refl _, hq (some (b, cap, cs')) ?_⟩
        · rw [hh, ha, hrl]
          exact Le.refl _
        · rw [ha, hrl]
          exact ⟨hz.1, hok⟩
set_option maxRecDepth 100000 in
theorem Spine_con (t : Tm) (hn1 : t.nodes ≤ 1000000) : Ans Tryz.prog 57 [tmX t] (.tup [tmX (tmHead t), .sl .no 5 ((tmArgs t).map tmA)]) := by
  intro H Q hq
  by_cases h0 : (tmArgs t).length = 0
  · refine SpineM_con t hn1 H Q fun m hm => ?_
    have h1 : tmArgs t = [] := List.eq_nil_of_length_eq_zero h0
    cases m with
    | none =>
      rw [h1] at hq ⊢
      exact hq
    | some p => exact absurd h0 hm.1
  · refine Con.ice (SpineM_con t hn1 H _ fun m hm => ?_)
    cases m with
    | none => exact absurd hm.1 h0
    | some p =>
      obtain ⟨b, cap, cs⟩ := p
      exact ⟨b, cs, H, .tup [tmX (tmHead t), .sl .no 5 ((tmArgs t).map tmA)], .here, fun M h => LeM.tup ⟨LeM.refl _, hm.2.see (wide_tms _) h, trivial⟩, hq⟩
end Go.Proofs.YtnjnfegafmhgnaaGreatDoor

/-
  term.Arrow. No condition.
-/
namespace Go.Proofs.YtnjnfegafmhgnaaGreatDoor
open Go.RowKit

def big50 : Int := 1125899906842624
mutual
theorem tmLift_nodes (c : Int) : ∀ (t : Tm) (deep : Int), (tmLift c t deep).nodes = t.nodes
  | .mk k n nm ls xs, deep => by
    rw [tmLift, Tm.nodes, Tm.nodes, tmLiftL_nodes c k xs 0 deep]
theorem tmLiftL_nodes (c k : Int) : ∀ (ts : List Tm) (i : Nat) (deep : Int), Tm.nodesL (tmLiftL c k ts i deep) = Tm.nodesL ts
  | [], _, _ => rfl
  | t :: ts, i, deep => by
    rw [tmLiftL, Tm.nodesL, Tm.nodesL, tmLift_nodes c t, tmLiftL_nodes c k ts]
end
/-- types, each within those ahead -/
def liftsFrom : Nat → List Tm → List Tm
  | _, [] => []
  | i, t :: ts => tmLift i t 0 :: liftsFrom (i + 1) ts
theorem lifts_len : ∀ (ts : List Tm) (i : Nat), (liftsFrom i ts).length = ts.length
  | [], _ => rfl
  | t :: ts, i => by rw [liftsFrom, List.length_cons, List.length_cons, lifts_len ts]
theorem lifts_get : ∀ (ts : List Tm) (i j : Nat) (h : j < ts.length), (liftsFrom i ts)[j]'(by rw [lifts_len]; exact h) = tmLift ((i + j : Nat) : Int) ts[j] 0
  | t :: ts, i, 0, _ => by simp [liftsFrom]
  | t :: ts, i, j + 1, h => by
    have := lifts_get ts (i + 1) j (by simpa using h)
    simp only [liftsFrom, List.getElem_cons_succ]
    rw [this, show i + 1 + j = i + (j + 1) by omega]
theorem lifts_take {ts : List Tm} {j : Nat} (h : j < ts.length) : (liftsFrom 0 ts).take (j + 1) = (liftsFrom 0 ts).take j ++ [tmLift (j : Nat) ts[j] 0] := by
  rw [List.take_succ_eq_append_getElem (by rw [lifts_len]; exact h), lifts_get ts 0 j h, Nat.zero_add]
theorem lifts_nodes : ∀ (ts : List Tm) (i : Nat), Tm.nodesL (liftsFrom i ts) = Tm.nodesL ts
  | [], _ => rfl
  | t :: ts, i => by rw [liftsFrom, Tm.nodesL, Tm.nodesL, tmLift_nodes, lifts_nodes ts]
def arrowOk (to : Tm) (ts : List Tm) : Bool := decide (to.nodes + ts.length + Tm.nodesL ts ≤ 2000) && (tmRight 4 1125899906842624 to && ts.all (tmRight 4 1125899906842624))
def tmArrow (to : Tm) (ts : List Tm) : Tm × Bool := if arrowOk to ts = true then (tmOver 6 (tmLift (ts.length : Nat) to 0) (liftsFrom 0 ts), true) else (tm0, false)

set_option maxRecDepth 100000 in
theorem Arrow1_con (t : Tm) : Ans Tryz.prog 113 [tmX t] (.b (!tmRight 4 1125899906842624 t)) := by
  intro H Q hq
  refine con_of_awp (esc := fun _ => false) tab_ok mixed Tryz.func113 rfl (ent Tryz.func113 (by kernel_rfl) rfl) (by kernel_rfl) ?_
  intro hw hn
  refine ⟨_, LeL.refl _, tmRight_con 4 1125899906842624 t _ _ ?_⟩
  intro hz1 hz2; clear hz1 hz2
  exact ⟨_, H, Le.refl _, List.Sublist.refl _, hq⟩
set_option maxRecDepth 100000 in
set_option maxHeartbeats 2000000 in
theorem Arrow_con (o : Own) (to : Tm) (ts : List Tm) (hl : ts.length ≤ 1000000) : Ans Tryz.prog 50 [tmX to, .sl o 5 (ts.map tmA)] (.tup [tmX (tmArrow to ts).1, .b (tmArrow to ts).2]) := by
  intro H Q hq
  have hlen : (ts.map tmA).length = ts.length := List.length_map _
  have no : arrowOk to ts = false → ∃ r H', Le (.tup [.agg [.i 0, .i 0, .str [], .sl .full 0 [], .sl .full 0 []], .b false]) r ∧ List.Sublist H' H ∧ Q r H' := fun h => by
    rw [tmArrow, if_neg (by rw [h]; decide)] at hq
    exact ⟨.tup [tmX tm0, .b false], H, Le.tup ⟨le_tm0, Le.refl _, trivial⟩, List.Sublist.refl _, hq⟩
  have htot := tmLen_nodes ts
  refine con_of_sem tab_ok Tryz.func50 rfl (ent Tryz.func50 (by kernel_rfl) rfl) (by kernel_rfl) ?_
  intro hw hn
  clear hw hn
  refine sem_seq (esc := fun _ => false) tab_ok mixed ?_
  refine sem_seq (esc := fun _ => false) tab_ok mixed ?_
  refine ⟨_, LeL.refl _, tmNodes_con to _ _ ?_⟩
  intro hz1 hz2; clear hz1 hz2
  refine ⟨in64_of (by first | omega | (dsimp only; omega)) (by first | omega | (dsimp only; omega)), ?_⟩
  refine sem_join (esc := fun _ => false) tab_ok mixed (X := Int) (fun acc => ⟨[(1, .g (.sl o 5 (ts.map tmA))), (2, .lp 2 0), (4, .lp 4 0), (5, .g (.b false)), (6, .g (.i acc))], [(4, [.i 0, .i 0, .str [], .sl .full 0 [], .sl .full 0 []]), (2, (tmX to).cells)], H⟩)
    (fun acc => (acc ≤ 2000 → acc = ((to.nodes + ts.length + Tm.nodesL ts : Nat) : Int)) ∧ (2000 < acc → 2000 < to.nodes + ts.length + Tm.nodesL ts)) ?_ (fun acc hacc => ?_)
  · refine ⟨Nat × Int, fun p => ⟨[(1, .g (.sl o 5 (ts.map tmA))), (2, .lp 2 0), (4, .lp 4 0), (5, .g (.b false)), (6, .g (.i p.2)), (18, .g (.sl o 5 (ts.map tmA))), (19, .g (.i ts.length)), (20, .g (.i p.1))], [(4, [.i 0, .i 0, .str [], .sl .full 0 [], .sl .full 0 []]), (2, (tmX to).cells)], H⟩,
      fun p => p.1 ≤ ts.length ∧ 0 ≤ p.2 ∧ p.2 ≤ 1004001 ∧ (p.2 ≤ 2000 → p.2 = ((to.nodes + ts.length + Tm.nodesL (ts.take p.1) : Nat) : Int)) ∧ (2000 < p.2 → 2000 < to.nodes + ts.length + Tm.nodesL ts), fun p => ts.length - p.1, ⟨(0, (min to.nodes 2001 : Nat) + (ts.length : Int)), ⟨Nat.zero_le _, by simp only; omega, by simp only; omega, ?_, ?_⟩, ?_⟩, ?_⟩
    · simp only [List.take_zero, Tm.nodesL]
      omega
    · simp only
      omega
    · refine ⟨⟨Le.refl _, ⟨rfl, rfl⟩, ⟨rfl, rfl⟩, Le.refl _, le_of_eq ?_, Le.refl _, le_of_eq ?_, Le.refl _, trivial⟩, ⟨⟨rfl, LeL.refl _⟩, ⟨rfl, LeL.refl _⟩, trivial⟩, List.Sublist.refl _⟩
      · show AV.i _ = AV.i _
        rw [hlen]
      · show AV.i _ = AV.i _
        rw [hlen]
    · rintro ⟨j, acc⟩ ⟨hj, ha0, ha1, hle, hgt⟩
      simp only at hj ha0 ha1 hle hgt
      have hmono := nodesTL_le ts (j + 1)
      refine ifB_dec (fun h1 => ?_) (fun h1 => ?_)
      · simp only at h1
        have hlt : j < ts.length := by omega
        have hsn := nodesTL_snoc hlt
        refine ⟨j, rfl, _, tmAt' hlt, ?_⟩
        refine ifB_dec (fun h2 => ?_) (fun h2 => ?_)
        · refine ⟨acc, ⟨fun h => absurd h2 (by omega), hgt⟩, ?_⟩
          (constructor <;> repeat' (first | exact trivial | exact ⟨rfl, rfl⟩ | exact ⟨rfl, LeL.refl _⟩ | exact Le.refl _ | exact List.Sublist.refl _ | (show Le (AV.i _) (AV.i _); rw [List.length_map]; exact Le.refl _) | refine And.intro ?_ ?_))
        · refine ⟨_, LeL.refl _, tmNodes_con ts[j] _ _ ?_⟩
          intro hz1 hz2; clear hz1 hz2
          refine ⟨in64_of (by first | omega | (dsimp only; omega)) (by first | omega | (dsimp only; omega)), ?_⟩
          refine ⟨in64_of (by first | omega | (dsimp only; omega)) (by first | omega | (dsimp only; omega)), ?_⟩
          refine ⟨(j + 1, acc + (min ts[j].nodes 2001 : Nat)), ⟨by simp only; omega, by simp only; omega, by simp only; omega, ?_, ?_⟩, by (try dsimp only); omega, ?_⟩
          · simp only
            have := hle (by omega)
            omega
          · simp only
            have := hle (by omega)
            omega
          · (constructor <;> repeat' (first | exact trivial | exact ⟨rfl, rfl⟩ | exact ⟨rfl, LeL.refl _⟩ | exact Le.refl _ | exact List.Sublist.refl _ | (show Le (AV.i _) (AV.i _); rw [List.length_map]; exact Le.refl _) | refine And.intro ?_ ?_))
      · simp only at h1
        have hj' : ts.length = j := by omega
        subst hj'
        rw [List.take_length] at hle
        refine ⟨acc, ⟨hle, hgt⟩, ?_⟩
        (constructor <;> repeat' (first | exact trivial | exact ⟨rfl, rfl⟩ | exact ⟨rfl, LeL.refl _⟩ | exact Le.refl _ | exact List.Sublist.refl _ | (show Le (AV.i _) (AV.i _); rw [List.length_map]; exact Le.refl _) | refine And.intro ?_ ?_))
  obtain ⟨hle, hgt⟩ := hacc
  refine sem_seq (esc := fun _ => false) tab_ok mixed ?_
  refine sem_seq (esc := fun _ => false) tab_ok mixed ?_
  by_cases h1 : 2000 < acc
  · refine ifB_t h1 ?_
    exact no (by unfold arrowOk; rw [decide_eq_false (by have := hgt h1; omega)]; rfl)
  refine ifB_f h1 ?_
  have hsum : to.nodes + ts.length + Tm.nodesL ts ≤ 2000 := by have := hle (by omega); omega
  by_cases h2 : tmRight 4 1125899906842624 to = true
  rotate_left
  · refine ⟨_, LeL.refl _, (Arrow1_con to).to (r' := .b true) (by simp only [ntrue h2, Bool.not_false]) _ _ ?_⟩
    intro hz1 hz2; clear hz1 hz2
    exact no (by unfold arrowOk; rw [ntrue h2]; simp)
  refine ⟨_, LeL.refl _, (Arrow1_con to).to (r' := .b false) (by simp only [h2, Bool.not_true]) _ _ ?_⟩
  intro hz1 hz2; clear hz1 hz2
  refine ⟨[.sl .no 5 (ts.map tmA), .fn (.func 113) []], ⟨Le.own _ _ _, Le.refl _, trivial⟩, anyTm (p := fun t => !tmRight 4 1125899906842624 t) ts _ (fun t _ Q hQ => Arrow1_con t _ Q hQ) _ ?_⟩
  intro hz1 hz2; clear hz1 hz2
  obtain ⟨q3, h3⟩ : ∃ q, ts.all (tmRight 4 1125899906842624) = q := ⟨_, rfl⟩
  have h3' : (ts.any fun t => !tmRight 4 1125899906842624 t) = !q3 := by rw [← h3, List.not_all_eq_any_not]
  rw [h3']
  cases q3 with
  | false => exact no (by unfold arrowOk; rw [h3]; simp)
  | true =>
    have hall : ∀ t ∈ ts, tmRight 4 1125899906842624 t = true := fun t ht => List.all_eq_true.1 h3 t ht
    have hfit : ∀ t : Tm, tmRight 4 1125899906842624 t = true → t.nodes ≤ 2000 ∧ tmFit 4 t 1125899906842624 = true := fun t h => by
      unfold tmRight at h
      simp only [Bool.and_eq_true, decide_eq_true_eq] at h
      exact ⟨h.1.2, h.2⟩
    have hok : arrowOk to ts = true := by unfold arrowOk; rw [h2, h3, decide_eq_true hsum]; rfl
    rw [tmArrow, if_pos hok] at hq
    refine sem_seq (esc := fun _ => false) tab_ok mixed ?_
    refine sem_join (esc := fun _ => false) tab_ok mixed (X := Option Cap) (fun q => ⟨[(1, .g (.sl o 5 (ts.map tmA))), (2, .lp 2 0), (4, .lp 4 0), (10, .g (.sl (ownQ q) 5 ((liftsFrom 0 ts).map tmA)))], [(4, [.i 0, .i 0, .str [], .sl .full 0 [], .sl .full 0 []]), (2, (tmX to).cells)], bufH q H⟩)
      (fun _ => True) ?_ (fun q _ => ?_)
    · refine ⟨Option Cap × Nat, fun p => ⟨[(1, .g (.sl o 5 (ts.map tmA))), (2, .lp 2 0), (4, .lp 4 0), (10, .g (.sl (ownQ p.1) 5 (((liftsFrom 0 ts).take p.2).map tmA))), (44, .g (.sl o 5 (ts.map tmA))), (45, .g (.i ts.length)), (46, .g (.i p.2))], [(4, [.i 0, .i 0, .str [], .sl .full 0 [], .sl .full 0 []]), (2, (tmX to).cells)], bufH p.1 H⟩,
        fun p => p.2 ≤ ts.length, fun p => ts.length - p.2, ⟨(none, 0), Nat.zero_le _, ?_⟩, ?_⟩
      · refine ⟨⟨Le.refl _, ⟨rfl, rfl⟩, ⟨rfl, rfl⟩, Le.nil' _, Le.refl _, le_of_eq ?_, Le.refl _, trivial⟩, ⟨⟨rfl, LeL.refl _⟩, ⟨rfl, LeL.refl _⟩, trivial⟩, List.Sublist.refl _⟩
        show AV.i _ = AV.i _
        rw [hlen]
      · rintro ⟨q, j⟩ hj
        simp only at hj
        refine ifB_dec (fun h4 => ?_) (fun h4 => ?_)
        · simp only at h4
          have hlt : j < ts.length := by omega
          have hf := hfit _ (hall _ (List.getElem_mem hlt))
          have hsn : ((liftsFrom 0 ts).take j).map tmA ++ [tmX (tmLift (j : Nat) ts[j] 0)] = ((liftsFrom 0 ts).take (j + 1)).map tmA := by rw [lifts_take hlt, List.map_append, ← tmA_eq]; rfl
          have hlen2 : ((liftsFrom 0 ts).take j).length ≤ ts.length := by rw [List.length_take, lifts_len]; omega
          refine ⟨j, rfl, _, tmAt' hlt, ?_⟩
          refine ⟨_, LeL.refl _, lift_con 4 j (by omega) (by omega) 2000 ts[j] 0 1125899906842624 hf.1 hf.2 (by omega) (by omega) (by omega) (by omega) _ _ ?_⟩
          intro hz1 hz2; clear hz1 hz2
          refine ⟨?_, ?_⟩
          · simp only [List.length_map, List.length_cons, List.length_nil]
            show _ * (80 + 1) ≤ _
            omega
          refine own_of (q := q) (H0 := H) ?_ ?_ ?_ (fun c' hc => ?_)
          · exact rfl
          · exact rfl
          · exact fun _ h => h
          refine ⟨in64_of (by first | omega | (dsimp only; omega)) (by first | omega | (dsimp only; omega)), ?_⟩
          refine ⟨(some c', j + 1), (by simp only; omega), by (try dsimp only); omega, ⟨⟨Le.refl _, ⟨rfl, rfl⟩, ⟨rfl, rfl⟩, le_of_eq ?_, Le.refl _, Le.refl _, Le.refl _, trivial⟩, ⟨⟨rfl, LeL.refl _⟩, ⟨rfl, LeL.refl _⟩, trivial⟩, List.Sublist.refl _⟩⟩
          show AV.sl (.own c') 5 _ = .sl (.own c') 5 _
          rw [hsn]
        · simp only at h4
          have hj' : ts.length = j := by omega
          subst hj'
          refine ⟨q, trivial, ⟨⟨Le.refl _, ⟨rfl, rfl⟩, ⟨rfl, rfl⟩, le_of_eq ?_, trivial⟩, ⟨⟨rfl, LeL.refl _⟩, ⟨rfl, LeL.refl _⟩, trivial⟩, List.Sublist.refl _⟩⟩
          show AV.sl (ownQ q) 5 _ = .sl (ownQ q) 5 _
          rw [List.take_of_length_le (by rw [lifts_len]; exact Nat.le_refl _)]
    have hto := hfit _ h2
    refine sem_of (esc := fun _ => false) tab_ok mixed ?_
    refine ⟨[tmX to, .i (ts.length : Nat), .i 0], ⟨Le.refl _, le_of_eq ?_, Le.refl _, trivial⟩, lift_con 4 (ts.length : Nat) (by omega) (by omega) 2000 to 0 1125899906842624 hto.1 hto.2 (by omega) (by omega) (by omega) (by omega) _ _ ?_⟩
    · show AV.i _ = AV.i _
      rw [hlen]
    intro hz1 hz2; clear hz1 hz2
    refine ⟨_, LeL.refl _, Pi_con _ _ _ (by rw [tmLift_nodes]; omega) (fun t ht => ?_) _ _ ?_⟩
    · have h5 := Tm.nodesL_mem ht
      rw [lifts_nodes] at h5
      omega
    intro hz1 hz2; clear hz1 hz2
    exact ⟨_, _, Le.refl _, bufH_sub q _, hq⟩
end Go.Proofs.YtnjnfegafmhgnaaGreatDoor

/-
  The reference's Lift and Arrow. No condition.
-/
namespace Go.Proofs.YtnjnfegafmhgnaaGreatDoor
open Go.RowKit

set_option maxRecDepth 100000 in
set_option maxHeartbeats 1000000 in
/-- a copy whose parts' memory may turn -/
theorem CopyTermA_con (t : Tm) (hN1 : t.nodes ≤ 1000000) (H : Heap) (Q : AV → Heap → Prop) (hq : ∀ m : Mv, MvOk 5 t.args.length (t.args.map tmA) H m → Q (.agg [.i t.kind, .i t.n, .str t.name, .sl .no 3 (t.levels.map lvA), mvV 5 m t.args.length]) (mvH m H)) : Con Tryz.prog 60 [tmX t] H Q := by
  have hnd := t.nodes_eq
  have hll := lvLen_nodes t.levels
  have htl := tmLen_nodes t.args
  refine con_of_awp (esc := ([47].contains ·)) tab_ok mixed Tryz.func60 rfl (ent Tryz.func60 (by kernel_rfl) rfl) (by kernel_rfl) ?_
  intro hw hn
  clear hw hn
  refine ⟨Option Cap × Nat, fun p => ⟨[(1, .lp 1 0), (2, .lp 2 0), (3, .lp 3 0), (4, .g (.i p.2))], [(3, [.i t.kind, .i t.n, .str t.name, .sl (ownQ p.1) 3 ((t.levels.take p.2).map lvA), .sl .full 0 []]), (2, [.i 0, .i 0, .str [], .sl .full 0 [], .sl .full 0 []]), (1, (tmX t).cells)], bufH p.1 H⟩,
    fun p => p.2 ≤ t.levels.length, fun p => t.levels.length - p.2, ⟨(none, 0), Nat.zero_le _, ?_⟩, ?_⟩
  · exact ⟨⟨⟨rfl, rfl⟩, ⟨rfl, rfl⟩, ⟨rfl, rfl⟩, Le.refl _, trivial⟩, ⟨⟨rfl, ⟨Le.refl _, Le.refl _, Le.refl _, Le.nil' _, Le.refl _, trivial⟩⟩, ⟨rfl, LeL.refl _⟩, ⟨rfl, LeL.refl _⟩, trivial⟩, List.Sublist.refl _⟩
  · rintro ⟨q, j⟩ hj
    simp only at hj
    refine ifB_dec (fun h1 => ?_) (fun h1 => ?_)
    · simp only [List.length_map] at h1
      have hlt : j < t.levels.length := by omega
      have hmem := Lv.nodesL_mem (List.getElem_mem hlt)
      refine ⟨[0, 1, 2, 3, 4, 5, 6, 7, 8, 9, 10, 11], [], by kernel_rfl, by simp, ?_⟩
      refine ⟨j, rfl, _, lvAt hlt, ?_⟩
      refine ⟨_, LeL.refl _, CopyLevel_con _ t.levels[j] (Nat.le_refl _) (by omega) _ _ ?_⟩
      intro hz1 hz2; clear hz1 hz2
      refine ⟨?_, ?_⟩
      · simp only [List.length_map, List.length_cons, List.length_nil]
        try simp only [List.length_take]
        show _ * (40 + 1) ≤ _
        omega
      refine own_of (q := q) (H0 := H) ?_ ?_ ?_ (fun c hc => ?_)
      · exact rfl
      · exact rfl
      · exact fun _ h => h
      have hsn : (t.levels.take j).map lvA ++ [lvX t.levels[j]] = (t.levels.take (j + 1)).map lvA := by rw [List.take_succ_eq_append_getElem hlt, List.map_append, ← lvA_eq]; rfl
      have hnext : Le (.sl (.own c) 3 ((t.levels.take j).map lvA ++ [lvX t.levels[j]])) (.sl (ownQ (some c)) 3 ((t.levels.take (j + 1)).map lvA)) := by rw [hsn]; exact Le.refl _
      refine ⟨in64_of (by first | omega | (dsimp only; omega)) (by first | omega | (dsimp only; omega)), ?_⟩
      exact ⟨(some c, j + 1), (by simp only; omega), by (try dsimp only); omega, ⟨⟨⟨rfl, rfl⟩, ⟨rfl, rfl⟩, ⟨rfl, rfl⟩, Le.refl _, trivial⟩, ⟨⟨rfl, ⟨Le.refl _, Le.refl _, Le.refl _, hnext, Le.refl _, trivial⟩⟩, ⟨rfl, LeL.refl _⟩, ⟨rfl, LeL.refl _⟩, trivial⟩, List.Sublist.refl _⟩⟩
    · simp only [List.length_map] at h1
      have hj' : t.levels.length = j := by omega
      subst hj'
      have hlv : Le (.sl (ownQ q) 3 ((t.levels.take t.levels.length).map lvA)) (.sl .no 3 (t.levels.map lvA)) := Le.trans (ownQ_le _ _ _) (le_of_eq (by rw [List.take_length]))
      refine ⟨Mv × Nat, fun p => ⟨[(1, .lp 1 0), (2, .lp 2 0), (3, .lp 3 0), (5, .g (.i p.2))], [(3, [.i t.kind, .i t.n, .str t.name, .sl .no 3 (t.levels.map lvA), mvS p.1 p.2]), (2, [.i 0, .i 0, .str [], .sl .full 0 [], .sl .full 0 []]), (1, (tmX t).cells)], mvH p.1 H⟩,
        fun p => p.2 ≤ t.args.length ∧ MvOk 5 p.2 ((t.args.take p.2).map tmA) H p.1, fun p => t.args.length - p.2, ⟨(none, 0), ⟨Nat.zero_le _, ⟨rfl, rfl⟩⟩, ?_⟩, ?_⟩
      · exact ⟨⟨⟨rfl, rfl⟩, ⟨rfl, rfl⟩, ⟨rfl, rfl⟩, Le.refl _, trivial⟩, ⟨⟨rfl, ⟨Le.refl _, Le.refl _, Le.refl _, hlv, Le.refl _, trivial⟩⟩, ⟨rfl, LeL.refl _⟩, ⟨rfl, LeL.refl _⟩, trivial⟩, bufH_sub q _⟩
      · rintro ⟨m, j⟩ ⟨hj, hz⟩
        simp only at hj hz
        refine ifB_dec (fun h1 => ?_) (fun h1 => ?_)
        · simp only [List.length_map] at h1
          have hlt : j < t.args.length := by omega
          have hmem := Tm.nodesL_mem (List.getElem_mem hlt)
          have hsn : (t.args.take j).map tmA ++ [tmX t.args[j]] = (t.args.take (j + 1)).map tmA := by rw [List.take_succ_eq_append_getElem hlt, List.map_append, ← tmA_eq]; rfl
          refine ⟨[0, 1, 2, 3, 4, 5, 6, 7, 8, 9, 10, 11], [], by kernel_rfl, by simp, ?_⟩
          refine ⟨j, rfl, _, tmAt' hlt, ?_⟩
          refine ⟨_, LeL.refl _, CopyTerm_con _ t.args[j] (Nat.le_refl _) (by omega) _ _ ?_⟩
          intro hz1 hz2; clear hz1 hz2
          cases m with
          | none =>
            have hj0 : j = 0 := hz.1
            subst hj0
            refine ⟨(by show (0 + 1) * (80 + 1) ≤ 140737488355328; decide), by simp, rfl, fun b cap rest k1 k2 k3 k4 => ?_⟩
            have hok : MvOk 5 1 ((t.args.take (0 + 1)).map tmA) H (some (b, cap, ([] ++ [tmX t.args[0]]).flatMap AV.cells ++ rest)) := by
              rw [← hsn]
              exact ⟨by decide, TurnOk.first rfl k1 k2 k3 k4⟩
            refine ⟨in64_of (by first | omega | (dsimp only; omega)) (by first | omega | (dsimp only; omega)), ?_⟩
            exact ⟨(some (b, cap, ([] ++ [tmX t.args[0]]).flatMap AV.cells ++ rest), 1), ⟨by simp only; omega, hok⟩, by (try dsimp only); omega, ⟨⟨⟨rfl, rfl⟩, ⟨rfl, rfl⟩, ⟨rfl, rfl⟩, Le.refl _, trivial⟩, ⟨⟨rfl, ⟨Le.refl _, Le.refl _, Le.refl _, Le.refl _, Le.refl _, trivial⟩⟩, ⟨rfl, LeL.refl _⟩, ⟨rfl, LeL.refl _⟩, trivial⟩, List.Sublist.refl _⟩⟩
          | some p =>
            obtain ⟨b0, cap0, cs0⟩ := p
            obtain ⟨hj0, htk⟩ := hz
            refine ⟨?_, by simp, cs0, H, Heap.Rem.here, htk.le, htk.max, htk.room, fun b cap rest k1 k2 k3 k4 => ?_⟩
            · simp only [List.length_cons, List.length_nil]
              show _ * (80 + 1) ≤ _
              omega
            have hok : MvOk 5 (j + 1) ((t.args.take (j + 1)).map tmA) H (some (b, cap, cs0.take (j * 5) ++ [tmX t.args[j]].flatMap AV.cells ++ rest)) := by
              rw [← hsn]
              exact ⟨by omega, htk.next (wide_tms _) rfl k1 k2 k3 k4⟩
            refine ⟨in64_of (by first | omega | (dsimp only; omega)) (by first | omega | (dsimp only; omega)), ?_⟩
            exact ⟨(some (b, cap, cs0.take (j * 5) ++ [tmX t.args[j]].flatMap AV.cells ++ rest), j + 1), ⟨by simp only; omega, hok⟩, by (try dsimp only); omega, ⟨⟨⟨rfl, rfl⟩, ⟨rfl, rfl⟩, ⟨rfl, rfl⟩, Le.refl _, trivial⟩, ⟨⟨rfl, ⟨Le.refl _, Le.refl _, Le.refl _, Le.refl _, Le.refl _, trivial⟩⟩, ⟨rfl, LeL.refl _⟩, ⟨rfl, LeL.refl _⟩, trivial⟩, List.Sublist.refl _⟩⟩
        · simp only [List.length_map] at h1
          have hj' : t.args.length = j := by omega
          subst hj'
          rw [List.take_length] at hz
          have hfin : Le (.agg [.i t.kind, .i t.n, .str t.name, .sl .no 3 (t.levels.map lvA), mvS m t.args.length]) (.agg [.i t.kind, .i t.n, .str t.name, .sl .no 3 (t.levels.map lvA), mvV 5 m t.args.length]) := Le.agg ⟨Le.refl _, Le.refl _, Le.refl _, Le.refl _, mvS_le 5 m _, trivial⟩
          exact ⟨_, _, hfin, List.Sublist.refl _, hq m hz⟩
theorem TurnOk.put {s n : Nat} {xs : List AV} {H : Heap} {b cap : Nat} {cs : List AV} (h : TurnOk s n xs H b cap cs) (hw : wide s xs) {j : Nat} (hj : j < n) {y : AV} (hy : y.cells.length = s) : TurnOk s n (xs.set j y) H b cap (putCells cs (j * s) y.cells) ∧ j * s + s ≤ cs.length := by
  have hl := h.len
  have hfl : (xs.flatMap AV.cells).length = n * s := by rw [flat_len hw, hl]
  obtain ⟨rest, hrest⟩ : ∃ rest, cs = xs.flatMap AV.cells ++ rest := ⟨cs.drop (n * s), by rw [← h.here, List.take_append_drop]⟩
  have hroom := h.room
  have hjl : j < xs.length := by omega
  have hr := row_room hw.2 hjl rest
  rw [hrest] at hroom ⊢
  have hw2 : wide s (xs.set j y) := ⟨fun h0 => by rw [hw.1 h0]; rfl, fun z hz => by
    rcases List.mem_or_eq_of_mem_set hz with hz | rfl
    · exact hw.2 z hz
    · exact hy⟩
  have hfl2 : ((xs.set j y).flatMap AV.cells).length = n * s := by rw [flat_len hw2, List.length_set, hl]
  rw [row_put hw.2 hjl rest hy]
  refine ⟨⟨by rw [List.length_set]; exact hl, h.out, h.le, h.max, ?_, List.take_left' hfl2⟩, hr⟩
  rw [List.length_append, hfl2]
  rw [List.length_append, hfl] at hroom
  exact hroom
/-- so many parts are lifted -/
theorem lift_set {c : Int} {t : Tm} {deep : Int} {j : Nat} (h : j < t.args.length) : ((((tmLiftL c t.kind t.args 0 deep).take j ++ t.args.drop j)).map tmA).set j (tmX (tmLift c t.args[j] (if tmBind t.kind j = true then deep + 1 else deep))) = ((tmLiftL c t.kind t.args 0 deep).take (j + 1) ++ t.args.drop (j + 1)).map tmA := by
  have hl : ((tmLiftL c t.kind t.args 0 deep).take j).length = j := by rw [List.length_take, tmLiftL_len]; omega
  rw [tmLiftL_take h, List.append_assoc, List.map_append, List.map_append, List.set_append_right _ _ (by rw [List.length_map, hl]; exact Nat.le_refl _), List.length_map, hl, Nat.sub_self, List.drop_eq_getElem_cons h, List.map_cons, List.set_cons_zero, ← tmA_eq]
  rfl
set_option maxRecDepth 100000 in
set_option maxHeartbeats 2000000 in
theorem RefLift_con (p c : Int) (hc0 : 0 ≤ c) (hc1 : c ≤ 1125899906842624) : ∀ (N : Nat) (t : Tm) (deep vars : Int), t.nodes ≤ N → tmFit p t vars = true → vars + N ≤ 2305843009213693952 → 0 ≤ deep → deep + N ≤ 4611686018427387904 → N ≤ 1000000 → Ans Tryz.prog 116 [tmX t, .i c, .i deep] (tmX (tmLift c t deep)) := by
  intro N
  induction N with
  | zero => intro l d v h; have := l.nodes_pos; omega
  | succ N ih =>
    intro t deep vars hN hfit hv hd0 hd1 hN1 H Q hq
    have hnd := t.nodes_eq
    have htl := tmLen_nodes t.args
    have hfl := tmFit_argL hfit
    obtain ⟨n', hn'⟩ : ∃ n', (if t.kind = 1 ∧ deep ≤ t.n then t.n + c else t.n) = n' := ⟨_, rfl⟩
    have hmv : ∀ (Q : AV → Heap → Prop), (∀ m : Mv, MvOk 5 t.args.length ((tmLiftL c t.kind t.args 0 deep).map tmA) H m → Q (.agg [.i t.kind, .i n', .str t.name, .sl .no 3 (t.levels.map lvA), mvV 5 m t.args.length]) (mvH m H)) → Con Tryz.prog 116 [tmX t, .i c, .i deep] H Q := by
      intro Q hq
      refine con_of_sem tab_ok Tryz.func116 rfl (ent Tryz.func116 (by kernel_rfl) rfl) (by kernel_rfl) ?_
      intro hw hn
      have hlena := (hw (tmX t) (by simp)).targs
      clear hw hn
      refine sem_seq (esc := fun _ => false) tab_ok mixed ?_
      refine sem_seq (esc := fun _ => false) tab_ok mixed ?_
      refine ⟨_, LeL.refl _, CopyTermA_con t (by omega) H _ fun m hm => ?_⟩
      intro hz1 hz2; clear hz1 hz2
      refine sem_join (esc := fun _ => false) tab_ok mixed (X := Unit) (fun _ => ⟨[(1, .g (.i c)), (2, .g (.i deep)), (3, .lp 3 0), (6, .lp 6 0), (7, .lp 7 0)], [(7, [.i t.kind, .i n', .str t.name, .sl .no 3 (t.levels.map lvA), mvV 5 m t.args.length]), (6, [.i 0, .i 0, .str [], .sl .full 0 [], .sl .full 0 []]), (3, (tmX t).cells)], mvH m H⟩) (fun _ => True) ?_ (fun _ _ => ?_)
      · refine ifB_dec (fun h1 => ?_) (fun h1 => ?_)
        · have hvn := tmFit_var hfit h1
          refine ifB_dec (fun h2 => ?_) (fun h2 => ?_)
          · rw [if_pos ⟨h1, h2⟩] at hn'
            refine ⟨in64_of (by first | omega | (dsimp only; omega)) (by first | omega | (dsimp only; omega)), ?_⟩
            exact ⟨(), trivial, ⟨⟨Le.refl _, Le.refl _, ⟨rfl, rfl⟩, ⟨rfl, rfl⟩, ⟨rfl, rfl⟩, trivial⟩, ⟨⟨rfl, ⟨Le.refl _, ret_i hn', Le.refl _, Le.refl _, Le.refl _, trivial⟩⟩, ⟨rfl, LeL.refl _⟩, ⟨rfl, LeL.refl _⟩, trivial⟩, List.Sublist.refl _⟩⟩
          · rw [if_neg (fun h => h2 h.2)] at hn'
            exact ⟨(), trivial, ⟨⟨Le.refl _, Le.refl _, ⟨rfl, rfl⟩, ⟨rfl, rfl⟩, ⟨rfl, rfl⟩, trivial⟩, ⟨⟨rfl, ⟨Le.refl _, ret_i hn', Le.refl _, Le.refl _, Le.refl _, trivial⟩⟩, ⟨rfl, LeL.refl _⟩, ⟨rfl, LeL.refl _⟩, trivial⟩, List.Sublist.refl _⟩⟩
        · rw [if_neg (fun h => h1 h.1)] at hn'
          exact ⟨(), trivial, ⟨⟨Le.refl _, Le.refl _, ⟨rfl, rfl⟩, ⟨rfl, rfl⟩, ⟨rfl, rfl⟩, trivial⟩, ⟨⟨rfl, ⟨Le.refl _, ret_i hn', Le.refl _, Le.refl _, Le.refl _, trivial⟩⟩, ⟨rfl, LeL.refl _⟩, ⟨rfl, LeL.refl _⟩, trivial⟩, List.Sublist.refl _⟩⟩
      refine sem_of (esc := fun _ => false) tab_ok mixed ?_
      refine ⟨Nat × Mv, fun q => ⟨[(1, .g (.i c)), (2, .g (.i deep)), (3, .lp 3 0), (6, .lp 6 0), (7, .lp 7 0), (8, .g (.i q.1))], [(7, [.i t.kind, .i n', .str t.name, .sl .no 3 (t.levels.map lvA), mvV 5 q.2 t.args.length]), (6, [.i 0, .i 0, .str [], .sl .full 0 [], .sl .full 0 []]), (3, (tmX t).cells)], mvH q.2 H⟩,
        fun q => q.1 ≤ t.args.length ∧ tmFitL p t.kind (t.args.drop q.1) q.1 vars = true ∧ MvOk 5 t.args.length (((tmLiftL c t.kind t.args 0 deep).take q.1 ++ t.args.drop q.1).map tmA) H q.2, fun q => t.args.length - q.1, ⟨(0, m), ⟨Nat.zero_le _, hfl, by simpa using hm⟩, ?_⟩, ?_⟩
      · exact ⟨⟨Le.refl _, Le.refl _, ⟨rfl, rfl⟩, ⟨rfl, rfl⟩, ⟨rfl, rfl⟩, Le.refl _, trivial⟩, ⟨⟨rfl, LeL.refl _⟩, ⟨rfl, LeL.refl _⟩, ⟨rfl, LeL.refl _⟩, trivial⟩, List.Sublist.refl _⟩
      · rintro ⟨j, m⟩ ⟨hj, hft, hz⟩
        simp only at hj hft hz
        refine ifB_dec (fun h1 => ?_) (fun h1 => ?_)
        · simp only [List.length_map] at h1
          have hlt : j < t.args.length := by omega
          have hmem := Tm.nodesL_mem (List.getElem_mem hlt)
          rw [tmFitL_at hlt, Bool.and_eq_true] at hft
          have hset := lift_set (c := c) (deep := deep) hlt
          cases m with
          | none => exact absurd hz.1 (by omega)
          | some q =>
            obtain ⟨b, cap, cs⟩ := q
            obtain ⟨hz0, hok⟩ := hz
            by_cases h3 : tmBind t.kind j = true
            · rw [if_pos h3] at hset
              rw [if_pos h3] at hft
              refine ⟨_, LeL.refl _, (binds_con t.kind j).yes h3 _ _ ?_⟩
              intro hz1 hz2; clear hz1 hz2
              refine ⟨in64_of (by first | omega | (dsimp only; omega)) (by first | omega | (dsimp only; omega)), ?_⟩
              refine ⟨[0, 1, 2, 3, 4, 5, 6, 7, 8, 9, 10, 11, 12], [], by kernel_rfl, by simp, ?_⟩
              refine ⟨j, rfl, _, tmAt' hlt, ?_⟩
              refine ⟨_, LeL.refl _, ih t.args[j] (deep + 1) (vars + 1) (by omega) hft.1 (by omega) (by omega) (by omega) (by omega) _ _ ?_⟩
              intro hz1 hz2; clear hz1 hz2
              obtain ⟨p1, p2⟩ := hok.put (wide_tms _) hlt (y := tmX (tmLift c t.args[j] (deep + 1))) rfl
              rw [hset] at p1
              refine ⟨j, rfl, hlt, ?_⟩
              refine ⟨_, _, .here, by rw [Nat.zero_add]; exact p2, ?_⟩
              refine ⟨in64_of (by first | omega | (dsimp only; omega)) (by first | omega | (dsimp only; omega)), ?_⟩
              refine ⟨(j + 1, some (b, cap, putCells cs (j * 5) (tmX (tmLift c t.args[j] (deep + 1))).cells)), ⟨by simp only; omega, hft.2, hz0, p1⟩, by (try dsimp only); omega, ⟨⟨Le.refl _, Le.refl _, ⟨rfl, rfl⟩, ⟨rfl, rfl⟩, ⟨rfl, rfl⟩, Le.refl _, trivial⟩, ⟨⟨rfl, LeL.refl _⟩, ⟨rfl, LeL.refl _⟩, ⟨rfl, LeL.refl _⟩, trivial⟩, sub_eq ?_⟩⟩
              rw [Nat.zero_add]
              rfl
            · rw [if_neg h3] at hset
              rw [if_neg h3] at hft
              refine ⟨_, LeL.refl _, (binds_con t.kind j).no h3 _ _ ?_⟩
              intro hz1 hz2; clear hz1 hz2
              refine ⟨[0, 1, 2, 3, 4, 5, 6, 7, 8, 9, 10, 11, 12], [], by kernel_rfl, by simp, ?_⟩
              refine ⟨j, rfl, _, tmAt' hlt, ?_⟩
              refine ⟨_, LeL.refl _, ih t.args[j] (deep) (vars) (by omega) hft.1 (by omega) (by omega) (by omega) (by omega) _ _ ?_⟩
              intro hz1 hz2; clear hz1 hz2
              obtain ⟨p1, p2⟩ := hok.put (wide_tms _) hlt (y := tmX (tmLift c t.args[j] (deep))) rfl
              rw [hset] at p1
              refine ⟨j, rfl, hlt, ?_⟩
              refine ⟨_, _, .here, by rw [Nat.zero_add]; exact p2, ?_⟩
              refine ⟨in64_of (by first | omega | (dsimp only; omega)) (by first | omega | (dsimp only; omega)), ?_⟩
              refine ⟨(j + 1, some (b, cap, putCells cs (j * 5) (tmX (tmLift c t.args[j] (deep))).cells)), ⟨by simp only; omega, hft.2, hz0, p1⟩, by (try dsimp only); omega, ⟨⟨Le.refl _, Le.refl _, ⟨rfl, rfl⟩, ⟨rfl, rfl⟩, ⟨rfl, rfl⟩, Le.refl _, trivial⟩, ⟨⟨rfl, LeL.refl _⟩, ⟨rfl, LeL.refl _⟩, ⟨rfl, LeL.refl _⟩, trivial⟩, sub_eq ?_⟩⟩
              rw [Nat.zero_add]
              rfl
        · simp only [List.length_map] at h1
          have hj' : t.args.length = j := by omega
          subst hj'
          rw [List.drop_length, List.append_nil, List.take_of_length_le (by rw [tmLiftL_len]; exact Nat.le_refl _)] at hz
          exact ⟨_, _, Le.refl _, List.Sublist.refl _, hq m hz⟩
    have hres : Le (.agg [.i t.kind, .i n', .str t.name, .sl .no 3 (t.levels.map lvA), .sl .no 5 ((tmLiftL c t.kind t.args 0 deep).map tmA)]) (tmX (tmLift c t deep)) := le_of_eq (by rw [tmLift_eq, hn']; rfl)
    by_cases h0 : t.args.length = 0
    · have h1 : t.args = [] := List.eq_nil_of_length_eq_zero h0
      refine hmv Q fun m hm => ?_
      cases m with
      | none =>
        rw [tmLift_eq, hn', h1] at hq
        exact hq
      | some q => exact absurd h0 hm.1
    · refine Con.ice (hmv _ fun m hm => ?_)
      cases m with
      | none => exact absurd hm.1 h0
      | some q =>
        obtain ⟨b, cap, cs⟩ := q
        refine ⟨b, cs, H, tmX (tmLift c t deep), .here, fun M h => ?_, hq⟩
        have h1 : LeLM M [.i t.kind, .i n', .str t.name, .sl .no 3 (t.levels.map lvA), hs b t.args.length cap] [.i t.kind, .i n', .str t.name, .sl .no 3 (t.levels.map lvA), .sl .no 5 ((tmLiftL c t.kind t.args 0 deep).map tmA)] := ⟨LeM.refl _, LeM.refl _, LeM.refl _, LeM.refl _, hm.2.see (wide_tms _) h, trivial⟩
        exact LeM.trans (LeM.agg h1) (Le.m hres M)
set_option maxRecDepth 100000 in
set_option maxHeartbeats 2000000 in
theorem RefArrow_con (o : Own) (to : Tm) (ts : List Tm) (hl : ts.length ≤ 1000000) : Ans Tryz.prog 51 [tmX to, .sl o 5 (ts.map tmA)] (.tup [tmX (tmArrow to ts).1, .b (tmArrow to ts).2]) := by
  intro H Q hq
  have hlen : (ts.map tmA).length = ts.length := List.length_map _
  have no : arrowOk to ts = false → ∃ r H', Le (.tup [.agg [.i 0, .i 0, .str [], .sl .full 0 [], .sl .full 0 []], .b false]) r ∧ List.Sublist H' H ∧ Q r H' := fun h => by
    rw [tmArrow, if_neg (by rw [h]; decide)] at hq
    exact ⟨.tup [tmX tm0, .b false], H, Le.tup ⟨le_tm0, Le.refl _, trivial⟩, List.Sublist.refl _, hq⟩
  have htot := tmLen_nodes ts
  refine con_of_sem tab_ok Tryz.func51 rfl (ent Tryz.func51 (by kernel_rfl) rfl) (by kernel_rfl) ?_
  intro hw hn
  clear hw hn
  refine sem_seq (esc := fun _ => false) tab_ok mixed ?_
  refine sem_seq (esc := fun _ => false) tab_ok mixed ?_
  refine ⟨_, LeL.refl _, ref04Nodes_con 2000 (by omega) _ to (Nat.le_refl _) _ _ ?_⟩
  intro hz1 hz2; clear hz1 hz2
  refine ⟨in64_of (by first | omega | (dsimp only; omega)) (by first | omega | (dsimp only; omega)), ?_⟩
  refine sem_seq (esc := fun _ => false) tab_ok mixed ?_
  refine ⟨_, LeL.refl _, ref04Any_con to 4 _ _ ?_⟩
  intro hz1 hz2; clear hz1 hz2
  obtain ⟨r0, hr0⟩ : ∃ r, tmRight 4 1125899906842624 to = r := ⟨_, rfl⟩
  refine sem_join (esc := fun _ => false) tab_ok mixed (X := Int × Bool) (fun p => ⟨[(1, .g (.sl o 5 (ts.map tmA))), (2, .lp 2 0), (4, .lp 4 0), (5, .g (.b false)), (6, .g (.i p.1)), (7, .g (.b p.2))], [(4, [.i 0, .i 0, .str [], .sl .full 0 [], .sl .full 0 []]), (2, (tmX to).cells)], H⟩)
    (fun p => (p.1 ≤ 2000 → p.1 = ((to.nodes + ts.length + Tm.nodesL ts : Nat) : Int) ∧ p.2 = (r0 && ts.all (tmRight 4 1125899906842624))) ∧ (2000 < p.1 → 2000 < to.nodes + ts.length + Tm.nodesL ts)) ?_ (fun p hacc => ?_)
  · refine ⟨Nat × Int × Bool, fun p => ⟨[(1, .g (.sl o 5 (ts.map tmA))), (2, .lp 2 0), (4, .lp 4 0), (5, .g (.b false)), (6, .g (.i p.2.1)), (7, .g (.b p.2.2)), (8, .g (.i p.1))], [(4, [.i 0, .i 0, .str [], .sl .full 0 [], .sl .full 0 []]), (2, (tmX to).cells)], H⟩,
      fun p => p.1 ≤ ts.length ∧ 0 ≤ p.2.1 ∧ p.2.1 ≤ 1004001 ∧ (p.2.1 ≤ 2000 → p.2.1 = ((to.nodes + ts.length + Tm.nodesL (ts.take p.1) : Nat) : Int)) ∧ (2000 < p.2.1 → 2000 < to.nodes + ts.length + Tm.nodesL ts) ∧ p.2.2 = (r0 && (ts.take p.1).all (tmRight 4 1125899906842624)), fun p => ts.length - p.1, ⟨(0, (min to.nodes 2001 : Nat) + (ts.length : Int), r0), ⟨Nat.zero_le _, by simp only; omega, by simp only; omega, ?_, ?_, by simp⟩, ?_⟩, ?_⟩
    · simp only [List.take_zero, Tm.nodesL]
      omega
    · simp only
      omega
    · refine ⟨⟨Le.refl _, ⟨rfl, rfl⟩, ⟨rfl, rfl⟩, Le.refl _, le_of_eq ?_, ret_b hr0, Le.refl _, trivial⟩, ⟨⟨rfl, LeL.refl _⟩, ⟨rfl, LeL.refl _⟩, trivial⟩, List.Sublist.refl _⟩
      show AV.i _ = AV.i _
      rw [hlen]
    · rintro ⟨j, acc, fine⟩ ⟨hj, ha0, ha1, hle, hgt, hfn⟩
      simp only at hj ha0 ha1 hle hgt hfn
      have hmono := nodesTL_le ts (j + 1)
      refine ifB_dec (fun h1 => ?_) (fun h1 => ?_)
      · simp only [hlen] at h1
        have hlt : j < ts.length := by omega
        have hsn := nodesTL_snoc hlt
        have hall : (ts.take (j + 1)).all (tmRight 4 1125899906842624) = ((ts.take j).all (tmRight 4 1125899906842624) && tmRight 4 1125899906842624 ts[j]) := by
          rw [List.take_succ_eq_append_getElem hlt, List.all_append]
          simp
        refine ifB_dec (fun h2 => ?_) (fun h2 => ?_)
        · simp only at h2
          refine ⟨j, rfl, _, tmAt' hlt, ?_⟩
          refine ⟨_, LeL.refl _, ref04Nodes_con 2000 (by omega) _ ts[j] (Nat.le_refl _) _ _ ?_⟩
          intro hz1 hz2; clear hz1 hz2
          refine ⟨in64_of (by first | omega | (dsimp only; omega)) (by first | omega | (dsimp only; omega)), ?_⟩
          cases fine with
          | false =>
            refine ⟨in64_of (by first | omega | (dsimp only; omega)) (by first | omega | (dsimp only; omega)), ?_⟩
            refine ⟨(j + 1, acc + (min ts[j].nodes 2001 : Nat), false), ⟨by simp only; omega, by simp only; omega, by simp only; omega, ?_, ?_, ?_⟩, by (try dsimp only); omega, ?_⟩
            · simp only
              have := hle (by omega)
              omega
            · simp only
              have := hle (by omega)
              omega
            · simp only
              rw [hall, ← Bool.and_assoc, ← hfn]
              rfl
            · (constructor <;> repeat' (first | exact trivial | exact ⟨rfl, rfl⟩ | exact ⟨rfl, LeL.refl _⟩ | exact Le.refl _ | exact List.Sublist.refl _ | (show Le (AV.i _) (AV.i _); rw [List.length_map]; exact Le.refl _) | refine And.intro ?_ ?_))
          | true =>
            refine ⟨j, rfl, _, tmAt' hlt, ?_⟩
            refine ⟨_, LeL.refl _, ref04Any_con ts[j] 4 _ _ ?_⟩
            intro hz1 hz2; clear hz1 hz2
            refine ⟨in64_of (by first | omega | (dsimp only; omega)) (by first | omega | (dsimp only; omega)), ?_⟩
            refine ⟨(j + 1, acc + (min ts[j].nodes 2001 : Nat), tmRight 4 1125899906842624 ts[j]), ⟨by simp only; omega, by simp only; omega, by simp only; omega, ?_, ?_, ?_⟩, by (try dsimp only); omega, ?_⟩
            · simp only
              have := hle (by omega)
              omega
            · simp only
              have := hle (by omega)
              omega
            · simp only
              rw [hall, ← Bool.and_assoc, ← hfn]
              rfl
            · (constructor <;> repeat' (first | exact trivial | exact ⟨rfl, rfl⟩ | exact ⟨rfl, LeL.refl _⟩ | exact Le.refl _ | exact List.Sublist.refl _ | (show Le (AV.i _) (AV.i _); rw [List.length_map]; exact Le.refl _) | refine And.intro ?_ ?_))
        · simp only at h2
          refine ⟨(acc, fine), ⟨fun h => ?_, hgt⟩, ?_⟩
          · simp only at h ⊢
            have hj' : j = ts.length := by omega
            rw [hj', List.take_length] at hle hfn
            exact ⟨hle h, hfn⟩
          · (constructor <;> repeat' (first | exact trivial | exact ⟨rfl, rfl⟩ | exact ⟨rfl, LeL.refl _⟩ | exact Le.refl _ | exact List.Sublist.refl _ | (show Le (AV.i _) (AV.i _); rw [List.length_map]; exact Le.refl _) | refine And.intro ?_ ?_))
      · simp only [hlen] at h1
        refine ⟨(acc, fine), ⟨fun h => ?_, hgt⟩, ?_⟩
        · simp only at h ⊢
          have hj' : j = ts.length := by omega
          rw [hj', List.take_length] at hle hfn
          exact ⟨hle h, hfn⟩
        · (constructor <;> repeat' (first | exact trivial | exact ⟨rfl, rfl⟩ | exact ⟨rfl, LeL.refl _⟩ | exact Le.refl _ | exact List.Sublist.refl _ | (show Le (AV.i _) (AV.i _); rw [List.length_map]; exact Le.refl _) | refine And.intro ?_ ?_))
  obtain ⟨acc, fine⟩ := p
  obtain ⟨hle, hgt⟩ := hacc
  refine sem_then ?_
  refine sem_seq (esc := fun _ => false) tab_ok mixed ?_
  cases fine with
  | false =>
    refine sem_of (esc := fun _ => false) tab_ok mixed ?_
    refine no ?_
    unfold arrowOk
    by_cases h1 : acc ≤ 2000
    · have := (hle h1).2
      rw [hr0, ← this]
      simp
    · rw [decide_eq_false (by have := hgt (by omega); omega)]
      rfl
  | true =>
    by_cases h1 : 2000 < acc
    · refine ifB_t h1 ?_
      refine sem_of (esc := fun _ => false) tab_ok mixed ?_
      exact no (by unfold arrowOk; rw [decide_eq_false (by have := hgt h1; omega)]; rfl)
    refine ifB_f h1 ?_
    obtain ⟨e1, e2⟩ := hle (by omega)
    have e3 := e2.symm
    rw [Bool.and_eq_true] at e3
    obtain ⟨rfl, h3⟩ := e3
    have hall : ∀ t ∈ ts, tmRight 4 1125899906842624 t = true := fun t ht => List.all_eq_true.1 h3 t ht
    have hfit : ∀ t : Tm, tmRight 4 1125899906842624 t = true → t.nodes ≤ 2000 ∧ tmFit 4 t 1125899906842624 = true := fun t h => by
      unfold tmRight at h
      simp only [Bool.and_eq_true, decide_eq_true_eq] at h
      exact ⟨h.1.2, h.2⟩
    have hok : arrowOk to ts = true := by unfold arrowOk; rw [hr0, h3, decide_eq_true (show to.nodes + ts.length + Tm.nodesL ts ≤ 2000 by omega)]; rfl
    rw [tmArrow, if_pos hok] at hq
    have hto := hfit _ hr0
    refine sem_of (esc := fun _ => false) tab_ok mixed ?_
    refine sem_seq (esc := fun _ => false) tab_ok mixed ?_
    refine ⟨[tmX to, .i (ts.length : Nat), .i 0], ⟨Le.refl _, le_of_eq ?_, Le.refl _, trivial⟩, RefLift_con 4 (ts.length : Nat) (by omega) (by omega) 2000 to 0 1125899906842624 hto.1 hto.2 (by omega) (by omega) (by omega) (by omega) _ _ ?_⟩
    · show AV.i _ = AV.i _
      rw [hlen]
    intro hz1 hz2; clear hz1 hz2
    have hpl : (liftsFrom 0 ts).length = ts.length := lifts_len ts 0
    refine sem_join (esc := fun _ => false) tab_ok mixed (X := Unit) (fun _ => ⟨[(4, .lp 4 0), (9, .lp 9 0)], [(9, (tmX (tmOver 6 (tmLift (ts.length : Nat) to 0) (liftsFrom 0 ts))).cells), (4, [.i 0, .i 0, .str [], .sl .full 0 [], .sl .full 0 []]), (2, (tmX to).cells)], H⟩) (fun _ => True) ?_ (fun _ _ => ?_)
    · refine ⟨by rw [hlen]; exact in64_of (by omega) (by omega), ?_⟩
      refine ⟨Nat, fun k => ⟨[(1, .g (.sl o 5 (ts.map tmA))), (4, .lp 4 0), (9, .lp 9 0), (10, .g (.i ((k : Int) - 1)))], [(9, (tmX (tmOver 6 (tmLift (ts.length : Nat) to 0) ((liftsFrom 0 ts).drop k))).cells), (4, [.i 0, .i 0, .str [], .sl .full 0 [], .sl .full 0 []]), (2, (tmX to).cells)], H⟩, fun k => k ≤ ts.length, fun k => k, ⟨ts.length, Nat.le_refl _, ?_⟩, ?_⟩
      · refine ⟨⟨Le.refl _, ⟨rfl, rfl⟩, ⟨rfl, rfl⟩, le_of_eq ?_, trivial⟩, ⟨⟨rfl, ?_⟩, ⟨rfl, LeL.refl _⟩, ⟨rfl, LeL.refl _⟩, trivial⟩, List.Sublist.refl _⟩
        · show AV.i _ = AV.i _
          rw [hlen]
        · rw [List.drop_of_length_le (by rw [hpl]; exact Nat.le_refl _)]
          exact LeL.refl _
      · intro k hk
        refine ifB_dec (fun h4 => ?_) (fun h4 => ?_)
        · have hlt : k - 1 < ts.length := by omega
          have hlt2 : k - 1 < (liftsFrom 0 ts).length := by omega
          have ek : (k : Int) - 1 = ((k - 1 : Nat) : Int) := by omega
          have hf := hfit _ (hall _ (List.getElem_mem hlt))
          have hstep := tmOver_step (k := 6) (body := tmLift (ts.length : Nat) to 0) hlt2
          rw [lifts_get ts 0 (k - 1) hlt, Nat.zero_add, show k - 1 + 1 = k by omega] at hstep
          refine ⟨[0, 1, 2, 3, 4, 6, 5, 7, 8, 9], [], by kernel_rfl, by simp, ?_⟩
          refine ⟨k - 1, ek, _, tmAt' hlt, ?_⟩
          refine ⟨[tmX ts[k - 1], .i (k - 1 : Nat), .i 0], ⟨Le.refl _, ret_i ek, Le.refl _, trivial⟩, RefLift_con 4 (k - 1 : Nat) (by omega) (by omega) 2000 ts[k - 1] 0 1125899906842624 hf.1 hf.2 (by omega) (by omega) (by omega) (by omega) _ _ ?_⟩
          intro hz1 hz2; clear hz1 hz2
          refine ⟨in64_of (by first | omega | (dsimp only; omega)) (by first | omega | (dsimp only; omega)), ?_⟩
          refine ⟨k - 1, by omega, by (try dsimp only); omega, ⟨⟨Le.refl _, ⟨rfl, rfl⟩, ⟨rfl, rfl⟩, le_of_eq ?_, trivial⟩, ⟨⟨rfl, ?_⟩, ⟨rfl, LeL.refl _⟩, ⟨rfl, LeL.refl _⟩, trivial⟩, List.Sublist.refl _⟩⟩
          · show AV.i _ = AV.i _
            rw [ek]
          · rw [hstep]
            refine ⟨Le.refl _, Le.refl _, Le.refl _, Le.nil _ _, ?_, trivial⟩
            refine Le.trans (Le.own _ _ _) (le_of_eq ?_)
            show AV.sl .no 5 [tmX _, tmX _] = .sl .no 5 [tmA _, tmA _]
            rw [tmA_eq, tmA_eq]
        · have hk0 : k = 0 := by omega
          subst hk0
          exact ⟨(), trivial, ⟨⟨⟨rfl, rfl⟩, ⟨rfl, rfl⟩, trivial⟩, ⟨⟨rfl, LeL.refl _⟩, ⟨rfl, LeL.refl _⟩, ⟨rfl, LeL.refl _⟩, trivial⟩, List.Sublist.refl _⟩⟩
    refine sem_of (esc := fun _ => false) tab_ok mixed ?_
    exact ⟨_, H, Le.refl _, List.Sublist.refl _, hq⟩
end Go.Proofs.YtnjnfegafmhgnaaGreatDoor

/-
  What is right for so many parameters and variables is so for more; lifted and made terms (plain laws of law 04). No condition.
-/
namespace Go.Proofs.YtnjnfegafmhgnaaGreatDoor
open Go.RowKit

theorem lvNode_more {n n' : Int} {k m : Int} {len : Nat} (h : lvNode n k m len = true) (hn : n ≤ n') : lvNode n' k m len = true := by
  unfold lvNode at h ⊢
  by_cases k1 : k = 1
  · rw [if_pos k1] at h ⊢; exact h
  rw [if_neg k1] at h ⊢
  by_cases k2 : k = 2
  · rw [if_pos k2] at h ⊢
    simp only [Bool.and_eq_true, decide_eq_true_eq] at h ⊢
    omega
  rw [if_neg k2] at h ⊢
  exact h
mutual
theorem lvFit_more {n n' : Int} (hn : n ≤ n') : ∀ l : Lv, lvFit n l = true → lvFit n' l = true
  | .mk k m xs, h => by
    rw [lvFit, Bool.and_eq_true] at h ⊢
    exact ⟨lvNode_more h.1 hn, lvFitL_more hn xs h.2⟩
theorem lvFitL_more {n n' : Int} (hn : n ≤ n') : ∀ ls : List Lv, lvFitL n ls = true → lvFitL n' ls = true
  | [], _ => rfl
  | l :: ls, h => by
    rw [lvFitL, Bool.and_eq_true] at h ⊢
    exact ⟨lvFit_more hn l h.1, lvFitL_more hn ls h.2⟩
end
theorem lvRight_more {n n' : Int} {l : Lv} (h : lvRight n l = true) (hn : n ≤ n') (h4 : n' ≤ 4) : lvRight n' l = true := by
  unfold lvRight at h ⊢
  simp only [Bool.and_eq_true, decide_eq_true_eq] at h ⊢
  exact ⟨⟨⟨by omega, h4⟩, h.1.2⟩, lvFit_more hn l h.2⟩
theorem lvRightL_more {n n' : Int} {ls : List Lv} (h : lvRightL n ls = true) (hn : n ≤ n') (h4 : n' ≤ 4) : lvRightL n' ls = true := by
  unfold lvRightL at h ⊢
  rw [List.all_eq_true] at h ⊢
  exact fun l hl => lvRight_more (h l hl) hn h4
theorem tmNode_k {v v' : Int} {k m : Int} {nm : List UInt8} {ls xs : Nat} (hk : k ≠ 1) : tmNode v k m nm ls xs = tmNode v' k m nm ls xs := by
  unfold tmNode
  rw [if_neg hk, if_neg hk]
theorem tmNode_1 {v m : Int} {nm : List UInt8} {ls xs : Nat} : tmNode v 1 m nm ls xs = true ↔ 0 ≤ m ∧ m < v ∧ nm = [] ∧ ls = 0 ∧ xs = 0 := by
  unfold tmNode
  rw [if_pos rfl]
  simp only [Bool.and_eq_true, decide_eq_true_eq, and_assoc]
theorem tmNode_more {v v' : Int} {k m : Int} {nm : List UInt8} {ls xs : Nat} (h : tmNode v k m nm ls xs = true) (hv : v ≤ v') : tmNode v' k m nm ls xs = true := by
  by_cases k1 : k = 1
  · subst k1
    rw [tmNode_1] at h ⊢
    exact ⟨h.1, by omega, h.2.2⟩
  · rw [tmNode_k (v' := v) k1]; exact h
mutual
theorem tmFit_more {p p' : Int} (hp : p ≤ p') (h4 : p' ≤ 4) : ∀ (t : Tm) (v v' : Int), tmFit p t v = true → v ≤ v' → tmFit p' t v' = true
  | .mk k n nm ls xs, v, v', h, hv => by
    rw [tmFit, Bool.and_eq_true, Bool.and_eq_true] at h ⊢
    exact ⟨⟨tmNode_more h.1.1 hv, lvRightL_more h.1.2 hp h4⟩, tmFitL_more hp h4 k xs 0 v v' h.2 hv⟩
theorem tmFitL_more {p p' : Int} (hp : p ≤ p') (h4 : p' ≤ 4) (k : Int) : ∀ (ts : List Tm) (i : Nat) (v v' : Int), tmFitL p k ts i v = true → v ≤ v' → tmFitL p' k ts i v' = true
  | [], _, _, _, _, _ => rfl
  | t :: ts, i, v, v', h, hv => by
    rw [tmFitL, Bool.and_eq_true] at h ⊢
    refine ⟨tmFit_more hp h4 t _ _ h.1 ?_, tmFitL_more hp h4 k ts (i + 1) v v' h.2 hv⟩
    split <;> omega
end
mutual
/-- bound, or among the first ones: just if so many are needed at most -/
theorem fit_loose {p B : Int} : ∀ (t : Tm) (d v : Int), 0 ≤ v → v ≤ B → (tmFit p t (v + d) = true ↔ tmFit p t (B + d) = true ∧ tmLoose t d ≤ v)
  | .mk k n nm ls xs, d, v, h0, hB => by
    rw [tmFit, tmFit, tmLoose]
    simp only [Bool.and_eq_true]
    by_cases k1 : k = 1
    · subst k1
      rw [if_pos rfl, tmNode_1, tmNode_1]
      constructor
      · rintro ⟨⟨⟨a1, a2, a3, a4, a5⟩, b⟩, c⟩
        have hx : xs = [] := List.eq_nil_of_length_eq_zero a5
        subst hx
        exact ⟨⟨⟨⟨a1, by omega, a3, a4, a5⟩, b⟩, rfl⟩, by omega⟩
      · rintro ⟨⟨⟨⟨a1, a2, a3, a4, a5⟩, b⟩, c⟩, e⟩
        have hx : xs = [] := List.eq_nil_of_length_eq_zero a5
        subst hx
        exact ⟨⟨⟨a1, by omega, a3, a4, a5⟩, b⟩, rfl⟩
    · rw [if_neg k1, tmNode_k (v' := B + d) k1, fitL_loose k xs 0 d v h0 hB]
      constructor
      · rintro ⟨a, b, c⟩; exact ⟨⟨a, b⟩, c⟩
      · rintro ⟨⟨a, b⟩, c⟩; exact ⟨a, b, c⟩
theorem fitL_loose {p B : Int} (k : Int) : ∀ (ts : List Tm) (i : Nat) (d v : Int), 0 ≤ v → v ≤ B → (tmFitL p k ts i (v + d) = true ↔ tmFitL p k ts i (B + d) = true ∧ tmLooseL k ts i d ≤ v)
  | [], _, _, _, h0, _ => by simp [tmFitL, tmLooseL, h0]
  | t :: ts, i, d, v, h0, hB => by
    rw [tmFitL, tmFitL, tmLooseL]
    simp only [Bool.and_eq_true]
    rw [fitL_loose k ts (i + 1) d v h0 hB]
    by_cases hb : tmBind k i = true
    · rw [if_pos hb, if_pos hb, if_pos hb, Int.add_assoc, Int.add_assoc, fit_loose t (d + 1) v h0 hB]
      constructor
      · rintro ⟨⟨a, b⟩, c, e⟩; exact ⟨⟨a, c⟩, by omega⟩
      · rintro ⟨⟨a, c⟩, e⟩; exact ⟨⟨a, by omega⟩, c, by omega⟩
    · rw [if_neg hb, if_neg hb, if_neg hb, fit_loose t d v h0 hB]
      constructor
      · rintro ⟨⟨a, b⟩, c, e⟩; exact ⟨⟨a, c⟩, by omega⟩
      · rintro ⟨⟨a, c⟩, e⟩; exact ⟨⟨a, by omega⟩, c, by omega⟩
end
theorem right_parts {n k : Int} {t : Tm} : tmRight n k t = true ↔ 0 ≤ n ∧ n ≤ 4 ∧ 0 ≤ k ∧ t.nodes ≤ 2000 ∧ tmFit n t (min k 1125899906842624) = true := by
  unfold tmRight
  simp only [Bool.and_eq_true, decide_eq_true_eq, and_assoc]
theorem right_of {n k : Int} {t : Tm} (h0 : 0 ≤ n) (h4 : n ≤ 4) (hk : 0 ≤ k) (hn : t.nodes ≤ 2000) (h : tmFit n t (min k 1125899906842624) = true) : tmRight n k t = true := right_parts.2 ⟨h0, h4, hk, hn, h⟩
theorem right_more {n n' k k' : Int} {t : Tm} (h : tmRight n k t = true) (hn : n ≤ n') (h4 : n' ≤ 4) (hk : k ≤ k') : tmRight n' k' t = true := by
  obtain ⟨a, b, c, d, e⟩ := right_parts.1 h
  exact right_of (by omega) h4 (by omega) d (tmFit_more hn h4 t _ _ e (by omega))
/-- a right term needs no more -/
theorem needs_of {n k : Int} {t : Tm} (h : tmRight n k t = true) : tmNeeds t = tmLoose t 0 ∧ tmLoose t 0 ≤ k ∧ tmLoose t 0 ≤ 1125899906842624 ∧ 0 ≤ tmLoose t 0 := by
  have h4 : tmRight 4 1125899906842624 t = true := by
    obtain ⟨a, b, c, d, e⟩ := right_parts.1 h
    exact right_of (by omega) (by omega) (by omega) d (tmFit_more b (by omega) t _ _ e (by omega))
  obtain ⟨a, b, c, d, e⟩ := right_parts.1 h
  have hl := (fit_loose (p := n) (B := min k 1125899906842624) t 0 (min k 1125899906842624) (by omega) (Int.le_refl _)).1 (by simpa using e)
  have := tmLoose_nonneg t 0
  exact ⟨by unfold tmNeeds; rw [if_pos h4], by omega, by omega, this⟩
/-- it is right for just so many as it needs -/
theorem right_needs {n k : Int} {t : Tm} (h : tmRight n k t = true) : tmRight n (tmNeeds t) t = true ∧ (tmNeeds t = 0 ∨ tmRight n (tmNeeds t - 1) t = false) := by
  obtain ⟨e1, e2, e3, e4⟩ := needs_of h
  obtain ⟨a, b, c, d, e⟩ := right_parts.1 h
  rw [e1]
  have hl := fit_loose (p := n) (B := min k 1125899906842624) t 0
  refine ⟨right_of a b e4 d ?_, ?_⟩
  · rw [show min (tmLoose t 0) 1125899906842624 = tmLoose t 0 by omega]
    have := (hl (tmLoose t 0) e4 (by omega)).2 ⟨by simpa using e, Int.le_refl _⟩
    simpa using this
  · by_cases h0 : tmLoose t 0 = 0
    · exact Or.inl h0
    · refine Or.inr ?_
      cases hr : tmRight n (tmLoose t 0 - 1) t with
      | false => rfl
      | true =>
        obtain ⟨_, _, _, _, f⟩ := right_parts.1 hr
        rw [show min (tmLoose t 0 - 1) 1125899906842624 = tmLoose t 0 - 1 by omega] at f
        have := ((hl (tmLoose t 0 - 1) (by omega) (by omega)).1 (by simpa using f)).2
        omega

/-! made terms -/
theorem fit_pair {p v : Int} {k : Int} (hk : k = 4 ∨ k = 5 ∨ k = 6) (a b : Tm) : tmFit p (.mk k 0 [] [] [a, b]) v = (tmFit p a v && tmFit p b (if k = 4 then v else v + 1)) := by
  have e1 : tmNode v k 0 [] 0 2 = true := by
    unfold tmNode
    rw [if_neg (by omega), if_neg (by omega), if_neg (by omega), if_pos hk]
    rfl
  rw [tmFit]
  simp only [List.length_cons, List.length_nil]
  rw [e1, tmFitL, tmFitL, tmFitL]
  have e2 : tmBind k 0 = false := by unfold tmBind; simp
  have e3 : tmBind k (0 + 1) = decide (k ≠ 4) := by
    unfold tmBind
    rcases hk with rfl | rfl | rfl <;> rfl
  rw [e2, e3]
  by_cases h4 : k = 4
  · simp [h4, lvRightL]
  · simp [h4, lvRightL]
theorem tmAps_cons (f t : Tm) (ts : List Tm) : tmAps f (t :: ts) = tmAps (.mk 4 0 [] [] [f, t]) ts := rfl
theorem app_nodes : ∀ (ts : List Tm) (f : Tm), (tmAps f ts).nodes = f.nodes + Tm.nodesL ts + ts.length
  | [], f => by simp [tmAps, Tm.nodesL]
  | t :: ts, f => by
    rw [tmAps_cons, app_nodes ts, Tm.nodesL]
    simp only [Tm.nodes, Tm.nodesL, Lv.nodesL, List.length_cons]
    omega
theorem app_fit {p v : Int} : ∀ (ts : List Tm) (f : Tm), tmFit p f v = true → (∀ t ∈ ts, tmFit p t v = true) → tmFit p (tmAps f ts) v = true
  | [], f, h, _ => h
  | t :: ts, f, h, hts => by
    rw [tmAps_cons]
    refine app_fit ts _ ?_ fun u hu => hts u (List.mem_cons_of_mem _ hu)
    rw [fit_pair (Or.inl rfl), h, if_pos rfl, hts t (by simp)]
    rfl
theorem over_nodes (k : Int) (body : Tm) : ∀ ts : List Tm, (tmOver k body ts).nodes = body.nodes + Tm.nodesL ts + ts.length
  | [] => by simp [tmOver, Tm.nodesL]
  | t :: ts => by
    have := over_nodes k body ts
    show (Tm.mk k 0 [] [] [t, tmOver k body ts]).nodes = _
    simp only [Tm.nodes, Tm.nodesL, Lv.nodesL, List.length_cons, this]
    omega
theorem over_fit {p : Int} {k : Int} (hk : k = 5 ∨ k = 6) (h4 : p ≤ 4) (body : Tm) : ∀ (ts : List Tm) (v : Int), tmFit p body v = true → (∀ t ∈ ts, tmFit p t v = true) → tmFit p (tmOver k body ts) v = true
  | [], v, h, _ => h
  | t :: ts, v, h, hts => by
    show tmFit p (.mk k 0 [] [] [t, tmOver k body ts]) v = true
    rw [fit_pair (Or.inr hk), hts t (by simp), if_neg (by omega)]
    exact over_fit hk h4 body ts (v + 1) (tmFit_more (Int.le_refl _) h4 _ _ _ h (by omega)) fun u hu => tmFit_more (Int.le_refl _) h4 _ _ _ (hts u (List.mem_cons_of_mem _ hu)) (by omega)
theorem app_spine : ∀ (ts : List Tm) (f : Tm), tmHead (tmAps f ts) = tmHead f ∧ tmArgs (tmAps f ts) = tmArgs f ++ ts
  | [], f => ⟨rfl, by simp [tmAps]⟩
  | t :: ts, f => by
    rw [tmAps_cons]
    obtain ⟨h1, h2⟩ := app_spine ts (.mk 4 0 [] [] [f, t])
    obtain ⟨s1, s2⟩ := spine_step (t := .mk 4 0 [] [] [f, t]) rfl rfl
    exact ⟨by rw [h1, s1]; rfl, by rw [h2, s2]; simp [Tm.args]⟩

/-! lifted terms -/
mutual
theorem loose_lift {c : Int} (hc : 0 ≤ c) : ∀ (t : Tm) (d : Int), tmLoose (tmLift c t d) (d + c) = tmLoose t d
  | .mk k n nm ls xs, d => by
    rw [tmLift, tmLoose, tmLoose]
    by_cases k1 : k = 1
    · rw [if_pos k1, if_pos k1]
      by_cases hd : d ≤ n
      · rw [if_pos ⟨k1, hd⟩]; omega
      · rw [if_neg (fun h => hd h.2)]; omega
    · rw [if_neg k1, if_neg k1]
      exact looseL_lift hc k xs 0 d
theorem looseL_lift {c : Int} (hc : 0 ≤ c) (k : Int) : ∀ (ts : List Tm) (i : Nat) (d : Int), tmLooseL k (tmLiftL c k ts i d) i (d + c) = tmLooseL k ts i d
  | [], _, _ => rfl
  | t :: ts, i, d => by
    rw [tmLiftL, tmLooseL, tmLooseL, looseL_lift hc k ts (i + 1) d]
    by_cases hb : tmBind k i = true
    · rw [if_pos hb, if_pos hb, show d + c + 1 = d + 1 + c by omega, loose_lift hc t (d + 1)]
    · rw [if_neg hb, if_neg hb, loose_lift hc t d]
end
mutual
theorem fit_lift {p c : Int} (hc : 0 ≤ c) : ∀ (t : Tm) (d v : Int), tmFit p t v = true → tmFit p (tmLift c t d) (v + c) = true
  | .mk k n nm ls xs, d, v, h => by
    rw [tmLift]
    rw [tmFit, Bool.and_eq_true, Bool.and_eq_true] at h ⊢
    rw [tmLiftL_len]
    refine ⟨⟨?_, h.1.2⟩, fitL_lift hc k xs 0 d v h.2⟩
    by_cases k1 : k = 1
    · subst k1
      have h1 := h.1.1
      rw [tmNode_1] at h1 ⊢
      refine ⟨?_, ?_, h1.2.2⟩ <;> split <;> omega
    · rw [if_neg (fun h => k1 h.1), tmNode_k (v' := v) k1]
      exact h.1.1
theorem fitL_lift {p c : Int} (hc : 0 ≤ c) (k : Int) : ∀ (ts : List Tm) (i : Nat) (d v : Int), tmFitL p k ts i v = true → tmFitL p k (tmLiftL c k ts i d) i (v + c) = true
  | [], _, _, _, _ => rfl
  | t :: ts, i, d, v, h => by
    rw [tmLiftL]
    rw [tmFitL, Bool.and_eq_true] at h ⊢
    refine ⟨?_, fitL_lift hc k ts (i + 1) d v h.2⟩
    by_cases hb : tmBind k i = true
    · rw [if_pos hb] at h ⊢
      rw [if_pos hb, show v + c + 1 = v + 1 + c by omega]
      exact fit_lift hc t (d + 1) (v + 1) h.1
    · rw [if_neg hb] at h ⊢
      rw [if_neg hb]
      exact fit_lift hc t d v h.1
end
/-- the greatest need of some terms -/
def needsL : List Tm → Int
  | [] => 0
  | t :: ts => max (tmLoose t 0) (needsL ts)
theorem needsL_nonneg : ∀ ts, 0 ≤ needsL ts
  | [] => Int.le_refl _
  | t :: ts => by rw [needsL]; have := needsL_nonneg ts; omega
theorem needsL_mem : ∀ {ts : List Tm} {t : Tm}, t ∈ ts → tmLoose t 0 ≤ needsL ts
  | [], _, h => by cases h
  | u :: ts, t, h => by
    rw [needsL]
    rcases List.mem_cons.1 h with rfl | h
    · omega
    · have := needsL_mem h; omega
theorem loose_pair {k : Int} (hk : k = 5 ∨ k = 6) (a b : Tm) (d : Int) : tmLoose (.mk k 0 [] [] [a, b]) d = max (tmLoose a d) (tmLoose b (d + 1)) := by
  have hb := tmLoose_nonneg b (d + 1)
  rw [tmLoose, if_neg (by omega), tmLooseL, tmLooseL, tmLooseL]
  have e2 : tmBind k 0 = false := by unfold tmBind; simp
  have e3 : tmBind k (0 + 1) = true := by
    unfold tmBind
    rcases hk with rfl | rfl <;> rfl
  rw [e2, e3, if_neg (by decide), if_pos rfl]
  omega
theorem arrow_loose (to : Tm) : ∀ (ts : List Tm) (i : Nat), tmLoose (tmOver 6 (tmLift ((i + ts.length : Nat) : Int) to 0) (liftsFrom i ts)) i = max (tmLoose to 0) (needsL ts)
  | [], i => by
    have h := loose_lift (c := (i : Nat)) (by omega) to 0
    have h0 := tmLoose_nonneg to 0
    rw [liftsFrom, needsL]
    show tmLoose (tmLift ((i + 0 : Nat) : Int) to 0) i = _
    rw [Nat.add_zero]
    rw [Int.zero_add] at h
    rw [h]
    omega
  | t :: ts, i => by
    have h := loose_lift (c := (i : Nat)) (by omega) t 0
    rw [Int.zero_add] at h
    have ih := arrow_loose to ts (i + 1)
    rw [liftsFrom, needsL, List.length_cons]
    show tmLoose (.mk 6 0 [] [] [tmLift i t 0, tmOver 6 _ (liftsFrom (i + 1) ts)]) i = _
    rw [loose_pair (Or.inr rfl), h, show i + (ts.length + 1) = i + 1 + ts.length by omega]
    rw [show ((i : Int) + 1) = ((i + 1 : Nat) : Int) by omega, ih]
    omega
theorem arrow_fit {v : Int} (to : Tm) (h0 : tmFit 4 to v = true) : ∀ (ts : List Tm) (i : Nat), (∀ t ∈ ts, tmFit 4 t v = true) → tmFit 4 (tmOver 6 (tmLift ((i + ts.length : Nat) : Int) to 0) (liftsFrom i ts)) (v + i) = true
  | [], i, _ => by
    show tmFit 4 (tmLift ((i + 0 : Nat) : Int) to 0) (v + i) = true
    rw [Nat.add_zero]
    exact fit_lift (by omega) to 0 v h0
  | t :: ts, i, hts => by
    have ih := arrow_fit to h0 ts (i + 1) fun u hu => hts u (List.mem_cons_of_mem _ hu)
    rw [liftsFrom, List.length_cons]
    show tmFit 4 (.mk 6 0 [] [] [tmLift i t 0, tmOver 6 _ (liftsFrom (i + 1) ts)]) (v + i) = true
    rw [fit_pair (Or.inr (Or.inr rfl)), fit_lift (by omega) t 0 v (hts t (by simp)), if_neg (by decide), show i + (ts.length + 1) = i + 1 + ts.length by omega, show v + (i : Int) + 1 = v + ((i + 1 : Nat) : Int) by omega, ih]
    rfl
/-- what is loose in the functions from types to a type is what was -/
theorem arrow_needs {to : Tm} {ts : List Tm} (h : arrowOk to ts = true) (hmax : max (tmLoose to 0) (needsL ts) ≤ 1099511627776) : tmNeeds (tmArrow to ts).1 = max (tmLoose to 0) (needsL ts) := by
  rw [tmArrow, if_pos h]
  unfold arrowOk at h
  simp only [Bool.and_eq_true, decide_eq_true_eq] at h
  obtain ⟨hn, h1, h2⟩ := h
  have fit : ∀ t : Tm, tmRight 4 1125899906842624 t = true → tmLoose t 0 ≤ 1099511627776 → tmFit 4 t 1099511627776 = true := fun t ht hl => by
    obtain ⟨_, _, _, _, e⟩ := right_parts.1 ht
    have := (fit_loose (p := 4) (B := 1125899906842624) t 0 1099511627776 (by omega) (by omega)).2 ⟨by simpa using e, hl⟩
    simpa using this
  have hx : tmFit 4 (tmOver 6 (tmLift ((0 + ts.length : Nat) : Int) to 0) (liftsFrom 0 ts)) (1099511627776 + (0 : Nat)) = true := arrow_fit to (fit to h1 (by omega)) ts 0 fun t ht => fit t (List.all_eq_true.1 h2 t ht) (by have := needsL_mem ht; omega)
  have hl := arrow_loose to ts 0
  rw [Nat.zero_add] at hx hl
  have hr : tmRight 4 1125899906842624 (tmOver 6 (tmLift (ts.length : Nat) to 0) (liftsFrom 0 ts)) = true := by
    refine right_of (by omega) (by omega) (by omega) ?_ (tmFit_more (Int.le_refl _) (by omega) _ _ _ hx (by simp))
    rw [over_nodes, tmLift_nodes, lifts_nodes, lifts_len]
    omega
  rw [(needs_of hr).1]
  exact hl
end Go.Proofs.YtnjnfegafmhgnaaGreatDoor

/-
  Law 04's alive. No condition.
-/
namespace Go.Proofs.YtnjnfegafmhgnaaGreatDoor
open Go.RowKit

def lvZ : Lv := .mk 1 0 []
def lvP0 : Lv := .mk 2 0 []
def tV (n : Int) : Tm := .mk 1 n [] [] []
def tS (l : Lv) : Tm := .mk 2 0 [] [l] []
def tK (nm : List UInt8) (ls : List Lv) : Tm := .mk 3 0 nm ls []
def idT : Tm := tmOver 5 (tV 0) [tS lvP0, tV 0]
def idZ : Tm := tmOver 5 (tV 0) [tS lvZ, tV 0]
def arT : Tm := .mk 6 0 [] [] [tV 0, .mk 6 0 [] [] [tS lvZ, tV 2]]
theorem le_two (a b : Tm) : Le (.sl .full 5 [tmX a, tmX b]) (.sl .full 5 ([a, b].map tmA)) := le_of_eq (by
  show AV.sl .full 5 [tmX a, tmX b] = .sl .full 5 [tmA a, tmA b]
  rw [tmA_eq, tmA_eq])
theorem le_one (a : Tm) : Le (.sl .full 5 [tmX a]) (.sl .full 5 ([a].map tmA)) := le_of_eq (by
  show AV.sl .full 5 [tmX a] = .sl .full 5 [tmA a]
  rw [tmA_eq])
theorem le_lv (a : Lv) : Le (.sl .full 3 [lvX a]) (.sl .full 3 ([a].map lvA)) := le_of_eq (by
  show AV.sl .full 3 [lvX a] = .sl .full 3 [lvA a]
  rw [lvA_eq])
set_option maxRecDepth 100000 in
theorem zero4_con : Ans Tryz.prog 108 [] (lvX lvZ) := by
  intro H Q hq
  refine con_of_awp (esc := fun _ => false) tab_ok mixed Tryz.func108 rfl (ent Tryz.func108 (by kernel_rfl) rfl) (by kernel_rfl) ?_
  intro hw hn
  have hfin : Le (.agg [.i 1, .i 0, .sl .full 0 []]) (lvX lvZ) := Le.agg ⟨Le.refl _, Le.refl _, Le.nil _ _, trivial⟩
  exact ⟨_, H, hfin, List.Sublist.refl _, hq⟩
set_option maxRecDepth 100000 in
theorem u4_con : Ans Tryz.prog 106 [] (lvX lvP0) := by
  intro H Q hq
  refine con_of_awp (esc := fun _ => false) tab_ok mixed Tryz.func106 rfl (ent Tryz.func106 (by kernel_rfl) rfl) (by kernel_rfl) ?_
  intro hw hn
  have hfin : Le (.agg [.i 2, .i 0, .sl .full 0 []]) (lvX lvP0) := Le.agg ⟨Le.refl _, Le.refl _, Le.nil _ _, trivial⟩
  exact ⟨_, H, hfin, List.Sublist.refl _, hq⟩
theorem levels4 : tmLv [lvZ] idT = (idZ, true) := by rfl
theorem spine4 : tmHead (tmAps idT [tK [97] [], tK [98] [lvZ]]) = idT ∧ tmArgs (tmAps idT [tK [97] [], tK [98] [lvZ]]) = [tK [97] [], tK [98] [lvZ]] := ⟨rfl, rfl⟩
theorem arrow4 : tmArrow (tV 0) [tV 0, tS lvZ] = (arT, true) := by rfl
theorem right4a : tmRight 1 0 idT = true := by decide +kernel
theorem right4b : tmRight 0 0 idT = false := by decide +kernel
theorem right4c : tmRight 0 0 idZ = true := by decide +kernel
theorem right4d : tmRight 0 1 (.mk 7 0 [] [] [tS lvZ, tV 0, tV 1]) = true := by decide +kernel
theorem needs4 : tmNeeds (tV 2) = 3 := by decide +kernel
theorem same4 : tmEq idT idT = true := (tmEq_iff _ _).2 rfl
theorem sort2a : stsSort [[98], [97]] = [[97], [98]] := by
  simp [stsSort, List.mergeSort, List.MergeSort.Internal.splitInTwo, List.merge]
  decide
theorem sort2 : nmSort [[98], [97]] = [[97], [98]] := by
  rw [nmSort, sort2a]
  decide +kernel
theorem consts4 : tmConsts (tmAps (tK [98] []) [tK [97] []]) = [[97], [98]] := by
  have h : tmRight 4 1125899906842624 (tmAps (tK [98] []) [tK [97] []]) = true := by decide +kernel
  rw [tmConsts, if_pos h]
  exact sort2
theorem cap1 {t : Tm} (h : t.nodes ≤ 100) : t.nodes ≤ 1000000 := by omega
set_option maxRecDepth 100000 in
set_option maxHeartbeats 2000000 in
theorem alive4_con : Ans Tryz.prog 47 [] (.b true) := by
  intro H Q hq
  refine con_of_sem tab_ok Tryz.func47 rfl (ent Tryz.func47 (by kernel_rfl) rfl) (by kernel_rfl) ?_
  intro hw hn
  clear hw hn
  refine sem_seq (esc := fun _ => false) tab_ok mixed ?_
  refine sem_seq (esc := fun _ => false) tab_ok mixed ?_
  refine ⟨_, LeL.refl _, Var_con 0 _ _ ?_⟩
  intro hz1 hz2; clear hz1 hz2
  refine ⟨_, LeL.refl _, u4_con _ _ ?_⟩
  intro hz1 hz2; clear hz1 hz2
  refine ⟨_, LeL.refl _, SortT_con lvP0 (by decide) _ _ ?_⟩
  intro hz1 hz2; clear hz1 hz2
  refine ⟨_, LeL.refl _, Var_con 0 _ _ ?_⟩
  intro hz1 hz2; clear hz1 hz2
  refine ⟨[tmX (tV 0), .sl .full 5 ([tS lvP0, tV 0].map tmA)], ⟨Le.refl _, le_two _ _, trivial⟩, Lam_con .full (tV 0) [tS lvP0, tV 0] (by decide) (by decide) _ _ ?_⟩
  intro hz1 hz2; clear hz1 hz2
  refine sem_le ⟨[(0, .g (.b false)), (1, .lp 1 0)], [(1, (tmX idT).cells)], H⟩ ?_ ?_
  · (constructor <;> repeat' (first | exact trivial | exact ⟨rfl, rfl⟩ | exact ⟨rfl, LeL.refl _⟩ | exact Le.refl _ | exact List.Sublist.refl _ | (show Le (AV.i _) (AV.i _); rw [List.length_map]; exact Le.refl _) | refine And.intro ?_ ?_))
  refine sem_seq (esc := fun _ => false) tab_ok mixed ?_
  refine ⟨[0, 7, 1, 2, 3, 4, 5, 6, 8, 9], [], ord_fast (by kernel_rfl), by simp, ?_⟩
  refine ⟨_, LeL.refl _, zero4_con _ _ ?_⟩
  intro hz1 hz2; clear hz1 hz2
  refine ⟨[tmX idT, .sl .full 3 ([lvZ].map lvA)], ⟨Le.refl _, le_lv _, trivial⟩, (Levels_con .full [lvZ] idT).to (by rw [levels4]) _ _ ?_⟩
  intro hz1 hz2; clear hz1 hz2
  refine sem_le ⟨[(0, .g (.b false)), (1, .lp 1 0), (2, .lp 2 0), (3, .g (.b true))], [(2, (tmX idZ).cells), (1, (tmX idT).cells)], H⟩ ?_ ?_
  · (constructor <;> repeat' (first | exact trivial | exact ⟨rfl, rfl⟩ | exact ⟨rfl, LeL.refl _⟩ | exact Le.refl _ | exact List.Sublist.refl _ | (show Le (AV.i _) (AV.i _); rw [List.length_map]; exact Le.refl _) | refine And.intro ?_ ?_))
  refine sem_seq (esc := fun _ => false) tab_ok mixed ?_
  refine ⟨[0, 11, 1, 2, 3, 4, 5, 6, 7, 8, 9, 10, 12, 13], [], ord_fast (by kernel_rfl), by simp, ?_⟩
  refine ⟨[.str [97], .sl .full 3 (([] : List Lv).map lvA)], ⟨Le.refl _, Le.nil' _, trivial⟩, Const_con .full [97] [] (by simp) (by simp) _ _ ?_⟩
  intro hz1 hz2; clear hz1 hz2
  refine ⟨_, LeL.refl _, zero4_con _ _ ?_⟩
  intro hz1 hz2; clear hz1 hz2
  refine ⟨[.str [98], .sl .full 3 ([lvZ].map lvA)], ⟨Le.refl _, le_lv _, trivial⟩, Const_con .full [98] [lvZ] (by decide) (by simp) _ _ ?_⟩
  intro hz1 hz2; clear hz1 hz2
  refine ⟨[tmX idT, .sl .full 5 ([tK [97] [], tK [98] [lvZ]].map tmA)], ⟨Le.refl _, le_two _ _, trivial⟩, App_con .full idT [tK [97] [], tK [98] [lvZ]] (by decide) (by decide) (by simp) _ _ ?_⟩
  intro hz1 hz2; clear hz1 hz2
  refine ⟨_, LeL.refl _, (Spine_con (tmAps idT [tK [97] [], tK [98] [lvZ]]) (by decide)).to (by rw [spine4.1, spine4.2]) _ _ ?_⟩
  intro hz1 hz2; clear hz1 hz2
  refine sem_le ⟨[(0, .g (.b false)), (1, .lp 1 0), (2, .lp 2 0), (3, .g (.b true)), (4, .lp 4 0), (5, .g (.sl .no 5 ([tK [97] [], tK [98] [lvZ]].map tmA)))], [(4, (tmX idT).cells), (2, (tmX idZ).cells), (1, (tmX idT).cells)], H⟩ ?_ ?_
  · (constructor <;> repeat' (first | exact trivial | exact ⟨rfl, rfl⟩ | exact ⟨rfl, LeL.refl _⟩ | exact Le.refl _ | exact List.Sublist.refl _ | (show Le (AV.i _) (AV.i _); rw [List.length_map]; exact Le.refl _) | refine And.intro ?_ ?_))
  refine sem_seq (esc := fun _ => false) tab_ok mixed ?_
  refine ⟨_, LeL.refl _, Var_con 0 _ _ ?_⟩
  intro hz1 hz2; clear hz1 hz2
  refine ⟨_, LeL.refl _, Var_con 0 _ _ ?_⟩
  intro hz1 hz2; clear hz1 hz2
  refine ⟨_, LeL.refl _, zero4_con _ _ ?_⟩
  intro hz1 hz2; clear hz1 hz2
  refine ⟨_, LeL.refl _, SortT_con lvZ (by decide) _ _ ?_⟩
  intro hz1 hz2; clear hz1 hz2
  refine ⟨[tmX (tV 0), .sl .full 5 ([tV 0, tS lvZ].map tmA)], ⟨Le.refl _, le_two _ _, trivial⟩, (Arrow_con .full (tV 0) [tV 0, tS lvZ] (by simp)).to (by rw [arrow4]) _ _ ?_⟩
  intro hz1 hz2; clear hz1 hz2
  refine sem_le ⟨[(0, .g (.b false)), (1, .lp 1 0), (2, .lp 2 0), (3, .g (.b true)), (4, .lp 4 0), (5, .g (.sl .no 5 ([tK [97] [], tK [98] [lvZ]].map tmA))), (6, .lp 6 0), (7, .g (.b true))], [(6, (tmX arT).cells), (4, (tmX idT).cells), (2, (tmX idZ).cells), (1, (tmX idT).cells)], H⟩ ?_ ?_
  · (constructor <;> repeat' (first | exact trivial | exact ⟨rfl, rfl⟩ | exact ⟨rfl, LeL.refl _⟩ | exact Le.refl _ | exact List.Sublist.refl _ | (show Le (AV.i _) (AV.i _); rw [List.length_map]; exact Le.refl _) | refine And.intro ?_ ?_))
  refine sem_seq (esc := fun _ => false) tab_ok mixed ?_
  refine ⟨[tmX idT, .i 1, .i 0], LeL.refl _, (tmRight_con 1 0 idT).as right4a _ _ ?_⟩
  intro hz1 hz2; clear hz1 hz2
  refine ⟨[tmX idT, .i 0, .i 0], LeL.refl _, (tmRight_con 0 0 idT).as right4b _ _ ?_⟩
  intro hz1 hz2; clear hz1 hz2
  refine ⟨[tmX idZ, .i 0, .i 0], LeL.refl _, (tmRight_con 0 0 idZ).as right4c _ _ ?_⟩
  intro hz1 hz2; clear hz1 hz2
  refine ⟨[tmX idT], LeL.refl _, tmNodes_con idT _ _ ?_⟩
  intro hz1 hz2; clear hz1 hz2
  refine ⟨_, LeL.refl _, Var_con 2 _ _ ?_⟩
  intro hz1 hz2; clear hz1 hz2
  refine ⟨[tmX (tV 2)], LeL.refl _, (Loose_con (tV 2)).to (by rw [needs4]) _ _ ?_⟩
  intro hz1 hz2; clear hz1 hz2
  refine ⟨[tmX idT, tmX idT], LeL.refl _, (tmSame_con _ idT idT (Nat.le_refl _)).as same4 _ _ ?_⟩
  intro hz1 hz2; clear hz1 hz2
  refine ⟨0, rfl, _, tmAt' (ls := [tK [97] [], tK [98] [lvZ]]) (by decide), ?_⟩
  refine ⟨1, rfl, _, tmAt' (ls := [tV 0, .mk 6 0 [] [] [tS lvZ, tV 2]]) (by decide), ?_⟩
  refine ⟨1, rfl, _, tmAt' (ls := [tS lvZ, tV 2]) (by decide), ?_⟩
  refine ⟨[.str [98], .sl .full 3 (([] : List Lv).map lvA)], ⟨Le.refl _, Le.nil' _, trivial⟩, Const_con .full [98] [] (by simp) (by simp) _ _ ?_⟩
  intro hz1 hz2; clear hz1 hz2
  refine ⟨[.str [97], .sl .full 3 (([] : List Lv).map lvA)], ⟨Le.refl _, Le.nil' _, trivial⟩, Const_con .full [97] [] (by simp) (by simp) _ _ ?_⟩
  intro hz1 hz2; clear hz1 hz2
  refine ⟨[tmX (tK [98] []), .sl .full 5 ([tK [97] []].map tmA)], ⟨Le.refl _, le_one _, trivial⟩, App_con .full (tK [98] []) [tK [97] []] (by decide) (by decide) (by simp) _ _ ?_⟩
  intro hz1 hz2; clear hz1 hz2
  refine ⟨_, LeL.refl _, (Consts_con _).to (by rw [consts4]) _ _ ?_⟩
  intro hz1 hz2; clear hz1 hz2
  refine ⟨[stsX [[97], [98]], stsX [[97], [98]]], ⟨Le.refl _, Le.own _ _ _, trivial⟩, (SameTexts_con _ _).as (decide_eq_true rfl) _ _ ?_⟩
  intro hz1 hz2; clear hz1 hz2
  refine ⟨_, LeL.refl _, zero4_con _ _ ?_⟩
  intro hz1 hz2; clear hz1 hz2
  refine ⟨_, LeL.refl _, SortT_con lvZ (by decide) _ _ ?_⟩
  intro hz1 hz2; clear hz1 hz2
  refine ⟨_, LeL.refl _, Var_con 0 _ _ ?_⟩
  intro hz1 hz2; clear hz1 hz2
  refine ⟨_, LeL.refl _, Var_con 1 _ _ ?_⟩
  intro hz1 hz2; clear hz1 hz2
  refine ⟨_, LeL.refl _, Let_con (tS lvZ) (tV 0) (tV 1) (by decide) (by decide) (by decide) _ _ ?_⟩
  intro hz1 hz2; clear hz1 hz2
  refine ⟨_, LeL.refl _, (tmRight_con 0 1 _).as right4d _ _ ?_⟩
  intro hz1 hz2; clear hz1 hz2
  refine ⟨_, LeL.refl _, Var_con 0 _ _ ?_⟩
  intro hz1 hz2; clear hz1 hz2
  refine ⟨_, LeL.refl _, zero4_con _ _ ?_⟩
  intro hz1 hz2; clear hz1 hz2
  refine ⟨_, LeL.refl _, SortT_con lvZ (by decide) _ _ ?_⟩
  intro hz1 hz2; clear hz1 hz2
  refine ⟨[tmX (tV 0), .sl .full 5 ([tS lvZ].map tmA)], ⟨Le.refl _, le_one _, trivial⟩, Pi_con .full (tV 0) [tS lvZ] (by decide) (by decide) _ _ ?_⟩
  intro hz1 hz2; clear hz1 hz2
  refine sem_of (esc := fun _ => false) tab_ok mixed ?_
  exact ⟨_, H, Le.refl _, List.Sublist.refl _, hq⟩
end Go.Proofs.YtnjnfegafmhgnaaGreatDoor
