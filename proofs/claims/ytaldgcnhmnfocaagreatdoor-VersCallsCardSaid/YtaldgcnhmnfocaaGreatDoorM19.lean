/-
  Texts put together: Lays6, Q1, Q2, Q3, Q4, Q5, Q6. No condition.
-/
import Derived.Test.YtaldgcnhmnfocaaGreatDoorM16
import Derived.Shelf.Sort.Plain
import Derived.Shelf.Slices.CompactS
import Derived.Shelf.Slices.In.SortNone
import Derived.Ground.NamesProg
import Derived.Test.YtaldgcnhmnfocaaGreatDoorM12
import Derived.Test.YtaldgcnhmnfocaaGreatDoorM17
/-
  DERIVED: THE SHELF's CONTRACTS AT THIS DUMP, IN PLAIN WORDS (tools/lay-plain.mjs out of 'YtaldgcnhmnfocaaGreatDoorLays6.lean', which tools/lay-shelf.mjs wrote): THE SAME DECLARATIONS UNDER THE SAME NAMES: 'import', 'namespace', 'open', 'def', 'theorem' AND NOTHING ELSE: no command of the shelf's: FOR A HAND-IN. Each laying: the table of numbers ('.._ren') and one theorem, a field a fact of the dump's own or the kernel's comparison; each contract: ONE APPLICATION.
-/
namespace Go.Proofs.YtaldgcnhmnfocaaGreatDoor
open Go.Shelf
def Tryz.l189_ren : Go.Shelf.Ren := ⟨fun | 189 => 91 | 125 => 117 | 257 => 116 | 128 => 149 | 129 => 150 | 294 => 140 | 295 => 141 | 296 => 142 | 297 => 143 | 298 => 144 | 299 => 145 | 216 => 146 | 300 => 147 | 301 => 148 | 328 => 175 | 329 => 176 | 330 => 177 | 331 => 178 | 332 => 179 | 215 => 180 | 343 => 214 | n => n, fun | 28 => 41 | 3 => 3 | 46 => 160 | 0 => 0 | 51 => 184 | 53 => 186 | 4 => 4 | 183 => 178 | 182 => 177 | 131 => 153 | 5 => 5 | 9 => 9 | 218 => 204 | 222 => 191 | 228 => 231 | 229 => 232 | n => n, fun | n => n⟩
theorem Tryz.l189 : Go.Proofs.Lays.n189 Tryz.prog Tryz.l189_ren := {
  mixed := by kernel_rfl
  f125 := Tryz.func117.trans (congrArg some (by kernel_rfl))
  f128 := Tryz.func149.trans (congrArg some (by kernel_rfl))
  f129 := Tryz.func150.trans (congrArg some (by kernel_rfl))
  f189 := Tryz.func91.trans (congrArg some (by kernel_rfl))
  f215 := Tryz.func180.trans (congrArg some (by kernel_rfl))
  f216 := Tryz.func146.trans (congrArg some (by kernel_rfl))
  f257 := Tryz.func116.trans (congrArg some (by kernel_rfl))
  f294 := Tryz.func140.trans (congrArg some (by kernel_rfl))
  f295 := Tryz.func141.trans (congrArg some (by kernel_rfl))
  f296 := Tryz.func142.trans (congrArg some (by kernel_rfl))
  f297 := Tryz.func143.trans (congrArg some (by kernel_rfl))
  f298 := Tryz.func144.trans (congrArg some (by kernel_rfl))
  f299 := Tryz.func145.trans (congrArg some (by kernel_rfl))
  f300 := Tryz.func147.trans (congrArg some (by kernel_rfl))
  f301 := Tryz.func148.trans (congrArg some (by kernel_rfl))
  f328 := Tryz.func175.trans (congrArg some (by kernel_rfl))
  f329 := Tryz.func176.trans (congrArg some (by kernel_rfl))
  f330 := Tryz.func177.trans (congrArg some (by kernel_rfl))
  f331 := Tryz.func178.trans (congrArg some (by kernel_rfl))
  f332 := Tryz.func179.trans (congrArg some (by kernel_rfl))
  f343 := Tryz.func214.trans (congrArg some (by kernel_rfl))
  t0 := Tryz.underlying0
  a0 := Tryz.isAgg0
  z0 := Tryz.sizeOf0
  v0 := Tryz.zeroValue0
  t3 := Tryz.underlying3
  a3 := Tryz.isAgg3
  z3 := Tryz.sizeOf3
  v3 := Tryz.zeroValue3
  t4 := Tryz.underlying4
  a4 := Tryz.isAgg4
  z4 := Tryz.sizeOf4
  v4 := Tryz.zeroValue4
  t5 := Tryz.underlying5
  a5 := Tryz.isAgg5
  z5 := Tryz.sizeOf5
  v5 := Tryz.zeroValue5
  t9 := Tryz.underlying9
  a9 := Tryz.isAgg9
  z9 := Tryz.sizeOf9
  v9 := Tryz.zeroValue9
  t28 := Tryz.underlying41
  a28 := Tryz.isAgg41
  z28 := Tryz.sizeOf41
  v28 := Tryz.zeroValue41
  t46 := Tryz.underlying160
  a46 := Tryz.isAgg160
  z46 := Tryz.sizeOf160
  v46 := Tryz.zeroValue160
  t51 := Tryz.underlying184
  a51 := Tryz.isAgg184
  z51 := Tryz.sizeOf184
  v51 := Tryz.zeroValue184
  t53 := Tryz.underlying186
  a53 := Tryz.isAgg186
  z53 := Tryz.sizeOf186
  v53 := Tryz.zeroValue186
  t131 := Tryz.underlying153
  a131 := Tryz.isAgg153
  z131 := Tryz.sizeOf153
  v131 := Tryz.zeroValue153
  t182 := Tryz.underlying177
  a182 := Tryz.isAgg177
  z182 := Tryz.sizeOf177
  v182 := Tryz.zeroValue177
  t183 := Tryz.underlying178
  a183 := Tryz.isAgg178
  z183 := Tryz.sizeOf178
  v183 := Tryz.zeroValue178
  t218 := Tryz.underlying204
  a218 := Tryz.isAgg204
  z218 := Tryz.sizeOf204
  v218 := Tryz.zeroValue204
  t222 := Tryz.underlying191
  a222 := Tryz.isAgg191
  z222 := Tryz.sizeOf191
  v222 := Tryz.zeroValue191
  t228 := Tryz.underlying231
  a228 := Tryz.isAgg231
  z228 := Tryz.sizeOf231
  v228 := Tryz.zeroValue231
  t229 := Tryz.underlying232
  a229 := Tryz.isAgg232
  z229 := Tryz.sizeOf232
  v229 := Tryz.zeroValue232 }
end Go.Proofs.YtaldgcnhmnfocaaGreatDoor

/-
  slices.Sort over ints that lie in memory that turns. No condition.
-/
namespace Go.Proofs.YtaldgcnhmnfocaaGreatDoor
open Go.RowKit Go.Sort

def encI (z : Int) : Value := .int .i64 z
theorem wide_ints (zs : List Int) : wide 1 (zs.map AV.i) := ⟨fun h => (by cases h), fun y hy => by
  obtain ⟨t, _, rfl⟩ := List.mem_map.1 hy
  rfl⟩
theorem flat_ints : ∀ zs : List Int, (zs.map AV.i).flatMap AV.cells = zs.map AV.i
  | [] => rfl
  | z :: zs => by
    show AV.i z :: (zs.map AV.i).flatMap AV.cells = _
    rw [flat_ints zs]
    rfl
theorem rep_i {M : Mem} (z : Int) : (encI z).oneCell' = true ∧ rep M (.i z) (encI z) := ⟨rfl, by unfold AV.i; simp only [rep]; exact ⟨rfl, rfl⟩⟩
theorem ints_rep {M : Mem} : ∀ zs : List Int, repC M (zs.map .i) (zs.map encI)
  | [] => by simp only [List.map_nil, repC]
  | z :: zs => by
    simp only [List.map_cons, repC]
    exact ⟨_, _, rfl, rep_i z, ints_rep zs⟩
theorem ints_vals {M : Mem} : ∀ {zs : List Int} {vs : List Value}, repC M (zs.map .i) vs → vs = zs.map encI
  | [], vs, h => by simp only [List.map_nil, repC] at h; subst h; rfl
  | z :: zs, vs, h => by
    simp only [List.map_cons, repC] at h
    obtain ⟨c, cs, rfl, ⟨_, h1⟩, h2⟩ := h
    unfold AV.i at h1
    simp only [rep] at h1
    rw [ints_vals h2, h1.1]
    rfl
/-- ints in a row that may turn: what the shelf wants, and what it gives -/
theorem row_ints {M : Mem} {H : Heap} {w : World} {b n cap : Nat} {cs : List AV} {zs : List Int} (hok : TurnOk 1 n (zs.map .i) H b cap cs) (hI : Inv M ((b, .cells cs) :: H) w) :
    zs.length = n ∧ b < w.heap.size ∧ Holds encI w b 0 zs.toArray ∧
    ∀ (zs' : List Int) (k : Nat) (os : Array Obj), zs'.length = n → Evo [b] M w M (grow (putRow encI (Sort.ahead w k) b 0 zs'.toArray) os) ∧ Inv M ((b, .cells (zs'.map .i ++ cs.drop n)) :: H) (grow (putRow encI (Sort.ahead w k) b 0 zs'.toArray) os) := by
  have hn : zs.length = n := by have := hok.len; rwa [List.length_map] at this
  have hhere := hok.here
  rw [flat_ints, Nat.mul_one] at hhere
  obtain ⟨_, vs, T0, hg, hrep⟩ := hI.obj b (.cells cs) (by simp)
  have hlt : b < w.heap.size := (Array.getElem?_eq_some_iff.1 hg).1
  have k1 := ints_vals (M := M) (vs := vs.take n) (by rw [← hhere]; exact hrep.take n)
  have hvl : n ≤ vs.length := by
    have := congrArg List.length k1
    rw [List.length_take, List.length_map] at this
    omega
  refine ⟨hn, hlt, fun j hj => ?_, fun zs' k os hl => ?_⟩
  · simp only [List.size_toArray] at hj
    have e1 : vs[j]? = some (encI zs[j]) := by
      have : (vs.take n)[j]? = (zs.map encI)[j]? := by rw [k1]
      rw [List.getElem?_take, if_pos (by omega), List.getElem?_map, List.getElem?_eq_getElem hj] at this
      exact this
    refine ⟨?_, ?_⟩
    · simp only [World.cell?, hg, Nat.zero_add]
      rw [getElem!_pos zs.toArray j (by simpa using hj)]
      simpa using e1
    · simp [World.frozen?, hg]
  · refine row_turn (ds := zs'.map encI ++ vs.drop n) (T0 := T0) hI (by rw [size_grow]; unfold putRow mapBlock Sort.ahead; simp) rfl rfl rfl (fun q hq hqb => ?_) ?_ ((ints_rep zs').append (hrep.drop n))
    · unfold grow putRow mapBlock Sort.ahead
      simp only
      rw [Array.getElem?_append_left (by simpa using hq), Array.getElem?_modify, if_neg (Ne.symm hqb)]
    · unfold grow putRow mapBlock Sort.ahead
      simp only
      rw [Array.getElem?_append_left (by simpa using hlt), Array.getElem?_modify, if_pos rfl, hg]
      simp only [Option.map_some, onCells]
      congr 2
      apply Array.ext_getElem?
      intro i
      unfold Sort.putCells
      rw [Array.getElem?_mapIdx]
      simp only [List.size_toArray, Nat.zero_le, true_and, Nat.zero_add, Nat.sub_zero, List.getElem?_toArray]
      by_cases hi : i < n
      · rw [List.getElem?_append_left (by simpa [hl] using hi), List.getElem?_map, List.getElem?_eq_getElem (by omega), List.getElem?_eq_getElem (by omega)]
        simp only [Option.map_some]
        rw [if_pos (by omega), getElem!_pos zs'.toArray i (by simpa [hl] using hi)]
        simp
      · rw [List.getElem?_append_right (by simp [hl]; omega), List.length_map, hl, List.getElem?_drop, show n + (i - n) = i by omega]
        cases vs[i]? with
        | none => rfl
        | some v => simp only [Option.map_some]; rw [if_neg (by omega)]
/-- ints in order -/
def intSort (zs : List Int) : List Int := zs.mergeSort fun x y => decide (x ≤ y)
theorem intSort_len (zs : List Int) : (intSort zs).length = zs.length := List.length_mergeSort _
theorem turn_ints {n cap b : Nat} {zs zs' : List Int} {H : Heap} {cs : List AV} (hok : TurnOk 1 n (zs.map .i) H b cap cs) (hl : zs'.length = n) : TurnOk 1 n (zs'.map .i) H b cap (zs'.map .i ++ cs.drop n) := by
  have h := hok.here
  rw [flat_ints, Nat.mul_one] at h
  have h1 : (cs.take n).length = n := by rw [h]; exact hok.len
  have hr := hok.room
  have hle := hok.le
  refine ⟨by simpa using hl, hok.out, hok.le, hok.max, ?_, ?_⟩
  · rw [List.length_append, List.length_map, List.length_drop, hl]
    rw [List.length_take] at h1
    omega
  · rw [flat_ints, Nat.mul_one, List.take_left' (by simpa using hl)]
set_option maxRecDepth 100000 in
theorem SortI_con (zs : List Int) {b n cap : Nat} {cs : List AV} {H : Heap} {Q : AV → Heap → Prop} (hok : TurnOk 1 n (zs.map .i) H b cap cs) (hn : n ≤ 1000000) (hq : ∀ cs', TurnOk 1 n ((intSort zs).map .i) H b cap cs' → Q (.tup []) ((b, .cells cs') :: H)) : Con Tryz.prog 91 [hs b n cap] ((b, .cells cs) :: H) Q := by
  intro M w vs _ hI hargs
  simp only [repT] at hargs
  obtain ⟨v, _, rfl, hv, rfl⟩ := hargs
  unfold hs at hv
  simp only [rep] at hv
  obtain ⟨rfl, _⟩ := hv
  obtain ⟨h1, h3, h4, h5⟩ := row_ints hok hI
  have hcall := Any.slices_Sort_int Tryz.l189 b 0 cap zs w h4 h3 (by omega)
  rw [h1] at hcall
  rw [ent Tryz.func91 (by kernel_rfl) rfl]
  refine Calls.mono hcall ?_
  rintro e w' ⟨rfl, k, os, rfl⟩
  have hl : (intSort zs).length = n := by rw [intSort_len]; exact h1
  obtain ⟨e1, e2⟩ := h5 (intSort zs) k os hl
  exact ⟨_, rfl, M, .tup [], _, e1.mono (fun q hq => by simp only [List.mem_singleton] at hq; subst hq; simp [Heap.keys]), e2, fun q hq => Or.inl hq, by simp [rep, repT], hq _ (turn_ints hok hl)⟩
end Go.Proofs.YtaldgcnhmnfocaaGreatDoor

/-
  Versions, plain; maps.Keys over them. No condition.
-/
namespace Go.Proofs.YtaldgcnhmnfocaaGreatDoor
open Go.RowKit

/-- a live version: its entry's stamp, its number, where it lies, its environment, its pins -/
structure Vn where
  st : Nat
  n : Nat
  b : Nat
  t : Tre
  l : List En
  pins : Nat
def vE (v : Vn) : Nat × AV × AV := (v.st, .i (v.n : Nat), .ptr v.b 0)
def vEs (vs : List Vn) : List (Nat × AV × AV) := vs.map vE
def vC (v : Vn) : List AV := [envX v.t v.l, .i (v.pins : Nat)]
/-- numbers, and stamps, rise -/
structure VsOk (vs : List Vn) (clk : Nat) : Prop where
  ns : vs.Pairwise fun a b => a.n < b.n
  ss : vs.Pairwise fun a b => a.st < b.st
  lt : ∀ v ∈ vs, v.st < clk
theorem VsOk.stamps {vs : List Vn} {clk : Nat} (h : VsOk vs clk) : ((vEs vs).map (·.1)).Nodup := by
  unfold vEs List.Nodup
  rw [List.map_map, List.pairwise_map]
  exact h.ss.imp fun hab e => by
    simp only [Function.comp, vE] at e
    omega
theorem rise_inj {vs : List Vn} {f : Vn → Nat} (h : vs.Pairwise fun a b => f a < f b) : ∀ {x y : Vn}, x ∈ vs → y ∈ vs → f x = f y → x = y := by
  induction vs with
  | nil => intro x y hx; cases hx
  | cons a vs ih =>
    have hp := List.pairwise_cons.1 h
    intro x y hx hy e
    rcases List.mem_cons.1 hx with k1 | k1
    · rcases List.mem_cons.1 hy with k2 | k2
      · rw [k1, k2]
      · have := hp.1 y k2; rw [k1] at e; omega
    · rcases List.mem_cons.1 hy with k2 | k2
      · have := hp.1 x k1; rw [k2] at e; omega
      · exact ih hp.2 k1 k2 e
theorem VsOk.same {vs : List Vn} {clk : Nat} (h : VsOk vs clk) {x y : Vn} (hx : x ∈ vs) (hy : y ∈ vs) (e : x.st = y.st) : x = y := rise_inj h.ss hx hy e
theorem VsOk.sameN {vs : List Vn} {clk : Nat} (h : VsOk vs clk) {x y : Vn} (hx : x ∈ vs) (hy : y ∈ vs) (e : x.n = y.n) : x = y := rise_inj h.ns hx hy e
/-- which key may come next; when all came -/
def kNx (vs : List Vn) (d : List (List AV)) (args : List AV) : Prop := ∃ v ∈ vs, args = [.i (v.n : Nat)] ∧ args ∉ d
def kFin (vs : List Vn) (d : List (List AV)) : Prop := ∀ v ∈ vs, [AV.i (v.n : Nat)] ∈ d
theorem i_inj {a b : Nat} (h : ([AV.i (a : Nat)] : List AV) = [.i (b : Nat)]) : a = b := by
  have h1 := (List.cons.inj h).1
  unfold AV.i at h1
  simp only [AV.v.injEq, Value.int.injEq, true_and] at h1
  omega
set_option maxRecDepth 100000 in
theorem Keys_con (bm : Nat) : Ans Tryz.prog 60 [.mp bm] (.fn (.func 92) [.ip [.mp bm]]) := by
  intro H Q hq
  refine Con.ice ?_
  refine con_of_awp (esc := ([1].contains ·)) tab_ok mixed Tryz.func60 rfl (ent Tryz.func60 (by kernel_rfl) rfl) (by kernel_rfl) ?_
  intro hw hn b hb
  exact ⟨_, _, Le.refl _, List.Sublist.refl _, b, [.mp bm], H, .fn (.func 92) [.ip [.mp bm]], .here, fun M h => LeM.fn ⟨ptr_ice h, trivial⟩, hq⟩
set_option maxRecDepth 100000 in
set_option maxHeartbeats 1000000 in
theorem Keys_iter {vs : List Vn} {clk : Nat} (hv : VsOk vs clk) (bm : Nat) : IterS Tryz.prog 92 [.ip [.mp bm]] (kNx vs) (kFin vs) (fun H => (bm, .mp (vEs vs) clk) ∈ H) := by
  intro l I S hR hr H h0
  refine con_of_awp (esc := fun _ => false) tab_ok mixed Tryz.func92 rfl (ent Tryz.func92 (by kernel_rfl) rfl) (by kernel_rfl) ?_
  intro hw hn
  clear hw hn
  refine ⟨vEs vs, clk, hR _ _ h0, fun i hi => ?_⟩
  refine ⟨List Vn × Heap, fun x => ⟨[(0, .g (.fn (.yield l) [])), (5, .g (.ptr i 0))], [], (i, itO bm clk (x.1.map Vn.st) clk) :: x.2⟩, fun x => I (x.1.map fun v => [.i (v.n : Nat)]) x.2 ∧ (∀ v ∈ x.1, v ∈ vs) ∧ (x.1.map Vn.st).Nodup, fun x => vs.length - x.1.length, ⟨([], H), ⟨h0, nofun, List.nodup_nil⟩, ?_⟩, ?_⟩
  · exact ⟨⟨Le.refl _, Le.refl _, trivial⟩, trivial, List.Sublist.refl _⟩
  · rintro ⟨ps, Hu⟩ ⟨hI, hin, hnd⟩
    simp only at hI hin hnd
    have hmem : (bm, AObj.mp (vEs vs) clk) ∈ (i, itO bm clk (ps.map Vn.st) clk) :: Hu := List.mem_cons_of_mem _ (hR _ _ hI)
    refine ⟨bm, clk, ps.map Vn.st, vEs vs, List.mem_cons_self, hmem, fun p hp => ?_, fun hall => ?_, fun p hp hns => ?_⟩
    · obtain ⟨v, hv1, rfl⟩ := List.mem_map.1 hp
      exact hv.lt v hv1
    · refine ⟨.tup [], Hu, Le.refl _, List.sublist_cons_self _ _, Or.inl ⟨_, fun v hv1 => ?_, hI⟩⟩
      obtain ⟨u, hu1, hu2⟩ := List.mem_map.1 (hall (vE v) (List.mem_map.2 ⟨v, hv1, rfl⟩))
      have := hv.same (hin u hu1) hv1 hu2
      subst this
      exact List.mem_map.2 ⟨_, hu1, rfl⟩
    · obtain ⟨v, hv1, rfl⟩ := List.mem_map.1 hp
      have hvn : v ∉ ps := fun h => hns (List.mem_map.2 ⟨v, h, rfl⟩)
      have hnx : kNx vs (ps.map fun v => [.i (v.n : Nat)]) [.i (v.n : Nat)] := ⟨v, hv1, rfl, fun h => by
        obtain ⟨u, hu1, hu2⟩ := List.mem_map.1 h
        have := hv.sameN (hin u hu1) hv1 (i_inj hu2)
        subst this
        exact hvn hu1⟩
      have hnd2 : ((ps ++ [v]).map Vn.st).Nodup := by
        rw [List.map_append, List.nodup_append]
        refine ⟨hnd, by simp, fun a ha b hb e => ?_⟩
        have hb' : b = v.st := by simpa using hb
        subst e
        exact hns (by rw [hb'] at ha; exact ha)
      have hlen : ps.length < vs.length := by
        have h1 := hnd2.length_le_of_subset (l₂ := vs.map Vn.st) fun x hx => by
          obtain ⟨u, hu1, rfl⟩ := List.mem_map.1 hx
          rcases List.mem_append.1 hu1 with hu1 | hu1
          · exact List.mem_map.2 ⟨u, hin u hu1, rfl⟩
          · rw [List.mem_singleton] at hu1
            subst hu1
            exact List.mem_map.2 ⟨_, hv1, rfl⟩
        simp at h1
        omega
      refine ⟨(i, itO bm clk (ps.map Vn.st ++ [v.st]) clk) :: Hu, .here, ?_⟩
      refine ⟨bm, clk, ps.map Vn.st, vEs vs, vE v, List.mem_cons_self, List.mem_cons_of_mem _ (hR _ _ hI), hp, hv.stamps, ?_⟩
      refine ⟨[.i (v.n : Nat)], LeL.refl _, RCon.mono ((hr _ [.i (v.n : Nat)] Hu hnx hI).under (i, itO bm clk (ps.map Vn.st ++ [v.st]) clk)) ?_⟩
      rintro r H' ⟨H0, rfl, (⟨rfl, h⟩ | ⟨rfl, h⟩)⟩
      · intro hz1 hz2; clear hz1 hz2
        refine ⟨(ps ++ [v], H0), ⟨?_, fun u hu => ?_, hnd2⟩, (by simp only [List.length_append, List.length_cons, List.length_nil]; omega), ?_⟩
        · simp only [List.map_append]
          exact h
        · rcases List.mem_append.1 hu with hu | hu
          · exact hin u hu
          · rw [List.mem_singleton] at hu
            subst hu
            exact hv1
        · refine ⟨⟨Le.refl _, Le.refl _, trivial⟩, trivial, ?_⟩
          simp only [List.map_append]
          exact List.Sublist.refl _
      · intro hz1 hz2; clear hz1 hz2
        exact ⟨.tup [], H0, Le.refl _, List.sublist_cons_self _ _, Or.inr h⟩
end Go.Proofs.YtaldgcnhmnfocaaGreatDoor

/-
  slices.AppendSeq, Collect, Sorted over the numbers of versions; Live. No condition.
-/
namespace Go.Proofs.YtaldgcnhmnfocaaGreatDoor
open Go.RowKit Go.Sort

/-- the numbers of versions -/
def vNs (vs : List Vn) : List Int := vs.map fun v => (v.n : Int)
theorem vNs_len (vs : List Vn) : (vNs vs).length = vs.length := List.length_map _
theorem ints_trans (a b c : Int) (h : decide (a ≤ b) = true) (k : decide (b ≤ c) = true) : decide (a ≤ c) = true := decide_eq_true (Int.le_trans (of_decide_eq_true h) (of_decide_eq_true k))
theorem ints_total (a b : Int) : (decide (a ≤ b) || decide (b ≤ a)) = true := by
  rcases Int.le_total a b with h | h
  · simp [h]
  · simp [h]
theorem vNs_rise {vs : List Vn} {clk : Nat} (h : VsOk vs clk) : (vNs vs).Pairwise fun a b => a < b := by
  unfold vNs
  rw [List.pairwise_map]
  exact h.ns.imp fun h => by omega
theorem sort_ns {vs : List Vn} {clk : Nat} (h : VsOk vs clk) {zs : List Int} (hn : zs.Nodup) (hm : ∀ z, z ∈ zs ↔ z ∈ vNs vs) : intSort zs = vNs vs := by
  have h1 : (vNs vs).Nodup := (vNs_rise h).imp fun h e => by omega
  have hp : (intSort zs).Perm (vNs vs) := (List.mergeSort_perm zs _).trans ((List.perm_ext_iff_of_nodup hn h1).2 hm)
  exact List.Perm.eq_of_pairwise (le := fun a b => a ≤ b) (fun _ _ _ _ h k => Int.le_antisymm h k) ((List.pairwise_mergeSort ints_trans ints_total zs).imp fun h => of_decide_eq_true h) ((vNs_rise h).imp fun h => Int.le_of_lt h) hp
theorem some_len {vs : List Vn} {zs : List Int} (hn : zs.Nodup) (hm : ∀ z ∈ zs, z ∈ vNs vs) : zs.length ≤ vs.length := by
  have := hn.length_le_of_subset (l₂ := vNs vs) hm
  rwa [vNs_len] at this
set_option maxRecDepth 100000 in
theorem SortI_nil (o : Own) (s : Nat) {H : Heap} {Q : AV → Heap → Prop} (hq : Q (.tup []) H) : Con Tryz.prog 91 [.sl o s []] H Q := by
  intro M w vs _ hI hargs
  simp only [repT] at hargs
  obtain ⟨v, _, rfl, hv, rfl⟩ := hargs
  simp only [rep] at hv
  obtain ⟨a, cap, rfl, _⟩ := hv
  rw [ent Tryz.func91 (by kernel_rfl) rfl]
  refine Calls.mono (Any.slices_Sort_int_none Tryz.l189 a cap w) ?_
  rintro e w' ⟨rfl, rfl⟩
  exact ⟨_, rfl, M, .tup [], H, Evo.refl _ _ _, hI, fun q hq => Or.inl hq, by simp [rep, repT], hq⟩
set_option maxRecDepth 100000 in
set_option maxHeartbeats 1000000 in
theorem AppendSeqI_con {vs : List Vn} {clk : Nat} (hv : VsOk vs clk) (bm : Nat) (hl : vs.length ≤ 1000000) (H : Heap) (hR : (bm, .mp (vEs vs) clk) ∈ H) (Q : AV → Heap → Prop)
    (hq : ∀ (m : Mv) (zs : List Int), zs.Nodup → (∀ z, z ∈ zs ↔ z ∈ vNs vs) → MvOk 1 zs.length (zs.map .i) H m → Q (mvV 1 m zs.length) (mvH m H)) : Con Tryz.prog 115 [.sl .full 0 [], .fn (.func 92) [.ip [.mp bm]]] H Q := by
  refine con_of_sem tab_ok Tryz.func115 rfl (ent Tryz.func115 (by kernel_rfl) rfl) (by kernel_rfl) ?_
  intro hw hn
  clear hw hn
  refine sem_seq (esc := [2, 11].contains) tab_ok mixed ?_
  intro b hb
  refine sem_then ?_
  refine sem_seq (esc := [2, 11].contains) tab_ok mixed ?_
  refine sem_block ?_
  refine sem_rangeS (esc := [2, 11].contains) (X := Mv × List Int) (Y := Unit) tab_ok mixed (ent Tryz.func92 (by kernel_rfl) rfl) (Keys_iter hv bm) [(2, .g (.ptr b 0)), (6, .g (.fn (.func 92) [.ip [.mp bm]]))] (fun p => mvH p.1 ((b, .cells [mvS p.1 p.2.length]) :: H))
    (fun d p => d = p.2.map (fun z => [AV.i z]) ∧ p.2.Nodup ∧ (∀ z ∈ p.2, z ∈ vNs vs) ∧ MvOk 1 p.2.length (p.2.map .i) ((b, .cells [mvS p.1 p.2.length]) :: H) p.1) (fun _ => H) (fun _ _ => False) rfl (fun d args ha => by obtain ⟨v, _, rfl, _⟩ := ha; rfl) (fun d p _ => mvH_mem (List.mem_cons_of_mem _ hR)) (fun p H h => List.mem_cons_of_mem _ h) ⟨(none, []), ⟨rfl, List.nodup_nil, nofun, rfl, rfl⟩, ?_⟩ ?_ ?_ nofun
  · exact ⟨⟨Le.refl _, Le.refl _, trivial⟩, HLe.refl _⟩
  · rintro d args ⟨m, zs⟩ ⟨v, hv1, rfl, hni⟩ ⟨hd, hnd, hin, hz⟩ _ _
    simp only at hd hnd hin hz
    have hvn : ((v.n : Nat) : Int) ∈ vNs vs := List.mem_map.2 ⟨v, hv1, rfl⟩
    have hnz : ((v.n : Nat) : Int) ∉ zs := fun h => hni (by rw [hd]; exact List.mem_map.2 ⟨_, h, rfl⟩)
    have hnd2 : (zs ++ [((v.n : Nat) : Int)]).Nodup := by
      rw [List.nodup_append]
      refine ⟨hnd, by simp, fun a ha c hc e => ?_⟩
      rw [List.mem_singleton] at hc
      rw [e, hc] at ha
      exact hnz ha
    have hin2 : ∀ z ∈ zs ++ [((v.n : Nat) : Int)], z ∈ vNs vs := fun z hz => by
      rcases List.mem_append.1 hz with hz | hz
      · exact hin z hz
      · rw [List.mem_singleton] at hz; rw [hz]; exact hvn
    have hd2 : d ++ [[AV.i ((v.n : Nat) : Int)]] = (zs ++ [((v.n : Nat) : Int)]).map fun z => [AV.i z] := by rw [hd, List.map_append]; rfl
    have hll := some_len hnd2 hin2
    have hsn : zs.map AV.i ++ [.i ((v.n : Nat) : Int)] = (zs ++ [((v.n : Nat) : Int)]).map AV.i := by rw [List.map_append]; rfl
    have hln : (zs ++ [((v.n : Nat) : Int)]).length = zs.length + 1 := by rw [List.length_append]; rfl
    cases m with
    | none =>
      have hz0 : zs = [] := List.length_eq_zero_iff.1 hz.1
      subst hz0
      refine ⟨_, List.mem_cons_self, ?_⟩
      refine ⟨(by show (0 + 1) * (8 + 1) ≤ 140737488355328; decide), by simp, rfl, fun c cap rest k1 k2 k3 k4 => ?_⟩
      refine ⟨_, _, .there .here, Nat.le_refl _, ?_⟩
      have hok : MvOk 1 1 ([((v.n : Nat) : Int)].map .i) ((b, .cells [mvS (some (c, cap, ([] ++ [AV.i ((v.n : Nat) : Int)]).flatMap AV.cells ++ rest)) 1]) :: H) (some (c, cap, ([] ++ [AV.i ((v.n : Nat) : Int)]).flatMap AV.cells ++ rest)) := ⟨by decide, TurnOk.first rfl k1 k2 k3 k4⟩
      exact ⟨(some (c, cap, ([] ++ [AV.i ((v.n : Nat) : Int)]).flatMap AV.cells ++ rest), [((v.n : Nat) : Int)]), ⟨hd2, hnd2, hin2, hok⟩, HLe.refl _⟩
    | some p =>
      obtain ⟨b0, cap0, cs0⟩ := p
      obtain ⟨hj0, htk⟩ := hz
      refine ⟨_, List.mem_cons_of_mem _ List.mem_cons_self, ?_⟩
      refine ⟨?_, by simp, cs0, _, Heap.Rem.here, htk.le, htk.max, htk.room, fun c cap rest k1 k2 k3 k4 => ?_⟩
      · simp only [List.length_cons, List.length_nil]
        show _ * (8 + 1) ≤ _
        omega
      refine ⟨_, _, .there .here, Nat.le_refl _, ?_⟩
      have hok : MvOk 1 (zs.length + 1) ((zs ++ [((v.n : Nat) : Int)]).map .i) ((b, .cells [mvS (some (c, cap, cs0.take (zs.length * 1) ++ [AV.i ((v.n : Nat) : Int)].flatMap AV.cells ++ rest)) (zs.length + 1)]) :: H) (some (c, cap, cs0.take (zs.length * 1) ++ [AV.i ((v.n : Nat) : Int)].flatMap AV.cells ++ rest)) := by
        rw [← hsn]
        have := htk.next (y := .i ((v.n : Nat) : Int)) (wide_ints _) rfl k1 k2 k3 k4
        exact ⟨by omega, this.len, this.out, this.le, this.max, this.room, this.here⟩
      refine ⟨(some (c, cap, cs0.take (zs.length * 1) ++ [AV.i ((v.n : Nat) : Int)].flatMap AV.cells ++ rest), zs ++ [((v.n : Nat) : Int)]), ⟨hd2, hnd2, hin2, ?_⟩, HLe.eq ?_⟩
      · simp only
        rw [hln]
        exact hok
      · simp only
        rw [hln]
        rfl
  · rintro d ⟨m, zs⟩ hfin ⟨hd, hnd, hin, hz⟩
    simp only at hd hnd hin hz
    have hmem : (b, AObj.cells [mvS m zs.length]) ∈ mvH m ((b, AObj.cells [mvS m zs.length]) :: H) := mvH_mem List.mem_cons_self
    have hall : ∀ z, z ∈ zs ↔ z ∈ vNs vs := fun z => ⟨hin z, fun h => by
      obtain ⟨v, hv1, rfl⟩ := List.mem_map.1 h
      have h1 := hfin v hv1
      rw [hd] at h1
      obtain ⟨y, hy, e⟩ := List.mem_map.1 h1
      have e1 := (List.cons.inj e).1
      unfold AV.i at e1
      simp only [AV.v.injEq, Value.int.injEq, true_and] at e1
      rw [← e1]
      exact hy⟩
    refine sem_of (esc := [2, 11].contains) tab_ok mixed ?_
    refine ⟨_, hmem, ?_⟩
    exact ⟨_, _, mvS_le 1 m _, mvH_sub (List.sublist_cons_self _ _), hq m zs hnd hall (hz.drop (List.sublist_cons_self _ _))⟩
set_option maxRecDepth 100000 in
theorem SortedI_con {vs : List Vn} {clk : Nat} (hv : VsOk vs clk) (bm : Nat) (hl : vs.length ≤ 1000000) (H : Heap) (hR : (bm, .mp (vEs vs) clk) ∈ H) (Q : AV → Heap → Prop)
    (hq : ∀ m : Mv, MvOk 1 vs.length ((vNs vs).map .i) H m → Q (mvV 1 m vs.length) (mvH m H)) : Con Tryz.prog 59 [.fn (.func 92) [.ip [.mp bm]]] H Q := by
  have collect : ∀ Q : AV → Heap → Prop, (∀ (m : Mv) (zs : List Int), zs.Nodup → (∀ z, z ∈ zs ↔ z ∈ vNs vs) → MvOk 1 zs.length (zs.map .i) H m → Q (mvV 1 m zs.length) (mvH m H)) → Con Tryz.prog 90 [.fn (.func 92) [.ip [.mp bm]]] H Q := by
    intro Q hq
    refine con_of_awp (esc := fun _ => false) tab_ok mixed Tryz.func90 rfl (ent Tryz.func90 (by kernel_rfl) rfl) (by kernel_rfl) ?_
    intro hw hn
    refine ⟨_, LeL.refl _, AppendSeqI_con hv bm hl _ hR _ fun m zs h1 h2 h3 => ?_⟩
    intro hz1 hz2; clear hz1 hz2
    exact ⟨_, _, Le.refl _, List.Sublist.refl _, hq m zs h1 h2 h3⟩
  refine con_of_awp (esc := fun _ => false) tab_ok mixed Tryz.func59 rfl (ent Tryz.func59 (by kernel_rfl) rfl) (by kernel_rfl) ?_
  intro hw hn
  refine ⟨_, LeL.refl _, collect _ fun m zs h1 h2 h3 => ?_⟩
  intro hz1 hz2; clear hz1 hz2
  have hsrt := sort_ns hv h1 h2
  have hlen : zs.length = vs.length := by rw [← vNs_len, ← hsrt, intSort_len]
  cases m with
  | none =>
    refine ⟨_, LeL.refl _, SortI_nil _ _ ?_⟩
    intro hz1 hz2; clear hz1 hz2
    have h0 : vs.length = 0 := by rw [← hlen]; exact h3.1
    refine ⟨.sl .no 1 [], H, Le.refl _, List.Sublist.refl _, ?_⟩
    have := hq none ⟨h0, by rw [List.map_eq_nil_iff]; exact List.length_eq_zero_iff.1 (by rw [vNs_len]; exact h0)⟩
    exact this
  | some p =>
    obtain ⟨b, cap, cs⟩ := p
    refine ⟨_, LeL.refl _, SortI_con zs h3.2 (by omega) fun cs' hok => ?_⟩
    intro hz1 hz2; clear hz1 hz2
    rw [hsrt, hlen] at hok
    refine ⟨Proofs.YtaldgcnhmnfocaaGreatDoor.hs b vs.length cap, (b, .cells cs') :: H, le_of_eq (by show Proofs.YtaldgcnhmnfocaaGreatDoor.hs b zs.length cap = _; rw [hlen]), List.Sublist.refl _, hq (some (b, cap, cs')) ⟨by rw [← hlen]; exact h3.1, hok⟩⟩
end Go.Proofs.YtaldgcnhmnfocaaGreatDoor

/-
  slices.IndexFunc and DeleteFunc over ints in memory that may turn. No condition.
-/
namespace Go.Proofs.YtaldgcnhmnfocaaGreatDoor
open Go.RowKit

/-- ints in a row -/
def intsX (zs : List Int) : AV := .sl .no 1 (zs.map .i)
theorem run_cells {f : List AV → Rs} {K : T → Prop} {a r : List AV} (hd : a = r) (h : (f r).run K) : (f a).run K := by subst hd; exact h
/-- the cells while texts are struck: those that were kept, what is left over, those that come -/
def delI (p : Int → Bool) (ss : List Int) (rest : List AV) (mid : List AV) (j : Nat) : List AV := ((ss.take j).filter fun s => !p s).map AV.i ++ (mid ++ ((ss.drop j).map AV.i ++ rest))
theorem delI_at {p : Int → Bool} {ss : List Int} {rest mid : List AV} {j : Nat} (h : j < ss.length) (hm : ((ss.take j).filter fun s => !p s).length + mid.length = j) : (delI p ss rest mid j).drop (0 + j * 1) = .i ss[j] :: ((ss.drop (j + 1)).map AV.i ++ rest) := by
  rw [Nat.zero_add, Nat.mul_one, delI, ← List.append_assoc, List.drop_left' (by rw [List.length_append, List.length_map]; exact hm), List.drop_eq_getElem_cons h]
  rfl
theorem delI_no {p : Int → Bool} {ss : List Int} {rest mid : List AV} {j : Nat} (h : j < ss.length) (hp : p ss[j] = true) : delI p ss rest mid j = delI p ss rest (mid ++ [.i ss[j]]) (j + 1) := by
  rw [delI, delI, List.take_succ_eq_append_getElem h, List.filter_append, List.drop_eq_getElem_cons h, List.map_cons]
  simp only [List.filter_cons, List.filter_nil, hp, Bool.not_true, Bool.false_eq_true, if_false, List.append_nil, List.append_assoc, List.cons_append, List.nil_append]
theorem delI_yes {p : Int → Bool} {ss : List Int} {rest mid : List AV} {m0 : AV} {j : Nat} (h : j < ss.length) (hp : p ss[j] = false) : putCells (delI p ss rest (m0 :: mid) j) (0 + ((ss.take j).filter fun s => !p s).length * 1) [.i ss[j]] = delI p ss rest (mid ++ [.i ss[j]]) (j + 1) := by
  have hl : (((ss.take j).filter fun s => !p s).map AV.i).length = ((ss.take j).filter fun s => !p s).length := List.length_map _
  rw [delI, delI, Nat.zero_add, Nat.mul_one, putCells, List.take_left' hl, ← List.drop_drop, List.drop_left' hl, List.take_succ_eq_append_getElem h, List.filter_append, List.drop_eq_getElem_cons h, List.map_cons]
  simp only [List.filter_cons, List.filter_nil, hp, Bool.not_false, if_true, List.map_append, List.map_cons, List.map_nil, List.length_cons, List.length_nil, List.drop_succ_cons, List.drop_zero, List.cons_append, List.append_assoc, List.nil_append, Nat.zero_add]
theorem delI_len {p : Int → Bool} {ss : List Int} {rest mid : List AV} {j : Nat} : (delI p ss rest mid j).length = ((ss.take j).filter fun s => !p s).length + (mid.length + ((ss.drop j).length + rest.length)) := by
  rw [delI]; simp
/-- the first at which it holds -/
def idxI (p : Int → Bool) (ss : List Int) : Int := if ss.any p = true then (ss.findIdx p : Int) else -1
theorem findIdx_take {p : Int → Bool} {ss : List Int} {k : Nat} (h : k < ss.length) (h1 : (ss.take k).any p = false) (h2 : p ss[k] = true) : ss.findIdx p = k := by
  rw [List.findIdx_eq h]
  refine ⟨h2, fun j hj => ?_⟩
  have hjl : j < (ss.take k).length := by rw [List.length_take]; omega
  have := List.any_eq_false.1 h1 (ss.take k)[j] (List.getElem_mem hjl)
  rw [List.getElem_take] at this
  simpa using this
set_option maxRecDepth 100000 in
theorem IndexI_con {g : FuncId} {caps : List AV} {p : Int → Bool} (ss : List Int) {b cap : Nat} {rest : List AV} {H : Heap} (hn1 : ss.length ≤ 1000000)
    (hg : ∀ s ∈ ss, ∀ Q : AV → Heap → Prop, Q (.b (p s)) ((b, .cells (ss.map .i ++ rest)) :: H) → Con Tryz.prog g ([.i s] ++ caps) ((b, .cells (ss.map .i ++ rest)) :: H) Q) (q : Int) (hqi : idxI p ss = q) (Q : AV → Heap → Prop) (hq : Q (.i q) ((b, .cells (ss.map .i ++ rest)) :: H)) :
    Con Tryz.prog 89 [hs b ss.length cap, .fn (.func g) caps] ((b, .cells (ss.map .i ++ rest)) :: H) Q := by
  refine con_of_awp (esc := fun _ => false) tab_ok mixed Tryz.func89 rfl (ent Tryz.func89 (by kernel_rfl) rfl) (by kernel_rfl) ?_
  intro hw hn
  clear hw hn
  refine ⟨Nat, fun k => ⟨[(0, .g (hs b ss.length cap)), (1, .g (.fn (.func g) caps)), (4, .g (.i 0)), (7, .g (.i ss.length)), (8, .g (.i k))], [], (b, .cells (ss.map .i ++ rest)) :: H⟩, fun k => k ≤ ss.length ∧ (ss.take k).any p = false, fun k => ss.length - k, ⟨0, ⟨Nat.zero_le _, rfl⟩, ?_⟩, ?_⟩
  · (constructor <;> repeat' (first | exact trivial | exact ⟨rfl, rfl⟩ | exact ⟨rfl, LeL.refl _⟩ | exact Le.refl _ | exact List.Sublist.refl _ | (show Le (AV.i _) (AV.i _); rw [List.length_map]; exact Le.refl _) | refine And.intro ?_ ?_))
  · rintro k ⟨hk, hpre⟩
    refine ifB_dec (fun h => ?_) (fun h => ?_)
    · have hlt : k < ss.length := by omega
      have hd : (ss.map AV.i ++ rest).drop (0 + k * 1) = .i ss[k] :: ((ss.drop (k + 1)).map AV.i ++ rest) := by
        rw [Nat.zero_add, Nat.mul_one, List.drop_append_of_le_length (by simp; omega), ← List.map_drop, List.drop_eq_getElem_cons hlt]
        rfl
      refine ⟨k, rfl, hlt, ?_⟩
      refine ⟨_, List.mem_cons_self, run_cells (f := partR tab 3) hd ?_⟩
      refine ⟨_, LeL.refl _, hg _ (List.getElem_mem hlt) _ ?_⟩
      intro hz1 hz2; clear hz1 hz2
      cases hh : p ss[k] with
      | true =>
        refine ⟨_, _, Le.refl _, List.Sublist.refl _, ?_⟩
        rw [idxI, if_pos (any_yes hlt hh), findIdx_take hlt hpre hh] at hqi
        rw [hqi]
        exact hq
      | false =>
        refine ⟨in64_of (by first | omega | (dsimp only; omega)) (by first | omega | (dsimp only; omega)), ?_⟩
        refine ⟨k + 1, ⟨by omega, any_take hlt hpre hh⟩, by (try dsimp only); omega, ?_⟩
        (constructor <;> repeat' (first | exact trivial | exact ⟨rfl, rfl⟩ | exact ⟨rfl, LeL.refl _⟩ | exact Le.refl _ | exact List.Sublist.refl _ | (show Le (AV.i _) (AV.i _); rw [List.length_map]; exact Le.refl _) | refine And.intro ?_ ?_))
    · have hk' : k = ss.length := by omega
      rw [hk', List.take_length] at hpre
      rw [idxI, hpre] at hqi
      subst hqi
      exact ⟨_, _, Le.refl _, List.Sublist.refl _, hq⟩
set_option maxRecDepth 100000 in
set_option maxHeartbeats 1000000 in
/-- texts are struck; what is left stands for ever -/
theorem DeleteI_con {g : FuncId} {caps : List AV} {p : Int → Bool} (ss : List Int) {b n cap : Nat} {cs : List AV} {H : Heap} (hok : TurnOk 1 n (ss.map .i) H b cap cs) (hn1 : n ≤ 1000000)
    (hg : ∀ s ∈ ss, ∀ (cs' : List AV) (Q : AV → Heap → Prop), Q (.b (p s)) ((b, .cells cs') :: H) → Con Tryz.prog g ([.i s] ++ caps) ((b, .cells cs') :: H) Q) (Q : AV → Heap → Prop) (hq : Q (intsX (ss.filter fun s => !p s)) H) :
    Con Tryz.prog 58 [hs b n cap, .fn (.func g) caps] ((b, .cells cs) :: H) Q := by
  have hn : ss.length = n := by have := hok.len; rwa [List.length_map] at this
  subst hn
  obtain ⟨rest, rfl⟩ : ∃ rest, cs = ss.map AV.i ++ rest := ⟨cs.drop (ss.length * 1), by
    have h := hok.here
    rw [flat_ints] at h
    rw [← h, List.take_append_drop]⟩
  have hle := hok.le
  have hmax := hok.max
  refine Con.ice ?_
  refine con_of_awp (esc := fun _ => false) tab_ok mixed Tryz.func58 rfl (ent Tryz.func58 (by kernel_rfl) rfl) (by kernel_rfl) ?_
  intro hw hnd
  clear hw hnd
  by_cases hany : ss.any p = true
  rotate_left
  · have hno : ss.any p = false := by simpa using hany
    refine ⟨_, LeL.refl _, IndexI_con ss hn1 (fun s hs Q hQ => hg s hs _ Q hQ) (-1) (by rw [idxI, hno]; rfl) _ ?_⟩
    intro hz1 hz2; clear hz1 hz2
    refine ⟨_, _, Le.refl _, List.Sublist.refl _, b, _, H, intsX (ss.filter fun s => !p s), .here, fun M hM => ?_, hq⟩
    have hall : ss.filter (fun s => !p s) = ss := List.filter_eq_self.2 fun s hs => by
      have := List.any_eq_false.1 hno s hs
      simpa using this
    rw [hall]
    exact hs_ice (xs := ss.map .i) (rest := rest) (by rw [flat_ints]; exact hM) (by simp) hle hmax (wide_ints ss)
  · obtain ⟨k0, hk0, h2, hpre⟩ : ∃ k, ∃ h : k < ss.length, p ss[k] = true ∧ (ss.take k).any p = false := by
      refine ⟨ss.findIdx p, List.findIdx_lt_length_of_exists (List.any_eq_true.1 hany), List.findIdx_getElem, ?_⟩
      rw [List.any_eq_false]
      intro x hx
      obtain ⟨j, hj, rfl⟩ := List.getElem_of_mem hx
      rw [List.getElem_take]
      rw [List.length_take] at hj
      have := List.not_of_lt_findIdx (p := p) (xs := ss) (i := j) (by omega)
      simpa using this
    refine ⟨_, LeL.refl _, IndexI_con ss hn1 (fun s hs Q hQ => hg s hs _ Q hQ) (k0 : Int) (by rw [idxI, if_pos hany, findIdx_take hk0 hpre h2]) _ ?_⟩
    intro hz1 hz2; clear hz1 hz2
    refine ⟨in64_of (by first | omega | (dsimp only; omega)) (by first | omega | (dsimp only; omega)), ?_⟩
    have hkeep : (ss.take k0).filter (fun s => !p s) = ss.take k0 := List.filter_eq_self.2 fun s hs => by
      have := List.any_eq_false.1 hpre s hs
      simpa using this
    have hk0l : (ss.take k0).length = k0 := by rw [List.length_take]; omega
    refine ⟨Nat × List AV, fun x => ⟨[(0, .g (hs b ss.length cap)), (1, .g (.fn (.func g) caps)), (4, .g (.sl .full 0 [])), (5, .g (.i ((ss.take x.1).filter fun s => !p s).length)), (6, .g (.i x.1))], [], (b, .cells (delI p ss rest x.2 x.1)) :: H⟩,
      fun x => x.1 ≤ ss.length ∧ ((ss.take x.1).filter fun s => !p s).length + x.2.length = x.1 ∧ x.2 ≠ [], fun x => ss.length - x.1, ⟨(k0 + 1, [.i ss[k0]]), ⟨by simp only; omega, ?_, by simp⟩, ?_⟩, ?_⟩
    · simp only
      rw [List.take_succ_eq_append_getElem hk0, List.filter_append, hkeep]
      simp [h2, hk0l]
    · have e1 : ((ss.take (k0 + 1)).filter fun s => !p s).length = k0 := by
        rw [List.take_succ_eq_append_getElem hk0, List.filter_append, hkeep]
        simp [h2, hk0l]
      have e2 : delI p ss rest [.i ss[k0]] (k0 + 1) = ss.map .i ++ rest := by
        have := delI_no (p := p) (ss := ss) (rest := rest) (mid := []) hk0 h2
        rw [List.nil_append] at this
        rw [← this, delI, hkeep, List.nil_append, ← List.append_assoc, ← List.map_append, List.take_append_drop]
      refine ⟨⟨Le.refl _, Le.refl _, Le.refl _, le_of_eq (by show AV.i _ = AV.i _; rw [e1]), Le.refl _, trivial⟩, trivial, sub_eq ?_⟩
      show (b, AObj.cells (delI p ss rest [.i ss[k0]] (k0 + 1))) :: H = _
      rw [e2]
      rfl
    · rintro ⟨j, mid⟩ ⟨hj, hm, hmne⟩
      simp only at hj hm hmne
      refine ifB_dec (fun h => ?_) (fun h => ?_)
      · have hlt : j < ss.length := by omega
        refine ⟨j, rfl, hlt, ?_⟩
        refine ⟨_, List.mem_cons_self, run_cells (f := partR tab 3) (delI_at hlt hm) ?_⟩
        refine ⟨_, LeL.refl _, hg _ (List.getElem_mem hlt) _ _ ?_⟩
        intro hz1 hz2; clear hz1 hz2
        have hfs : ∀ q, p ss[j] = q → (ss.take (j + 1)).filter (fun s => !p s) = (ss.take j).filter (fun s => !p s) ++ (if q = true then [] else [ss[j]]) := fun q hq => by
          rw [List.take_succ_eq_append_getElem hlt, List.filter_append]
          cases q <;> simp [hq]
        cases hh : p ss[j] with
        | true =>
          have e1 := hfs true hh
          rw [if_pos rfl, List.append_nil] at e1
          refine ⟨in64_of (by first | omega | (dsimp only; omega)) (by first | omega | (dsimp only; omega)), ?_⟩
          refine ⟨(j + 1, mid ++ [.i ss[j]]), ⟨by simp only; omega, by simp only; rw [e1, List.length_append]; simp only [List.length_cons, List.length_nil]; omega, by simp⟩, by (try dsimp only); omega, ?_⟩
          refine ⟨⟨Le.refl _, Le.refl _, Le.refl _, le_of_eq (by show AV.i _ = AV.i _; rw [e1]), Le.refl _, trivial⟩, trivial, sub_eq ?_⟩
          show (b, AObj.cells (delI p ss rest (mid ++ [.i ss[j]]) (j + 1))) :: H = (b, AObj.cells (delI p ss rest mid j)) :: H
          rw [← delI_no hlt hh]
        | false =>
          have e1 := hfs false hh
          rw [if_neg (by simp)] at e1
          obtain ⟨m0, mid', rfl⟩ : ∃ m0 mid', mid = m0 :: mid' := by
            cases mid with
            | nil => exact absurd rfl hmne
            | cons a b => exact ⟨a, b, rfl⟩
          rw [List.length_cons] at hm
          refine ⟨((ss.take j).filter fun s => !p s).length, rfl, (by omega), ?_⟩
          have hat : Heap.At b (.cells (delI p ss rest (m0 :: mid') j)) (.cells (putCells (delI p ss rest (m0 :: mid') j) (0 + ((ss.take j).filter fun s => !p s).length * 1) [.i ss[j]])) ((b, .cells (delI p ss rest (m0 :: mid') j)) :: H) ((b, .cells (delI p ss rest (mid' ++ [.i ss[j]]) (j + 1))) :: H) := by
            rw [delI_yes (m0 := m0) (mid := mid') (rest := rest) hlt hh]
            exact .here
          have hroom : 0 + ((ss.take j).filter fun s => !p s).length * 1 + 1 ≤ (delI p ss rest (m0 :: mid') j).length := by
            rw [delI_len, List.length_cons]
            omega
          refine ⟨_, _, hat, hroom, ?_⟩
          refine ⟨in64_of (by first | omega | (dsimp only; omega)) (by first | omega | (dsimp only; omega)), ?_⟩
          refine ⟨in64_of (by first | omega | (dsimp only; omega)) (by first | omega | (dsimp only; omega)), ?_⟩
          refine ⟨(j + 1, mid' ++ [.i ss[j]]), ⟨by simp only; omega, by simp only; rw [e1, List.length_append, List.length_append]; simp only [List.length_cons, List.length_nil]; omega, by simp⟩, by (try dsimp only); omega, ?_⟩
          refine ⟨⟨Le.refl _, Le.refl _, Le.refl _, le_of_eq (by show AV.i _ = AV.i _; rw [e1, List.length_append]; rfl), Le.refl _, trivial⟩, trivial, List.Sublist.refl _⟩
      · have hj' : j = ss.length := by omega
        subst hj'
        have htl : (ss.take ss.length).filter (fun s => !p s) = ss.filter fun s => !p s := by rw [List.take_length]
        have hml : 0 < mid.length := List.length_pos_iff.2 hmne
        have hcell : delI p ss rest mid ss.length = (ss.filter fun s => !p s).map AV.i ++ (mid ++ rest) := by
          rw [delI, htl, List.drop_length]; rfl
        have hkl : ((ss.filter fun s => !p s).map AV.i).length = ((ss.take ss.length).filter fun s => !p s).length := by rw [List.length_map, ← htl]
        have hcut : (if cap = ((ss.take ss.length).filter fun s => !p s).length then 0 else 0 + ((ss.take ss.length).filter fun s => !p s).length * 1) = ((ss.take ss.length).filter fun s => !p s).length := by rw [if_neg (by omega)]; omega
        refine ⟨hle, ((ss.take ss.length).filter fun s => !p s).length, rfl, (by omega), ((ss.take ss.length).filter fun s => !p s).length, hcut, ?_⟩
        refine ⟨rfl, (by omega), _, _, .here, (by rw [hcell, List.length_append, hkl, List.length_append]; omega), ?_⟩
        refine ⟨hle, ((ss.take ss.length).filter fun s => !p s).length, rfl, ⟨by omega, by omega⟩, 0, (by simp), ?_⟩
        refine ⟨hs b ((ss.take ss.length).filter fun s => !p s).length cap, _, Le.refl _, List.Sublist.refl _, b, _, H, intsX (ss.filter fun s => !p s), .here, fun M hM => ?_, hq⟩
        rw [hcell, List.take_left' hkl, List.append_assoc] at hM
        exact hs_ice (xs := (ss.filter fun s => !p s).map .i) (by rw [flat_ints]; exact hM) hkl.symm (by omega) hmax (wide_ints _)
end Go.Proofs.YtaldgcnhmnfocaaGreatDoor

/-
  Stores of versions: what is read. No condition.
-/
namespace Go.Proofs.YtaldgcnhmnfocaaGreatDoor
open Go.RowKit

/-- a store -/
structure Sto where
  bs : Nat
  bm : Nat
  most : Int
  last : Int
  head : Nat
  vs : List Vn
  clk : Nat
def vO (v : Vn) : Nat × AObj := (v.b, .cells [envX v.t v.l, .i (v.pins : Nat)])
def Sto.H (s : Sto) : Heap := (s.bs, .cells [.i s.most, .i s.last, .i (s.head : Nat), .mp s.bm]) :: (s.bm, .mp (vEs s.vs) s.clk) :: s.vs.map vO
/-- what is right in a store -/
structure Sto.Ok (s : Sto) : Prop where
  vs : VsOk s.vs s.clk
  top : ∃ i v, s.vs = i ++ [v] ∧ v.n = s.head
  len : s.vs.length ≤ 100000
  hd : s.head ≤ 2000000
theorem Sto.Ok.le {s : Sto} (h : s.Ok) {v : Vn} (hv : v ∈ s.vs) : v.n ≤ s.head := by
  obtain ⟨i, u, e, hu⟩ := h.top
  have hn := h.vs.ns
  rw [e] at hv hn
  rcases List.mem_append.1 hv with hv | hv
  · have := (List.pairwise_append.1 hn).2.2 v hv u (by simp); omega
  · rw [List.mem_singleton] at hv; subst hv; omega
theorem Sto.Ok.pos {s : Sto} (h : s.Ok) : 0 < s.vs.length := by
  obtain ⟨i, u, e, hu⟩ := h.top
  rw [e]; simp
/-- a store lies beside X -/
def HasSt (s : Sto) (X H : Heap) : Prop := H.Perm (s.H ++ X)
theorem HasSt.st {s : Sto} {X H : Heap} (h : HasSt s X H) : (s.bs, AObj.cells [.i s.most, .i s.last, .i (s.head : Nat), .mp s.bm]) ∈ H := h.mem_iff.2 (by simp [Sto.H])
theorem HasSt.map {s : Sto} {X H : Heap} (h : HasSt s X H) : (s.bm, AObj.mp (vEs s.vs) s.clk) ∈ H := h.mem_iff.2 (by simp [Sto.H])
theorem HasSt.ver {s : Sto} {X H : Heap} (h : HasSt s X H) {v : Vn} (hv : v ∈ s.vs) : (v.b, AObj.cells [envX v.t v.l, .i (v.pins : Nat)]) ∈ H := h.mem_iff.2 (by
  refine List.mem_append_left _ (List.mem_cons_of_mem _ (List.mem_cons_of_mem _ (List.mem_map.2 ⟨v, hv, rfl⟩))))
theorem HasSt.in {s : Sto} {X H : Heap} (h : HasSt s X H) {p : Nat × AObj} (hp : p ∈ X) : p ∈ H := h.mem_iff.2 (List.mem_append_right _ hp)
theorem HasSt.cons {s : Sto} {X H : Heap} (h : HasSt s X H) (p : Nat × AObj) : HasSt s (p :: X) (p :: H) := (List.Perm.cons p h).trans List.perm_middle.symm
/-- the version of a number -/
def vAt (vs : List Vn) (n : Int) : Option Vn := vs.find? fun v => decide (n = (v.n : Int))
theorem vAt_some {vs : List Vn} {n : Int} {v : Vn} (h : vAt vs n = some v) : v ∈ vs ∧ n = (v.n : Int) := ⟨List.mem_of_find?_eq_some h, by simpa using List.find?_some h⟩
theorem vAt_none {vs : List Vn} {n : Int} (h : vAt vs n = none) : ∀ v ∈ vs, n ≠ (v.n : Int) := by
  intro v hv
  have := List.find?_eq_none.1 h v hv
  simpa using this
theorem mpFind_vs (n : Int) : ∀ vs : List Vn, mpFind (.i n) (vEs vs) = (vAt vs n).map fun v => (v.st, .ptr v.b 0)
  | [] => rfl
  | v :: vs => by
    have ih := mpFind_vs n vs
    show (bif keyEq (.i n) (.i (v.n : Nat)) then some (v.st, AV.ptr v.b 0) else mpFind (.i n) (vEs vs)) = _
    rw [ih]
    have e : keyEq (.i n) (.i (v.n : Nat)) = decide (n = (v.n : Int)) := rfl
    rw [e]
    unfold vAt
    rw [List.find?_cons]
    cases decide (n = (v.n : Int)) <;> rfl
theorem keysOk_vs (n : Int) (vs : List Vn) : KeysOk (.int .i64) (.i n) (vEs vs) := by
  refine ⟨rfl, fun p hp => ?_⟩
  obtain ⟨v, _, rfl⟩ := List.mem_map.1 hp
  rfl
theorem vEs_len (vs : List Vn) : (vEs vs).length = vs.length := List.length_map _
section
variable {s : Sto} {X H : Heap}
set_option maxRecDepth 100000 in
theorem verHead_con (h : HasSt s X H) {Q : AV → Heap → Prop} (hq : Q (.i (s.head : Nat)) H) : Con Tryz.prog 25 [.ptr s.bs 0] H Q := by
  refine con_of_awp (esc := fun _ => false) tab_ok mixed Tryz.func25 rfl (ent Tryz.func25 (by kernel_rfl) rfl) (by kernel_rfl) ?_
  intro hw hn
  clear hw hn
  refine ⟨_, h.st, ?_⟩
  exact ⟨_, H, Le.refl _, List.Sublist.refl _, hq⟩
def pinsAt (vs : List Vn) (n : Int) : Nat := match vAt vs n with
  | some v => v.pins
  | none => 0
set_option maxRecDepth 100000 in
theorem verPins_con (h : HasSt s X H) (n : Int) {Q : AV → Heap → Prop} (hq : Q (.i (pinsAt s.vs n : Nat)) H) : Con Tryz.prog 30 [.ptr s.bs 0, .i n] H Q := by
  have hf := mpFind_vs n s.vs
  rw [pinsAt] at hq
  cases hv : vAt s.vs n with
  | none =>
    rw [hv] at hf hq
    refine con_of_awp (esc := fun _ => false) tab_ok mixed Tryz.func30 rfl (ent Tryz.func30 (by kernel_rfl) rfl) (by kernel_rfl) ?_
    intro hw hn
    clear hw hn
    refine ⟨_, h.st, ?_⟩
    refine ⟨vEs s.vs, s.clk, none, rfl, h.map, keysOk_vs n s.vs, hf, ?_⟩
    exact ⟨_, H, Le.refl _, List.Sublist.refl _, hq⟩
  | some v =>
    rw [hv] at hf hq
    refine con_of_awp (esc := fun _ => false) tab_ok mixed Tryz.func30 rfl (ent Tryz.func30 (by kernel_rfl) rfl) (by kernel_rfl) ?_
    intro hw hn
    clear hw hn
    refine ⟨_, h.st, ?_⟩
    refine ⟨vEs s.vs, s.clk, some (v.st, .ptr v.b 0), rfl, h.map, keysOk_vs n s.vs, hf, ?_⟩
    refine ⟨_, h.ver (vAt_some hv).1, ?_⟩
    exact ⟨_, H, Le.refl _, List.Sublist.refl _, hq⟩
set_option maxRecDepth 100000 in
theorem verEnv_con (h : HasSt s X H) (n : Int) {Q : AV → Heap → Prop} (h0 : vAt s.vs n = none → Q (.tup [.v (.pointer none), .b false]) H) (h1 : ∀ v, vAt s.vs n = some v → Q (.tup [envX v.t v.l, .b true]) H) : Con Tryz.prog 32 [.ptr s.bs 0, .i n] H Q := by
  have hf := mpFind_vs n s.vs
  cases hv : vAt s.vs n with
  | none =>
    rw [hv] at hf
    have hq := h0 hv
    refine con_of_awp (esc := fun _ => false) tab_ok mixed Tryz.func32 rfl (ent Tryz.func32 (by kernel_rfl) rfl) (by kernel_rfl) ?_
    intro hw hn
    clear hw hn
    refine ⟨_, h.st, ?_⟩
    refine ⟨vEs s.vs, s.clk, none, rfl, h.map, keysOk_vs n s.vs, hf, ?_⟩
    exact ⟨_, H, Le.refl _, List.Sublist.refl _, hq⟩
  | some v =>
    rw [hv] at hf
    have hq := h1 v hv
    refine con_of_awp (esc := fun _ => false) tab_ok mixed Tryz.func32 rfl (ent Tryz.func32 (by kernel_rfl) rfl) (by kernel_rfl) ?_
    intro hw hn
    clear hw hn
    refine ⟨_, h.st, ?_⟩
    refine ⟨vEs s.vs, s.clk, some (v.st, .ptr v.b 0), rfl, h.map, keysOk_vs n s.vs, hf, ?_⟩
    refine ⟨_, h.ver (vAt_some hv).1, ?_⟩
    exact ⟨_, H, Le.refl _, List.Sublist.refl _, hq⟩
set_option maxRecDepth 100000 in
theorem verLive_con (h : HasSt s X H) (hs : s.Ok) {Q : AV → Heap → Prop} (hq : ∀ m : Mv, MvOk 1 s.vs.length ((vNs s.vs).map .i) H m → Q (mvV 1 m s.vs.length) (mvH m H)) : Con Tryz.prog 28 [.ptr s.bs 0] H Q := by
  have hl := hs.len
  refine con_of_awp (esc := fun _ => false) tab_ok mixed Tryz.func28 rfl (ent Tryz.func28 (by kernel_rfl) rfl) (by kernel_rfl) ?_
  intro hw hn
  clear hw hn
  refine ⟨_, h.st, ?_⟩
  refine ⟨_, LeL.refl _, Keys_con s.bm _ _ ?_⟩
  intro hz1 hz2; clear hz1 hz2
  refine ⟨_, LeL.refl _, SortedI_con hs.vs s.bm (by omega) H h.map _ fun m hm => ?_⟩
  intro hz1 hz2; clear hz1 hz2
  exact ⟨_, _, Le.refl _, List.Sublist.refl _, hq m hm⟩
/-- may there be a version more? -/
def roomS (s : Sto) : Int := if s.last ≤ (s.head : Int) then 25 else if s.most ≤ (s.vs.length : Int) then 24 else 0
set_option maxRecDepth 100000 in
theorem verRoom_con (h : HasSt s X H) {Q : AV → Heap → Prop} (hq : Q (.i (roomS s)) H) : Con Tryz.prog 26 [.ptr s.bs 0] H Q := by
  have hst := h.st
  have hmp := h.map
  have hlen := vEs_len s.vs
  rw [roomS] at hq
  refine con_of_awp (esc := fun _ => false) tab_ok mixed Tryz.func26 rfl (ent Tryz.func26 (by kernel_rfl) rfl) (by kernel_rfl) ?_
  intro hw hn
  clear hw hn
  refine ⟨[0, 1, 2, 3, 4, 5, 6, 7, 8, 9], [(s.bs, .cells [.i s.most, .i s.last, .i (s.head : Nat), .mp s.bm])], by kernel_rfl, pin1 hst, ?_⟩
  refine ⟨_, List.mem_singleton.2 rfl, ?_⟩
  refine ⟨_, List.mem_singleton.2 rfl, ?_⟩
  refine ifB_dec (fun h1 => ?_) (fun h1 => ?_)
  · rw [if_pos (by omega)] at hq
    exact ⟨_, H, Le.refl _, List.Sublist.refl _, hq⟩
  · rw [if_neg (by omega)] at hq
    refine ⟨[0, 1, 2, 3, 5, 6, 7, 8, 4, 9, 10], [(s.bs, .cells [.i s.most, .i s.last, .i (s.head : Nat), .mp s.bm])], by kernel_rfl, pin1 hst, ?_⟩
    refine ⟨_, List.mem_singleton.2 rfl, ?_⟩
    refine ⟨_, List.mem_singleton.2 rfl, ?_⟩
    refine ⟨vEs s.vs, s.clk, hmp, ?_⟩
    refine ⟨pin1 hst, ?_⟩
    refine ifB_dec (fun h2 => ?_) (fun h2 => ?_)
    · rw [if_pos (by omega)] at hq
      exact ⟨_, H, Le.refl _, List.Sublist.refl _, hq⟩
    · rw [if_neg (by omega)] at hq
      exact ⟨_, H, Le.refl _, List.Sublist.refl _, hq⟩
end
end Go.Proofs.YtaldgcnhmnfocaaGreatDoor

/-
  Stores of versions: pins, a version more. No condition.
-/
namespace Go.Proofs.YtaldgcnhmnfocaaGreatDoor
open Go.RowKit

/-! objects in a heap -/
theorem at_perm {b : Nat} {x y : AObj} : ∀ {H R : Heap}, H.Perm ((b, x) :: R) → ∃ H', Heap.At b x y H H' ∧ H'.Perm ((b, y) :: R) := by
  intro H R h
  have hm : (b, x) ∈ H := h.mem_iff.2 List.mem_cons_self
  obtain ⟨A, B, rfl⟩ := List.append_of_mem hm
  have h1 : (A ++ B).Perm R := (List.perm_middle.symm.trans h).cons_inv
  refine ⟨A ++ (b, y) :: B, ?_, List.perm_middle.trans (h1.cons _)⟩
  clear h h1 hm
  induction A with
  | nil => exact .here
  | cons p A ih => exact .there ih
theorem rem_perm {p : Nat × AObj} : ∀ {H R : Heap}, H.Perm (p :: R) → ∃ H', Heap.Rem p H H' ∧ H'.Perm R := by
  intro H R h
  have hm : p ∈ H := h.mem_iff.2 List.mem_cons_self
  obtain ⟨A, B, rfl⟩ := List.append_of_mem hm
  refine ⟨A ++ B, ?_, (List.perm_middle.symm.trans h).cons_inv⟩
  clear h hm
  induction A with
  | nil => exact .here
  | cons p A ih => exact .there ih
/-- other pins -/
def setPins (n : Int) (p : Nat) (vs : List Vn) : List Vn := vs.map fun v => if n = (v.n : Int) then { v with pins := p } else v
theorem setPins_no {n : Int} {p : Nat} {vs : List Vn} (h : ∀ v ∈ vs, n ≠ (v.n : Int)) : setPins n p vs = vs := by
  unfold setPins
  conv => rhs; rw [← List.map_id vs]
  exact List.map_congr_left fun v hv => by rw [if_neg (h v hv)]; rfl
theorem setPins_mid {a b : List Vn} {v : Vn} {clk : Nat} (h : VsOk (a ++ v :: b) clk) (p : Nat) : setPins (v.n : Int) p (a ++ v :: b) = a ++ { v with pins := p } :: b := by
  have hn := List.pairwise_append.1 h.ns
  have hb := List.pairwise_cons.1 hn.2.1
  have e1 := setPins_no (n := (v.n : Int)) (p := p) (vs := a) fun u hu => by have := hn.2.2 u hu v (by simp); omega
  have e2 := setPins_no (n := (v.n : Int)) (p := p) (vs := b) fun u hu => by have := hb.1 u hu; omega
  unfold setPins at *
  rw [List.map_append, List.map_cons, e1, e2, if_pos rfl]
theorem setPins_ns (n : Int) (p : Nat) (vs : List Vn) : (setPins n p vs).map Vn.n = vs.map Vn.n := by
  unfold setPins
  rw [List.map_map]
  exact List.map_congr_left fun v _ => by simp only [Function.comp]; split <;> rfl
theorem setPins_st (n : Int) (p : Nat) (vs : List Vn) : (setPins n p vs).map Vn.st = vs.map Vn.st := by
  unfold setPins
  rw [List.map_map]
  exact List.map_congr_left fun v _ => by simp only [Function.comp]; split <;> rfl
theorem rise_map {vs : List Vn} {f : Vn → Nat} : vs.Pairwise (fun a b => f a < f b) ↔ (vs.map f).Pairwise fun a b => a < b := by rw [List.pairwise_map]
theorem setPins_ok {n : Int} {p : Nat} {vs : List Vn} {clk : Nat} (h : VsOk vs clk) : VsOk (setPins n p vs) clk := by
  refine ⟨rise_map.2 ?_, rise_map.2 ?_, fun v hv => ?_⟩
  · rw [setPins_ns]; exact rise_map.1 h.ns
  · rw [setPins_st]; exact rise_map.1 h.ss
  · have : v.st ∈ (setPins n p vs).map Vn.st := List.mem_map.2 ⟨v, hv, rfl⟩
    rw [setPins_st] at this
    obtain ⟨u, hu, e⟩ := List.mem_map.1 this
    rw [← e]; exact h.lt u hu
def Sto.pins (s : Sto) (n : Int) (p : Nat) : Sto := { s with vs := setPins n p s.vs }
theorem Sto.Ok.pins {s : Sto} (h : s.Ok) (n : Int) (p : Nat) : (s.pins n p).Ok := by
  refine ⟨setPins_ok h.vs, ?_, by show (setPins n p s.vs).length ≤ _; rw [setPins, List.length_map]; exact h.len, h.hd⟩
  obtain ⟨i, v, e, hv⟩ := h.top
  refine ⟨setPins n p i, if n = (v.n : Int) then { v with pins := p } else v, by show setPins n p s.vs = _; rw [e, setPins, setPins, List.map_append]; rfl, by split <;> exact hv⟩
/-- the cell of a version, set apart -/
theorem HasSt.split {s : Sto} {X H : Heap} (h : HasSt s X H) {a b : List Vn} {v : Vn} (e : s.vs = a ++ v :: b) : H.Perm (vO v :: ((s.bs, .cells [.i s.most, .i s.last, .i (s.head : Nat), .mp s.bm]) :: (s.bm, .mp (vEs s.vs) s.clk) :: (a.map vO ++ b.map vO) ++ X)) := by
  refine h.trans ?_
  unfold Sto.H
  rw [show s.vs.map vO = a.map vO ++ vO v :: b.map vO by rw [e, List.map_append]; rfl]
  have p1 : (a.map vO ++ vO v :: b.map vO).Perm (vO v :: (a.map vO ++ b.map vO)) := List.perm_middle
  have p2 := ((p1.cons (s.bm, AObj.mp (vEs s.vs) s.clk)).cons (s.bs, AObj.cells [.i s.most, .i s.last, .i (s.head : Nat), .mp s.bm])).append_right X
  exact p2.trans (List.perm_middle (l₁ := [(s.bs, AObj.cells [.i s.most, .i s.last, .i (s.head : Nat), .mp s.bm]), (s.bm, AObj.mp (vEs s.vs) s.clk)]) (l₂ := (a.map vO ++ b.map vO) ++ X))
theorem HasSt.join {s s' : Sto} {X H : Heap} {a b : List Vn} {v v' : Vn} (e : s.vs = a ++ v :: b) (e' : s' = { s with vs := a ++ v' :: b }) (hst : v'.st = v.st) (hn : v'.n = v.n) (hb : v'.b = v.b) (h : H.Perm (vO v' :: ((s.bs, .cells [.i s.most, .i s.last, .i (s.head : Nat), .mp s.bm]) :: (s.bm, .mp (vEs s.vs) s.clk) :: (a.map vO ++ b.map vO) ++ X))) : HasSt s' X H := by
  subst e'
  have ee : vEs s.vs = vEs (a ++ v' :: b) := by
    rw [e]
    unfold vEs
    rw [List.map_append, List.map_append, List.map_cons, List.map_cons]
    congr 2
    unfold vE
    rw [hst, hn, hb]
  have := HasSt.split (s := { s with vs := a ++ v' :: b }) (X := X) (H := Sto.H { s with vs := a ++ v' :: b } ++ X) (List.Perm.refl _) rfl
  rw [ee] at h
  exact h.trans this.symm
section
variable {s : Sto} {X H : Heap}
set_option maxRecDepth 100000 in
theorem verPin_con (h : HasSt s X H) (hs : s.Ok) (n : Int) (hp : pinsAt s.vs n ≤ 1000000) {Q : AV → Heap → Prop} (h0 : vAt s.vs n = none → Q (.i 13) H) (h1 : vAt s.vs n ≠ none → ∀ H', HasSt (s.pins n (pinsAt s.vs n + 1)) X H' → Q (.i 0) H') : Con Tryz.prog 18 [.ptr s.bs 0, .i n] H Q := by
  have hf := mpFind_vs n s.vs
  cases hv : vAt s.vs n with
  | none =>
    rw [hv] at hf
    have hq := h0 hv
    refine con_of_awp (esc := fun _ => false) tab_ok mixed Tryz.func18 rfl (ent Tryz.func18 (by kernel_rfl) rfl) (by kernel_rfl) ?_
    intro hw hn
    clear hw hn
    refine ⟨_, h.st, ?_⟩
    refine ⟨vEs s.vs, s.clk, none, rfl, h.map, keysOk_vs n s.vs, hf, ?_⟩
    exact ⟨_, H, Le.refl _, List.Sublist.refl _, hq⟩
  | some v =>
    have hvn := vAt_some hv
    obtain ⟨a, b, e⟩ := List.append_of_mem hvn.1
    have hpv : pinsAt s.vs n = v.pins := by rw [pinsAt, hv]
    rw [hpv] at hp h1
    obtain ⟨H', hat, hpm⟩ := at_perm (y := .cells [envX v.t v.l, .i ((v.pins + 1 : Nat) : Int)]) (h.split e)
    have hs' : HasSt (s.pins n (v.pins + 1)) X H' := HasSt.join (v' := { v with pins := v.pins + 1 }) e (by
      unfold Sto.pins
      rw [e, hvn.2, setPins_mid (e ▸ hs.vs)]) rfl rfl rfl hpm
    have hq := h1 (by rw [hv]; simp) H' hs'
    rw [hv] at hf
    refine con_of_awp (esc := fun _ => false) tab_ok mixed Tryz.func18 rfl (ent Tryz.func18 (by kernel_rfl) rfl) (by kernel_rfl) ?_
    intro hw hn
    clear hw hn
    refine ⟨_, h.st, ?_⟩
    refine ⟨vEs s.vs, s.clk, some (v.st, .ptr v.b 0), rfl, h.map, keysOk_vs n s.vs, hf, ?_⟩
    refine ⟨_, h.ver hvn.1, ?_⟩
    refine ⟨in64_of (by first | omega | (dsimp only; omega)) (by first | omega | (dsimp only; omega)), ?_⟩
    refine ⟨_, H', hat, (by show 1 + 1 ≤ 2; omega), ?_⟩
    exact ⟨_, H', Le.refl _, List.Sublist.refl _, hq⟩
set_option maxRecDepth 100000 in
theorem verUnpin_con (h : HasSt s X H) (hs : s.Ok) (n : Int) (hp : pinsAt s.vs n ≤ 1000000) {Q : AV → Heap → Prop} (h0 : pinsAt s.vs n = 0 → Q (.i 13) H) (h1 : pinsAt s.vs n ≠ 0 → ∀ H', HasSt (s.pins n (pinsAt s.vs n - 1)) X H' → Q (.i 0) H') : Con Tryz.prog 20 [.ptr s.bs 0, .i n] H Q := by
  have hf := mpFind_vs n s.vs
  by_cases hz : pinsAt s.vs n = 0
  · have hq := h0 hz
    refine con_of_awp (esc := fun _ => false) tab_ok mixed Tryz.func20 rfl (ent Tryz.func20 (by kernel_rfl) rfl) (by kernel_rfl) ?_
    intro hw hn
    clear hw hn
    refine ⟨_, LeL.refl _, verPins_con h n ?_⟩
    intro hz1 hz2; clear hz1 hz2
    refine ifB_t (show ((pinsAt s.vs n : Nat) : Int) = 0 by omega) ?_
    exact ⟨_, H, Le.refl _, List.Sublist.refl _, hq⟩
  · cases hv : vAt s.vs n with
    | none => exact absurd (by rw [pinsAt, hv]) hz
    | some v =>
      have hvn := vAt_some hv
      obtain ⟨a, b, e⟩ := List.append_of_mem hvn.1
      have hpv : pinsAt s.vs n = v.pins := by rw [pinsAt, hv]
      obtain ⟨H', hat, hpm⟩ := at_perm (y := .cells [envX v.t v.l, .i ((v.pins - 1 : Nat) : Int)]) (h.split e)
      have hs' : HasSt (s.pins n (v.pins - 1)) X H' := HasSt.join (v' := { v with pins := v.pins - 1 }) e (by
        unfold Sto.pins
        rw [e, hvn.2, setPins_mid (e ▸ hs.vs)]) rfl rfl rfl hpm
      rw [hpv] at h1 hz hp
      have hq := h1 hz H' hs'
      rw [hv] at hf
      have hsub : (v.pins : Int) - 1 = ((v.pins - 1 : Nat) : Int) := by omega
      have hat' : Heap.At v.b (.cells [envX v.t v.l, .i (v.pins : Nat)]) (.cells [envX v.t v.l, .i ((v.pins : Int) - 1)]) H H' := by rw [hsub]; exact hat
      refine con_of_awp (esc := fun _ => false) tab_ok mixed Tryz.func20 rfl (ent Tryz.func20 (by kernel_rfl) rfl) (by kernel_rfl) ?_
      intro hw hn
      clear hw hn
      refine ⟨_, LeL.refl _, verPins_con h n ?_⟩
      intro hz1 hz2; clear hz1 hz2
      refine ifB_f (show ¬ ((pinsAt s.vs n : Nat) : Int) = 0 by omega) ?_
      refine ⟨_, h.st, ?_⟩
      refine ⟨vEs s.vs, s.clk, some (v.st, .ptr v.b 0), rfl, h.map, keysOk_vs n s.vs, hf, ?_⟩
      refine ⟨_, h.ver hvn.1, ?_⟩
      refine ⟨in64_of (by first | omega | (dsimp only; omega)) (by first | omega | (dsimp only; omega)), ?_⟩
      refine ⟨_, H', hat', (by show 1 + 1 ≤ 2; omega), ?_⟩
      exact ⟨_, H', Le.refl _, List.Sublist.refl _, hq⟩
end
end Go.Proofs.YtaldgcnhmnfocaaGreatDoor
