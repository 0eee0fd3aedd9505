/-
  Texts put together: Base, Draw, Draw2. No condition.
-/
import Derived.Test.YtaldgcnhmnfocaaDoorProg
import Derived.WalkKit
import Derived.ProofKit
import Derived.Lib.Hide
import Derived.Great.BuildSlice
import Derived.WalkSpells
import Derived.WalkLawsBesides
import Derived.BigQuiet
import Derived.Deep.QuietTactic
import Derived.Laws.BytesArg
import Derived.StillTail
/-
  Base laws of the walks: slices that are read, slices that are owned, append from whatever source. No condition.
-/
namespace Go.Proofs.YtaldgcnhmnfocaaDoor
open Go.RowKit

def rd (B : Nat) (w : World) (s : Nat) (v : Value) (n : Nat) (xs : List Value) : Prop :=
  xs.length = n * s ∧ ∃ a cap, v = .slice a n cap ∧ n ≤ cap ∧ cap ≤ maxLen ∧ (a = none → cap = 0) ∧
    (0 < n → ∃ b off, a = some ⟨b, off, none⟩ ∧ b < B ∧ ∀ j u, xs[j]? = some u → w.cell? ⟨b, off + j, none⟩ = some u)

theorem rd.mono {B B' : Nat} {w : World} {s : Nat} {v : Value} {n : Nat} {xs : List Value} (h : rd B w s v n xs) (hB : B ≤ B') : rd B' w s v n xs := by
  obtain ⟨h0, a, cap, h1, h2, h3, h4, h5⟩ := h
  refine ⟨h0, a, cap, h1, h2, h3, h4, fun hn => ?_⟩
  obtain ⟨b, off, e1, e2, e3⟩ := h5 hn
  exact ⟨b, off, e1, by omega, e3⟩

theorem rd.below {B : Nat} {w w' : World} {s : Nat} {v : Value} {n : Nat} {xs : List Value} (h : rd B w s v n xs) (hb : Below B w w') : rd B w' s v n xs := by
  obtain ⟨h0, a, cap, h1, h2, h3, h4, h5⟩ := h
  refine ⟨h0, a, cap, h1, h2, h3, h4, fun hn => ?_⟩
  obtain ⟨b, off, e1, e2, e3⟩ := h5 hn
  exact ⟨b, off, e1, e2, fun j u hj => (hb.cell (p := ⟨b, off + j, none⟩) e2).trans (e3 j u hj)⟩

theorem rd.real {B : Nat} {w : World} {s : Nat} {v : Value} {n : Nat} {xs : List Value} (h : rd B w s v n xs) (hs : 0 < s) : rd w.heap.size w s v n xs := by
  obtain ⟨h0, a, cap, h1, h2, h3, h4, h5⟩ := h
  refine ⟨h0, a, cap, h1, h2, h3, h4, fun hn => ?_⟩
  obtain ⟨b, off, e1, e2, e3⟩ := h5 hn
  have hl : 0 < xs.length := by rw [h0]; exact Nat.mul_pos hn hs
  exact ⟨b, off, e1, World.block_lt_of_cell? w _ (e3 0 xs[0] (by simp [hl])), e3⟩

theorem rd.alloc {B : Nat} {w : World} {s : Nat} {v : Value} {n : Nat} {xs : List Value} (h : rd B w s v n xs) (hs : 0 < s) (o : Obj) : rd w.heap.size (w.alloc o) s v n xs :=
  (h.real hs).below ((Below.refl _ _).alloc (Nat.le_refl _) _)

theorem rd.len {B : Nat} {w : World} {s : Nat} {v : Value} {n : Nat} {xs : List Value} (h : rd B w s v n xs) : n ≤ maxLen := by
  obtain ⟨h0, a, cap, h1, h2, h3, h4, h5⟩ := h
  exact Nat.le_trans h2 h3

theorem rd.nil (B : Nat) (w : World) (s : Nat) : rd B w s (.slice none 0 0) 0 [] :=
  ⟨by simp, none, 0, rfl, Nat.le_refl _, Nat.zero_le _, fun _ => rfl, fun h => absurd h (by omega)⟩

theorem rd.of_own {base e s : Nat} {w : World} {v : Value} {n : Nat} {xs : List Value} (h : w.ownsRow base e s v n xs) : rd w.heap.size w s v n xs := by
  obtain ⟨h0, ⟨rfl, rfl⟩ | ⟨g, cap, cur, rfl, hb, hg, hn, hc, hs, ht⟩⟩ := h
  · have : xs = [] := List.eq_nil_of_length_eq_zero (by simpa using h0)
    subst this
    exact rd.nil _ _ _
  · refine ⟨h0, some ⟨g, 0, none⟩, cap, rfl, hn, hc, (fun e => by cases e), fun _ => ⟨g, 0, rfl, (Array.getElem?_eq_some_iff.1 hg).1, fun j u hj => ?_⟩⟩
    rw [Nat.zero_add, cell_of_row w g j cur e (0, 0) hg]
    rw [← ht, List.getElem?_take] at hj
    split at hj
    · simpa using hj
    · cases hj

theorem rd.sliced {B : Nat} {w : World} {s : Nat} {a : Option Addr} {n cap : Nat} {xs : List Value} (h : rd B w s (.slice a n cap) n xs) (l hi : Nat) (hl : l ≤ hi) (hh : hi ≤ n) :
    rd B w s (.slice (if cap = l then a else a.map (·.add (l * s))) (hi - l) (cap - l)) (hi - l) ((xs.drop (l * s)).take ((hi - l) * s)) := by
  obtain ⟨h0, a', cap', h1, h2, h3, h4, h5⟩ := h
  simp only [Value.slice.injEq] at h1
  obtain ⟨rfl, _, rfl⟩ := h1
  have e1 : hi * s ≤ n * s := Nat.mul_le_mul_right s hh
  have e2 : l * s + (hi - l) * s = hi * s := by rw [← Nat.add_mul]; congr 1; omega
  refine ⟨?_, _, _, rfl, by omega, by omega, ?_, ?_⟩
  · rw [List.length_take, List.length_drop, h0]; omega
  · intro ha
    split at ha
    · omega
    · rw [Option.map_eq_none_iff] at ha; have := h4 ha; omega
  · intro hpos
    obtain ⟨b, off, rfl, hb, hc⟩ := h5 (by omega)
    rw [if_neg (by omega)]
    refine ⟨b, off + l * s, ?_, hb, ?_⟩
    · simp only [Option.map_some, Addr.add_lit]
    · intro j u hj
      rw [List.getElem?_take] at hj
      split at hj
      · rw [List.getElem?_drop] at hj
        have := hc _ _ hj
        rwa [← Nat.add_assoc] at this
      · cases hj

/-- append from whatever source -/
theorem run_append_src {P : Program} (w : World) (base : Nat) (t u ty e : TypeId) (i : TypeInfo) (z : Value) (size bytes : Nat) (ht : P.underlying t = some (.slice e))
    (d : TypeDesc) (hu : P.underlying u = some d) (hd : (∃ e', d = .slice e') ∨ d = .string) (hi : P.info? e = some i) (hz : i.zero = some z)
    (hsize : i.size = size) (hby : i.bytes = bytes) (hzs : z.cells.size = size)
    (v : Value) (n : Nat) (xs : List Value) (hown : w.ownsRow base e size v n xs)
    (x : Value) (m : Nat) (news : List Value) (hl : news.length = m * size) (hlen : ∀ w1, (Builtin.lenOf x).run P w1 = .ok m w1)
    (hfirst : ∀ w1, w1.heap = w.heap → (Builtin.firstCells size m x).run P w1 = .ok news.toArray w1) (h1 : ∀ u ∈ news, u.oneCell' = true)
    (h63 : n + m ≤ maxLen) (hbytes : (n + m) * bytes ≤ 140737488355328) (hbase : base ≤ w.heap.size) :
    ∃ v' w', (Builtin.append_ #[t, u] ty #[v, x]).run P w = .ok v' w' ∧ w'.ownsRow base e size v' (n + m) (xs ++ news) ∧ w.grownBy w' v.ownBlock ∧
      (v'.ownBlock = v.ownBlock ∨ v'.ownBlock = some w.heap.size) := by
  subst hsize
  subst hby
  have hsmall : n + m ≤ 9223372036854775807 := by simp only [maxLen] at h63; omega
  have hlen2 : (xs ++ news).length = (n + m) * i.size := by rw [List.length_append, hown.1, hl, Nat.add_mul]
  have grown : ∀ (old : Nat), old < n + m → ∀ (row : Option Nat),
      (w.drew.alloc (.cells (xs.toArray ++ news.toArray ++ Builtin.zeroCells z.cells (grownCap w (n + m) old e - (n + m))) e)).ownsRow base e i.size
        (.slice (some ⟨w.heap.size, 0, none⟩) (n + m) (grownCap w (n + m) old e)) (n + m) (xs ++ news) ∧
      w.grownBy (w.drew.alloc (.cells (xs.toArray ++ news.toArray ++ Builtin.zeroCells z.cells (grownCap w (n + m) old e - (n + m))) e)) row := by
    intro old ho row
    have hge := grownCap_ge w (n + m) old e
    have hcm : grownCap w (n + m) old e ≤ maxLen := grownCap_le_maxLen w (n + m) old e h63
    refine ⟨⟨hlen2, .inr ⟨w.heap.size, _, _, rfl, hbase, heap_alloc_new w.drew _, hge, hcm, ?_, ?_⟩⟩, ⟨rfl, rfl, rfl, by simp, fun k hk _ => heap_alloc_old w.drew _ hk⟩⟩
    · simp only [Array.size_append, List.size_toArray, size_zeroCells, hzs, hown.1, hl, ← Nat.add_mul]
      congr 1
      omega
    · simp only [Array.toList_append, List.append_assoc]
      rw [← List.append_assoc, ← hlen2]
      exact List.take_left
  have hfd := hfirst w.drew rfl
  have hf0 := hfirst w rfl
  have h63' : ¬ (9223372036854775807 < ((n : Int) + (m : Int))) := by omega
  rcases hown.2 with ⟨rfl, rfl⟩ | ⟨g, cap, cur, rfl, hbg, hg, hnc, hcm, hcs, htake⟩
  · have hx : xs = [] := List.eq_nil_of_length_eq_zero (by simpa using hown.1)
    subst hx
    by_cases hm : m = 0
    · subst hm
      have hn : news = [] := List.eq_nil_of_length_eq_zero (by simpa using hl)
      subst hn
      refine ⟨.slice none 0 0, w, ?_, World.ownsRow_nil w base e i.size, ⟨rfl, rfl, rfl, Nat.le_refl _, fun _ _ _ => rfl⟩, Or.inl rfl⟩
      rcases hd with ⟨e', rfl⟩ | rfl <;> simp [Builtin.append_, run_underlying ht, run_underlying hu, sizeOf, typeInfo, hi, hlen, hf0]
    · have hgr := grown 0 (by omega) (Value.ownBlock (.slice none 0 0))
      have h48' : ¬ (281474976710656 < Builtin.nextslicecap m 0 * i.bytes) := by
        have := growslice_fits (need := m) (old := 0) (bytes := i.bytes) (by omega) (by simpa using hbytes)
        omega
      have h63'' : ¬ (9223372036854775807 < (m : Int)) := by omega
      refine ⟨_, _, ?_, hgr.1, hgr.2, Or.inr rfl⟩
      rcases hd with ⟨e', rfl⟩ | rfl <;> simp [Builtin.append_, run_underlying ht, run_underlying hu, sizeOf, typeInfo, zeroValue, hi, hz, hlen, hm, h63'', h48', Question.forced, run_firstCells_none, hfd, newRow, grownCap]
  · by_cases hroom : n + m ≤ cap
    · have hfit : n * i.size + news.length ≤ cur.size := by rw [hl, hcs, ← Nat.add_mul]; exact Nat.mul_le_mul_right _ hroom
      have hst := run_storeCells_at P g (n * i.size) e news 0 cur w hg (by simpa using hfit) h1
      simp only [Nat.add_zero] at hst
      refine ⟨_, w.setRow g (cur.toList.take (n * i.size) ++ news ++ cur.toList.drop (n * i.size + news.length)).toArray, ?_, ⟨hlen2, .inr ⟨g, cap, _, rfl, hbg, setRow_heap w g cur _ e _ hg, hroom, hcm, ?_, ?_⟩⟩, ⟨rfl, rfl, rfl, by simp, fun k _ hk => setRow_other w g k _ (fun e => hk (by simp [Value.ownBlock, e]))⟩, Or.inl rfl⟩
      · rcases hd with ⟨e', rfl⟩ | rfl <;> simp [Builtin.append_, run_underlying ht, run_underlying hu, sizeOf, typeInfo, hi, hlen, hroom, hf0, Addr.add_lit, hst]
      · simp only [List.size_toArray, List.length_append, List.length_take, List.length_drop, Array.length_toList]
        omega
      · rw [htake, ← hlen2]
        exact List.take_left
    · have holds : ∀ j u, xs[j]? = some u → w.cell? ((⟨g, 0, none⟩ : Addr).add j) = some u := hown.cells (g := g) rfl
      have hgr := grown cap (by omega) (Value.ownBlock (.slice (some ⟨g, 0, none⟩) n cap))
      have hfit := growslice_fits (need := n + m) (old := cap) (bytes := i.bytes) (by omega) hbytes
      have h48' : ¬ (281474976710656 < Builtin.nextslicecap (n + m) cap * i.bytes) := by omega
      have hfo := run_firstCells_some (P := P) w.drew i.size n ⟨g, 0, none⟩ n cap xs hown.1 (by simpa using holds)
      refine ⟨_, _, ?_, hgr.1, hgr.2, Or.inr rfl⟩
      rcases hd with ⟨e', rfl⟩ | rfl <;> (simp [Builtin.append_, run_underlying ht, run_underlying hu, sizeOf, typeInfo, zeroValue, hi, hz, hlen, hroom, h63', h48', Question.forced, hfd, hfo, newRow, grownCap]; congr 2; apply Array.ext'; simp [List.append_assoc])
/-- a slice type's element row -/
def ElemT (P : Program) (t e size bytes : Nat) : Prop :=
  P.underlying t = some (.slice e) ∧ (∃ i z, P.info? e = some i ∧ i.zero = some z ∧ i.size = size ∧ i.bytes = bytes ∧ z.cells.size = size) ∧ 0 < size

theorem ElemT.mk' {P : Program} {t e size bytes : Nat} {z : Value} (h : P.underlying t = some (.slice e)) (h2 : (P.info? e).map (fun i => (i.zero, i.size, i.bytes)) = some (some z, size, bytes)) (hz : z.cells.size = size) (hp : 0 < size) : ElemT P t e size bytes := by
  obtain ⟨i, hi, h3, h4, h5⟩ := info_parts h2
  exact ⟨h, ⟨i, z, hi, h3, h4, h5, hz⟩, hp⟩

/-- what an append, or several, to an owned row leave -/
structure App (w w' : World) (base e s : Nat) (v v' : Value) (n : Nat) (xs : List Value) : Prop where
  own : w'.ownsRow base e s v' n xs
  grown : w.grownBy w' v.ownBlock
  place : v'.ownBlock = v.ownBlock ∨ ∃ k, v'.ownBlock = some k ∧ w.heap.size ≤ k

theorem App.refl {w : World} {base e s : Nat} {v : Value} {n : Nat} {xs : List Value} (h : w.ownsRow base e s v n xs) : App w w base e s v v n xs :=
  ⟨h, World.grownBy.refl _ _, Or.inl rfl⟩

theorem App.trans {w w1 w2 : World} {base e s : Nat} {v v1 v2 : Value} {n m : Nat} {xs ys : List Value} (h : App w w1 base e s v v1 n xs) (k : App w1 w2 base e s v1 v2 m ys) : App w w2 base e s v v2 m ys := by
  refine ⟨k.own, ⟨k.grown.os.trans h.grown.os, k.grown.tape.trans h.grown.tape, k.grown.output.trans h.grown.output, Nat.le_trans h.grown.size k.grown.size, fun i hi hne => ?_⟩, ?_⟩
  · rw [k.grown.block i (Nat.lt_of_lt_of_le hi h.grown.size) ?_, h.grown.block i hi hne]
    rcases h.place with e1 | ⟨k1, e1, hk⟩
    · rw [e1]; exact hne
    · rw [e1]; intro hc; cases hc; omega
  · have hs := h.grown.size
    rcases k.place with e1 | ⟨k1, e1, hk⟩
    · rcases h.place with e2 | ⟨k2, e2, hk2⟩
      · exact Or.inl (e1.trans e2)
      · exact Or.inr ⟨k2, e1.trans e2, hk2⟩
    · exact Or.inr ⟨k1, e1, by omega⟩

theorem App.below {w w' : World} {base e s B : Nat} {v v' : Value} {n m : Nat} {xs ys : List Value} (h : App w w' base e s v v' m ys) (ho : w.ownsRow base e s v n xs) (hb : B ≤ base) (hs : B ≤ w.heap.size) : Below B w w' :=
  (Below.refl B w).grown h.grown hs fun k hk => Nat.le_trans hb (ho.lt k hk).1

theorem App.alloc {w w' : World} {base e s : Nat} {v v' : Value} {n : Nat} {xs : List Value} (o : Obj) (k : App (w.alloc o) w' base e s v v' n xs) : App w w' base e s v v' n xs := by
  refine ⟨k.own, ⟨k.grown.os, k.grown.tape, k.grown.output, ?_, fun i hi hne => ?_⟩, ?_⟩
  · have := k.grown.size; simp at this; omega
  · rw [k.grown.block i (by simp; omega) hne]; exact heap_alloc_old w _ hi
  · rcases k.place with e1 | ⟨k1, e1, hk⟩
    · exact Or.inl e1
    · exact Or.inr ⟨k1, e1, by simp at hk; omega⟩

section
variable {P : Program} {w : World} {ops : Array Oper} {rest : List Oper} {o : Oper} {a : Act} {Q : Exit → Act → World → Prop}

theorem run_app_rd {base t ty e size bytes : Nat} (hE : ElemT P t e size bytes) {v : Value} {n : Nat} {xs : List Value} (hown : w.ownsRow base e size v n xs)
    {B : Nat} {x : Value} {m : Nat} {news : List Value} (hrd : rd B w size x m news) (h1 : ∀ u ∈ news, u.oneCell' = true)
    (h63 : n + m ≤ maxLen) (hbytes : (n + m) * bytes ≤ 140737488355328) (hbase : base ≤ w.heap.size) :
    ∃ v' w', (Builtin.append_ #[t, t] ty #[v, x]).run P w = .ok v' w' ∧ App w w' base e size v v' (n + m) (xs ++ news) := by
  obtain ⟨hu, ⟨i, z, hi, hz, hs, hby, hzs⟩, hp⟩ := hE
  obtain ⟨h0, a', cap', rfl, h2, h3, h4, h5⟩ := hrd
  have hfirst : ∀ w1 : World, w1.heap = w.heap → (Builtin.firstCells size m (.slice a' m cap')).run P w1 = .ok news.toArray w1 := by
    intro w1 hw1
    cases a' with
    | none =>
      have : m = 0 := by have := h4 rfl; omega
      subst this
      have : news = [] := List.eq_nil_of_length_eq_zero (by simpa using h0)
      subst this
      exact run_firstCells_none w1 _ _ _ _
    | some ad =>
      refine run_firstCells_some (P := P) w1 size m ad m cap' news h0 fun j u hj => ?_
      by_cases hm : 0 < m
      · obtain ⟨b, off, e1, e2, e3⟩ := h5 hm
        obtain rfl := Option.some.inj e1
        rw [Addr.add_lit]
        have := e3 j u hj
        simpa [World.cell?, hw1] using this
      · have : m = 0 := by omega
        subst this
        have : news = [] := List.eq_nil_of_length_eq_zero (by simpa using h0)
        subst this
        simp at hj
  obtain ⟨v', w', r1, r2, r3, r4⟩ := run_append_src (P := P) w base t t ty e i z size bytes hu _ hu (Or.inl ⟨e, rfl⟩) hi hz hs hby hzs v n xs hown (.slice a' m cap') m news h0
    (fun _ => by simp [Builtin.lenOf]) hfirst h1 h63 hbytes hbase
  exact ⟨v', w', r1, r2, r3, r4.imp id fun h => ⟨_, h, Nat.le_refl _⟩⟩

/-- append(s, x...), s owned, x readable -/
theorem wpList_app (hgd : Region.wanted o (yielded ops a.tmps) = true) (s x : Operand) (t : TypeId) (ho : o.op = .call { callee := .builtin .append, args := #[s, x], argTypes := #[t, t] })
    {base e size bytes : Nat} (hE : ElemT P t e size bytes) {v : Value} {n : Nat} {xs : List Value} (hs : a.eval s = v) (hown : w.ownsRow base e size v n xs)
    {B : Nat} {u : Value} {m : Nat} {news : List Value} (hx : a.eval x = u) (hrd : rd B w size u m news) (h1 : ∀ u ∈ news, u.oneCell' = true)
    (h63 : n + m ≤ maxLen) (hbytes : (n + m) * bytes ≤ 140737488355328) (hbase : base ≤ w.heap.size)
    (h : ∀ v' w', App w w' base e size v v' (n + m) (xs ++ news) → wpList P ops Q rest (a.put o.dst v') w') : wpList P ops Q (o :: rest) a w := by
  obtain ⟨v', w', hr, h2⟩ := run_app_rd (ty := o.type) hE hown hrd h1 h63 hbytes hbase
  refine BigFrame.wpList_want hgd fun K hK => ?_
  unfold Oper.wp execOp
  simp only [ho, resolve, invoke, builtin, Sem.run_bind, Sem.run_pure, Result.andThen_ok, List.map_toArray, List.map_cons, List.map_nil, hs, hx, hr]
  exact hK _ _ (h v' w' h2)

theorem run_app_str {base t u ty e bytes : Nat} (hE : ElemT P t e 1 bytes) (hu : P.underlying u = some .string) {v : Value} {n : Nat} {xs : List Value} (hown : w.ownsRow base e 1 v n xs)
    (s : ByteArray) (h63 : n + s.size ≤ maxLen) (hbytes : (n + s.size) * bytes ≤ 140737488355328) (hbase : base ≤ w.heap.size) :
    ∃ v' w', (Builtin.append_ #[t, u] ty #[v, .string s]).run P w = .ok v' w' ∧ App w w' base e 1 v v' (n + s.size) (xs ++ s.data.toList.map fun b => Value.int .u8 b.toNat) := by
  obtain ⟨ht, ⟨i, z, hi, hz, hs, hby, hzs⟩, hp⟩ := hE
  obtain ⟨v', w', r1, r2, r3, r4⟩ := run_append_src (P := P) w base t u ty e i z 1 bytes ht _ hu (Or.inr rfl) hi hz hs hby hzs v n xs hown (.string s) s.size (s.data.toList.map fun b => Value.int .u8 b.toNat) (by simp)
    (fun _ => by simp [Builtin.lenOf]) (fun w1 _ => by
      have e1 : s.extract 0 s.size = s := by simp
      simp [Builtin.firstCells, e1]
      apply Array.ext'
      simp) (by intro u hu; obtain ⟨_, _, rfl⟩ := List.mem_map.1 hu; rfl) h63 hbytes hbase
  exact ⟨v', w', r1, r2, r3, r4.imp id fun h => ⟨_, h, Nat.le_refl _⟩⟩

/-- append(b, s...), s a string -/
theorem wpList_appStr (hgd : Region.wanted o (yielded ops a.tmps) = true) (s x : Operand) (t tu : TypeId) (ho : o.op = .call { callee := .builtin .append, args := #[s, x], argTypes := #[t, tu] })
    {base e bytes : Nat} (hE : ElemT P t e 1 bytes) (hu : P.underlying tu = some .string) {v : Value} {n : Nat} {xs : List Value} (hs : a.eval s = v) (hown : w.ownsRow base e 1 v n xs)
    (str : ByteArray) (hx : a.eval x = .string str)
    (h63 : n + str.size ≤ maxLen) (hbytes : (n + str.size) * bytes ≤ 140737488355328) (hbase : base ≤ w.heap.size)
    (h : ∀ v' w', App w w' base e 1 v v' (n + str.size) (xs ++ str.data.toList.map fun b => Value.int .u8 b.toNat) → wpList P ops Q rest (a.put o.dst v') w') : wpList P ops Q (o :: rest) a w := by
  obtain ⟨v', w', hr, h2⟩ := run_app_str (P := P) (ty := o.type) hE hu hown str h63 hbytes hbase
  refine BigFrame.wpList_want hgd fun K hK => ?_
  unfold Oper.wp execOp
  simp only [ho, resolve, invoke, builtin, Sem.run_bind, Sem.run_pure, Result.andThen_ok, List.map_toArray, List.map_cons, List.map_nil, hs, hx, hr]
  exact hK _ _ (h v' w' h2)

theorem rd.lit (w : World) (cs : List Value) (e s n : Nat) (hl : cs.length = n * s) (hn : n ≤ maxLen) : rd (w.heap.size + 1) (w.alloc (.cells cs.toArray e)) s (.slice (some ⟨w.heap.size, 0, none⟩) n n) n cs := by
  refine ⟨hl, some ⟨w.heap.size, 0, none⟩, n, rfl, Nat.le_refl _, hn, (fun e => by cases e), fun _ => ⟨w.heap.size, 0, rfl, by omega, fun j u hj => ?_⟩⟩
  rw [World.cell?_alloc_at _ _ _ _ rfl]
  simpa using hj

theorem own.lit (w : World) (cs : List Value) (e s n base : Nat) (hl : cs.length = n * s) (hn : n ≤ maxLen) (hb : base ≤ w.heap.size) : (w.alloc (.cells cs.toArray e)).ownsRow base e s (.slice (some ⟨w.heap.size, 0, none⟩) n n) n cs :=
  ⟨hl, .inr ⟨w.heap.size, n, cs.toArray, rfl, hb, heap_alloc_new w _, Nat.le_refl _, hn, by simpa using hl, by rw [← hl]; simp⟩⟩

theorem run_lit {t e s bytes : Nat} (hE : ElemT P t e s bytes) (vs : List Value) (hv : ∀ v ∈ vs, v.cells.size = s) (hn : vs ≠ []) (hs : vs.length * s ≤ 16777216) :
    (Instr.buildSlice t vs.length ((vs.zipIdx 0).map fun x => (x.2, x.1)).toArray).run P w = .ok (.slice (some ⟨w.heap.size, 0, none⟩) vs.length vs.length) (w.alloc (.cells (vs.flatMap fun v => v.cells.toList).toArray e)) := by
  obtain ⟨ht, ⟨i, z, hi, hz, rfl, hby, hzs⟩, hp⟩ := hE
  have hpos : 0 < vs.length := by cases vs with | nil => exact absurd rfl hn | cons x l => simp
  refine run_buildSlice w t e _ _ _ i z ht hi hz (by omega) (by have := Nat.mul_pos hpos hp; omega) ?_
  exact Go.Great.fill_whole hp vs _ hv (by simp)

/-- a slice literal -/
theorem wpList_lit (hgd : Region.wanted o (yielded ops a.tmps) = true) (t : TypeId) (xs : List Operand) (ho : o.op = .buildSlice t xs.length ((xs.zipIdx 0).map fun x => (x.2, x.1)).toArray)
    {e s bytes : Nat} (hE : ElemT P t e s bytes) (hv : ∀ x ∈ xs, (a.eval x).cells.size = s) (hn : xs ≠ []) (hs : xs.length * s ≤ 16777216)
    (h : wpList P ops Q rest (a.put o.dst (.slice (some ⟨w.heap.size, 0, none⟩) xs.length xs.length)) (w.alloc (.cells (xs.flatMap fun x => (a.eval x).cells.toList).toArray e))) : wpList P ops Q (o :: rest) a w := by
  have hr := run_lit (P := P) (w := w) hE (xs.map a.eval) (by intro v hv'; obtain ⟨x, hx, rfl⟩ := List.mem_map.1 hv'; exact hv x hx) (by simpa using hn) (by simpa using hs)
  refine BigFrame.wpList_want hgd fun K hK => ?_
  have e1 : ((xs.zipIdx 0).map fun x => (x.2, x.1)).toArray.map (fun (i, x) => (i, a.eval x)) = (((xs.map a.eval).zipIdx 0).map fun x => (x.2, x.1)).toArray := by
    simp [List.zipIdx_map, Function.comp_def]
  simp only [List.length_map, List.flatMap_map] at hr
  unfold Oper.wp execOp
  simp only [ho, Sem.run_bind, e1, hr, Result.andThen_ok]
  exact hK _ _ h

/-- append(s, y): one element, of however many cells -/
theorem wpList_app1 {o2 : Oper} (hgd : Region.wanted o (yielded ops a.tmps) = true) (hgd2 : Region.wanted o2 (yielded ops (a.put o.dst (.slice (some ⟨w.heap.size, 0, none⟩) 1 1)).tmps) = true) (s y : Operand) (t : TypeId) (d1 : Tmp) (ho : o.op = .buildSlice t 1 #[(0, y)]) (hd : o.dst = some d1)
    (ho2 : o2.op = .call { callee := .builtin .append, args := #[s, .tmp d1], argTypes := #[t, t] }) (hd1 : Nat.blt d1 a.tmps.size = true)
    {base e size bytes : Nat} (hE : ElemT P t e size bytes) {v : Value} {n : Nat} {xs : List Value} (hs : (a.put (some d1) (.slice (some ⟨w.heap.size, 0, none⟩) 1 1)).eval s = v) (hown : w.ownsRow base e size v n xs)
    {u : Value} (hx : a.eval y = u) (hu : u.cells.size = size) (h1 : ∀ x ∈ u.cells.toList, x.oneCell' = true) (hsz : size ≤ 16777216)
    (h63 : n + 1 ≤ maxLen) (hbytes : (n + 1) * bytes ≤ 140737488355328) (hbase : base ≤ w.heap.size)
    (h : ∀ v' w', App w w' base e size v v' (n + 1) (xs ++ u.cells.toList) → wpList P ops Q rest ((a.put o.dst (.slice (some ⟨w.heap.size, 0, none⟩) 1 1)).put o2.dst v') w') : wpList P ops Q (o :: o2 :: rest) a w := by
  refine wpList_lit hgd t [y] (by simpa using ho) hE (by intro x hx'; simp at hx'; subst hx'; rw [hx]; exact hu) (by simp) (by simpa using hsz) ?_
  simp only [List.flatMap_cons, List.flatMap_nil, List.append_nil, hx, Array.toArray_toList, List.length_singleton]
  have hl := rd.lit w u.cells.toList e size 1 (by simpa using hu) (by simp only [maxLen]; omega)
  rw [Array.toArray_toList] at hl
  have ho1 : (w.alloc (.cells u.cells e)).ownsRow base e size v n xs := hown.alloc _
  refine wpList_app (o := o2) hgd2 s (.tmp d1) t ho2 hE (v := v) (by rw [hd]; exact hs) ho1 (u := .slice (some ⟨w.heap.size, 0, none⟩) 1 1) ?_ hl h1 h63 hbytes (by simp; omega) fun v' w' hA => h v' w' (App.alloc _ hA)
  rw [hd]
  have hd1' : d1 < a.tmps.size := by simpa using hd1
  simp [Act.put, Act.eval, hd1']

/-- the same where an element is one cell -/
theorem wpList_app1c {o2 : Oper} (hgd : Region.wanted o (yielded ops a.tmps) = true) (hgd2 : Region.wanted o2 (yielded ops (a.put o.dst (.slice (some ⟨w.heap.size, 0, none⟩) 1 1)).tmps) = true) (s y : Operand) (t : TypeId) (d1 : Tmp) (ho : o.op = .buildSlice t 1 #[(0, y)]) (hd : o.dst = some d1)
    (ho2 : o2.op = .call { callee := .builtin .append, args := #[s, .tmp d1], argTypes := #[t, t] }) (hd1 : Nat.blt d1 a.tmps.size = true)
    {base e bytes : Nat} (hE : ElemT P t e 1 bytes) {v : Value} {n : Nat} {xs : List Value} (hs : (a.put (some d1) (.slice (some ⟨w.heap.size, 0, none⟩) 1 1)).eval s = v) (hown : w.ownsRow base e 1 v n xs)
    (u : Value) (hx : a.eval y = u) (hu : u.cells = #[u]) (h1 : u.oneCell' = true)
    (h63 : n + 1 ≤ maxLen) (hbytes : (n + 1) * bytes ≤ 140737488355328) (hbase : base ≤ w.heap.size)
    (h : ∀ v' w', App w w' base e 1 v v' (n + 1) (xs ++ [u]) → wpList P ops Q rest ((a.put o.dst (.slice (some ⟨w.heap.size, 0, none⟩) 1 1)).put o2.dst v') w') : wpList P ops Q (o :: o2 :: rest) a w :=
  wpList_app1 hgd hgd2 s y t d1 ho hd ho2 hd1 hE hs hown hx (by rw [hu]; rfl) (by rw [hu]; intro x hx; simp at hx; subst hx; exact h1) (by decide) h63 hbytes hbase
    (fun v' w' hA => h v' w' (by rw [hu] at hA; simpa using hA))

theorem str_eql (t : TypeId) (a b : List UInt8) : binOp .eql t (.string ⟨a.toArray⟩) (.string ⟨b.toArray⟩) = pure (.bool (a == b)) := by
  have e : ∀ l : List UInt8, (ByteArray.mk l.toArray).toList = l := fun l => by rw [ByteArray.toList_eq]
  rw [binOp_string_eql, e, e]
theorem str_neq (t : TypeId) (a b : List UInt8) : binOp .neq t (.string ⟨a.toArray⟩) (.string ⟨b.toArray⟩) = pure (.bool (!(a == b))) := by
  have e : ∀ l : List UInt8, (ByteArray.mk l.toArray).toList = l := fun l => by rw [ByteArray.toList_eq]
  rw [binOp_string_neq, e, e]
attribute [go_sem high] str_eql str_neq
@[go_sem] theorem eql_slice_nil (w : World) (t e : TypeId) (a : Option Addr) (l c : Nat) (h : P.underlying t = some (.slice e)) : (binOp .eql t (.slice a l c) (.slice none 0 0)).run P w = .ok (.bool a.isNone) w :=
  Lib.run_eql_slice_nil w _ _ a l c 0 0 h

theorem own.below {base e s n : Nat} {w' : World} {v : Value} {xs : List Value} (h : w.ownsRow base e s v n xs) (hb : Below w.heap.size w w') : w'.ownsRow base e s v n xs := by
  refine ⟨h.1, h.2.imp id ?_⟩
  rintro ⟨g, cap, cur, h1, h2, h3, h4⟩
  exact ⟨g, cap, cur, h1, h2, by rw [hb.block g (Array.getElem?_eq_some_iff.1 h3).1]; exact h3, h4⟩

theorem own.mono {base base' e s n : Nat} {v : Value} {xs : List Value} (h : w.ownsRow base e s v n xs) (hb : base' ≤ base) : w.ownsRow base' e s v n xs := by
  refine ⟨h.1, h.2.imp id ?_⟩
  rintro ⟨g, cap, cur, h1, h2, h3⟩
  exact ⟨g, cap, cur, h1, Nat.le_trans hb h2, h3⟩

/-- the value of a cut, in whatever world -/
theorem run_slice_all {t e s bytes : Nat} (hE : ElemT P t e s bytes) {v : Value} {n : Nat} (hv : ∃ a cap, v = .slice a n cap ∧ n ≤ cap) (lo hi : Option Value) (l h : Nat)
    (hlo : (lo = none ∧ l = 0) ∨ lo = some (.int .i64 l)) (hhi : (hi = none ∧ h = n) ∨ hi = some (.int .i64 h)) (h1 : l ≤ h) (h2 : h ≤ n) :
    ∃ v', (∀ w : World, (Instr.sliceAt t v lo hi none).run P w = .ok v' w) ∧ (∀ B (w : World) xs, rd B w s v n xs → rd B w s v' (h - l) ((xs.drop (l * s)).take ((h - l) * s))) ∧
      (0 < h - l → v'.ownBlock = v.ownBlock) := by
  obtain ⟨hu, ⟨i, z, hi', hz, rfl, hby, hzs⟩, hp⟩ := hE
  obtain ⟨a', cap', rfl, h2'⟩ := hv
  have he : P.underlying t = some (.slice (P.elem t)) := by simp [Program.elem, hu]
  have hee : P.elem t = e := by simp [Program.elem, hu]
  refine ⟨_, fun w => ?_, fun B w xs hrd => rd.sliced hrd l h h1 h2, ?_⟩
  · rw [run_sliceAt_slice w t _ _ _ _ he]
    rcases hlo with ⟨rfl, rfl⟩ | rfl
    · rcases hhi with ⟨rfl, rfl⟩ | rfl
      · rw [Go.run_slice_all w t a' _ cap' he, hee]
        simp [sizeOf, typeInfo, hi', Go.sliced, Nat.sub_zero]
      · rw [run_slice_h w t a' n cap' he .i64 h (by omega) (by omega), hee]
        simp [sizeOf, typeInfo, hi', Go.sliced]
    · rcases hhi with ⟨rfl, rfl⟩ | rfl
      · rw [run_slice_l w t a' _ cap' he .i64 l (by omega) (by omega), hee]
        simp [sizeOf, typeInfo, hi', Go.sliced]
      · rw [run_slice_lh w t a' n cap' he .i64 .i64 l h (by omega) (by omega) (by omega), hee]
        simp [sizeOf, typeInfo, hi', Go.sliced]
  · intro hpos
    rw [if_neg (by omega)]
    cases a' with
    | none => rfl
    | some ad => simp [Value.ownBlock, Addr.add]; split <;> rfl

theorem rd.shape {B : Nat} {s : Nat} {v : Value} {n : Nat} {xs : List Value} (h : rd B w s v n xs) : ∃ a cap, v = .slice a n cap ∧ n ≤ cap := by
  obtain ⟨_, a, cap, h1, h2, _⟩ := h; exact ⟨a, cap, h1, h2⟩

theorem wpQuiet_val {C : World → Prop} {Q : Act → Prop} (hg : Region.wanted o (yielded ops a.tmps) = true) (v : Value) (h : ∀ w, C w → (execOp a.eval o).run P w = .ok (.value v) w) (hk : wpQuiet P ops C Q rest (a.put o.dst v)) : wpQuiet P ops C Q (o :: rest) a := by
  refine wpQuiet_step fun K hK => ?_
  rw [if_pos hg]
  refine ⟨v, fun w hw => ?_, hK _ hk⟩
  unfold Oper.quietAt
  rw [h w hw]
  exact ⟨rfl, rfl⟩

theorem wpQuiet_slice {C : World → Prop} {Q : Act → Prop} (hgd : Region.wanted o (yielded ops a.tmps) = true) (t : TypeId) (x : Operand) (lo hi : Option Operand) (ho : o.op = .slice t x lo hi none)
    {e s bytes : Nat} (hE : ElemT P t e s bytes) {v : Value} {n : Nat} (hx : a.eval x = v) (hv : ∃ a cap, v = .slice a n cap ∧ n ≤ cap) (l h : Nat)
    (hlo : (lo.map a.eval = none ∧ l = 0) ∨ lo.map a.eval = some (.int .i64 l)) (hhi : (hi.map a.eval = none ∧ h = n) ∨ hi.map a.eval = some (.int .i64 h)) (h1 : l ≤ h) (h2 : h ≤ n)
    (hk : ∀ v', (∀ B (w : World) xs, rd B w s v n xs → rd B w s v' (h - l) ((xs.drop (l * s)).take ((h - l) * s))) → (0 < h - l → v'.ownBlock = v.ownBlock) → wpQuiet P ops C Q rest (a.put o.dst v')) : wpQuiet P ops C Q (o :: rest) a := by
  obtain ⟨v', hr, h3, h4⟩ := run_slice_all (P := P) hE hv (lo.map a.eval) (hi.map a.eval) l h hlo hhi h1 h2
  refine wpQuiet_val hgd v' (fun w _ => ?_) (hk v' h3 h4)
  unfold execOp
  simp only [ho, Option.map_none, Sem.run_bind, hx, hr, Result.andThen_ok]
  rfl

theorem run_slice_rd {t e s bytes : Nat} (hE : ElemT P t e s bytes) {B : Nat} {v : Value} {n : Nat} {xs : List Value} (hrd : rd B w s v n xs) (lo hi : Option Value) (l h : Nat)
    (hlo : (lo = none ∧ l = 0) ∨ lo = some (.int .i64 l)) (hhi : (hi = none ∧ h = n) ∨ hi = some (.int .i64 h)) (h1 : l ≤ h) (h2 : h ≤ n) :
    ∃ v', (Instr.sliceAt t v lo hi none).run P w = .ok v' w ∧ rd B w s v' (h - l) ((xs.drop (l * s)).take ((h - l) * s)) := by
  obtain ⟨hu, ⟨i, z, hi', hz, rfl, hby, hzs⟩, hp⟩ := hE
  have hrd' := hrd
  obtain ⟨h0, a', cap', rfl, h2', h3, h4, h5⟩ := hrd
  have he : P.underlying t = some (.slice (P.elem t)) := by simp [Program.elem, hu]
  have hee : P.elem t = e := by simp [Program.elem, hu]
  refine ⟨_, ?_, rd.sliced hrd' l h h1 h2⟩
  rw [run_sliceAt_slice w t _ _ _ _ he]
  rcases hlo with ⟨rfl, rfl⟩ | rfl
  · rcases hhi with ⟨rfl, rfl⟩ | rfl
    · rw [Go.run_slice_all w t a' _ cap' he, hee]
      simp [sizeOf, typeInfo, hi', Go.sliced, Nat.sub_zero]
    · rw [run_slice_h w t a' n cap' he .i64 h (by omega) (by omega), hee]
      simp [sizeOf, typeInfo, hi', Go.sliced]
  · rcases hhi with ⟨rfl, rfl⟩ | rfl
    · rw [run_slice_l w t a' _ cap' he .i64 l (by omega) (by omega), hee]
      simp [sizeOf, typeInfo, hi', Go.sliced]
    · rw [run_slice_lh w t a' n cap' he .i64 .i64 l h (by omega) (by omega) (by omega), hee]
      simp [sizeOf, typeInfo, hi', Go.sliced]

theorem wpList_slice (hgd : Region.wanted o (yielded ops a.tmps) = true) (t : TypeId) (x : Operand) (lo hi : Option Operand) (ho : o.op = .slice t x lo hi none)
    {e s bytes : Nat} (hE : ElemT P t e s bytes) {B : Nat} {v : Value} {n : Nat} {xs : List Value} (hx : a.eval x = v) (hrd : rd B w s v n xs) (l h : Nat)
    (hlo : (lo.map a.eval = none ∧ l = 0) ∨ lo.map a.eval = some (.int .i64 l)) (hhi : (hi.map a.eval = none ∧ h = n) ∨ hi.map a.eval = some (.int .i64 h)) (h1 : l ≤ h) (h2 : h ≤ n)
    (hk : ∀ v', rd B w s v' (h - l) ((xs.drop (l * s)).take ((h - l) * s)) → wpList P ops Q rest (a.put o.dst v') w) : wpList P ops Q (o :: rest) a w := by
  obtain ⟨v', hr, h3⟩ := run_slice_rd (P := P) hE hrd (lo.map a.eval) (hi.map a.eval) l h hlo hhi h1 h2
  refine BigFrame.wpList_want hgd fun K hK => ?_
  unfold Oper.wp execOp
  simp only [ho, Option.map_none, Sem.run_bind, hx, hr, Result.andThen_ok]
  exact hK _ _ (hk v' h3)

def Tok : Prop := True
/-- the walk stands still at the operation that writes slot d -/
theorem stp (d : Nat) {op : Op} {ty : TypeId} {pos : String} {af : Array Edge} {g : Option (Nat × Bool)} (h : Tok → wpList P ops Q (⟨some d, op, ty, pos, af, g⟩ :: rest) a w) :
    wpList P ops Q (⟨some d, op, ty, pos, af, g⟩ :: rest) a w := h trivial
end
end Go.Proofs.YtaldgcnhmnfocaaDoor

/-
  A region that draws its order, whose operations are either calm (in every world of a class they yield one value) or stand in a chain: one walk in the order of the text serves every order. No condition.
-/
namespace Go.Proofs.YtaldgcnhmnfocaaDoor
section
variable {P : Program} {ops : Array Oper} {md : Region.Mode} {C : World → Prop} {eff : Nat → Bool}

/-- in every world of the class it yields v, and leaves the world as it is -/
def calmAt (P : Program) (C : World → Prop) (o : Oper) (a : Act) (v : Value) : Prop :=
  ∀ w, C w → (execOp a.eval o).run P w = .ok (.value v) w ∨ ((execOp a.eval o).run P w = .ok .skip w ∧ v = undef)

def cOper (P : Program) (C : World → Prop) (e : Bool) (o : Oper) (K : Act → World → Prop) (a : Act) (w : World) : Prop :=
  if e then o.wp P a w (fun a' w' => C w' ∧ (∃ v, a' = a.put o.dst v) ∧ K a' w') (fun _ _ _ => False)
  else ∃ v, calmAt P C o a v ∧ K (a.put o.dst v) w

def cOp (P : Program) (ops : Array Oper) (C : World → Prop) (eff : Nat → Bool) (i : Nat) (K : Act → World → Prop) (a : Act) (w : World) : Prop :=
  match ops[i]? with
  | none => K a w
  | some o => if Region.wanted o (yielded ops a.tmps) then cOper P C (eff i) o K a w else K (a.put o.dst undef) w

/-- the walk in the order of the text -/
def wpC (P : Program) (ops : Array Oper) (C : World → Prop) (eff : Nat → Bool) (Q : Act → World → Prop) : List Oper → Nat → Act → World → Prop
  | [], _, a, w => Q a w
  | o :: rest, k, a, w => if Region.wanted o (yielded ops a.tmps) then cOper P C (eff k) o (wpC P ops C eff Q rest (k + 1)) a w else wpC P ops C eff Q rest (k + 1) (a.put o.dst undef) w

theorem upon_mono {o : Oper} {a : Act} {K K' : Act → World → Prop} {Q' : Exit → Act → World → Prop} {r : Result Next} (h : ∀ a w, K a w → K' a w) (hh : o.upon P a K (fun _ _ _ => False) r) : o.upon P a K' Q' r := by
  cases r with
  | ok n w' =>
    cases n <;> simp only [Oper.upon] at hh ⊢
    case value u => exact h _ _ hh
    case skip => exact h _ _ hh
    case defer d => exact h _ _ hh
    case enter f args =>
      refine Calls.mono hh fun e w'' he => ?_
      cases e with
      | returned u => exact h _ _ he
      | panicked c => exact he.elim
      | outgrown => obtain ⟨_, _, h⟩ := he; exact h.elim
    case row row args => exact Rows.mono hh fun u w'' he => h _ _ he
  | halt x w' => cases x <;> simp only [Oper.upon] at hh

theorem Oper_wp_mono {o : Oper} {a : Act} {w : World} {K K' : Act → World → Prop} {Q' : Exit → Act → World → Prop} (h : ∀ a w, K a w → K' a w) (hh : o.wp P a w K (fun _ _ _ => False)) : o.wp P a w K' Q' :=
  upon_mono h hh

/-- there is an outcome -/
theorem Oper_wp_some {o : Oper} {a : Act} {w : World} {K : Act → World → Prop} (hh : o.wp P a w K (fun _ _ _ => False)) : ∃ a' w', K a' w' := by
  unfold Oper.wp at hh
  generalize (execOp a.eval o).run P w = r at hh
  cases r with
  | ok n w' =>
    cases n <;> simp only [Oper.upon] at hh
    case value u => exact ⟨_, _, hh⟩
    case skip => exact ⟨_, _, hh⟩
    case defer d => exact ⟨_, _, hh⟩
    case enter f args =>
      obtain ⟨e, w'', fr, h, _⟩ := hh []
      cases e with
      | returned u => exact ⟨_, _, h⟩
      | panicked c => exact h.elim
      | outgrown => obtain ⟨_, _, h⟩ := h; exact h.elim
    case row row args =>
      obtain ⟨v, w'', h, _⟩ := hh default []
      exact ⟨_, _, h⟩
  | halt x w' => cases x <;> simp only [Oper.upon] at hh

theorem cOper_mono {e : Bool} {o : Oper} {a : Act} {w : World} {K K' : Act → World → Prop} (h : ∀ a w, C w → K a w → K' a w) (hw : C w) (hh : cOper P C e o K a w) : cOper P C e o K' a w := by
  unfold cOper at *
  split
  · rename_i he
    rw [if_pos he] at hh
    exact Oper_wp_mono (fun a' w' ⟨h1, h2, h3⟩ => ⟨h1, h2, h _ _ h1 h3⟩) hh
  · rename_i he
    rw [if_neg he] at hh
    obtain ⟨v, h1, h2⟩ := hh
    exact ⟨v, h1, h _ _ hw h2⟩

theorem cOp_mono {i : Nat} {a : Act} {w : World} {K K' : Act → World → Prop} (h : ∀ a w, C w → K a w → K' a w) (hw : C w) (hh : cOp P ops C eff i K a w) : cOp P ops C eff i K' a w := by
  unfold cOp at *
  split
  · rename_i ho; simp only [ho] at hh; exact h _ _ hw hh
  · rename_i o ho
    simp only [ho] at hh
    split
    · rename_i hwn; simp only [hwn, if_true] at hh; exact cOper_mono h hw hh
    · rename_i hwn; simp only [hwn] at hh; exact h _ _ hw hh

def wpAnyC (P : Program) (md : Region.Mode) (ops : Array Oper) (C : World → Prop) (eff : Nat → Bool) (Q : Act → World → Prop) : Nat → Array Bool → Act → World → Prop
  | 0, listed, a, w => Region.ready md ops listed = [] ∧ Q a w
  | fuel + 1, listed, a, w => (Region.ready md ops listed = [] → Q a w) ∧ ∀ i ∈ Region.ready md ops listed, cOp P ops C eff i (wpAnyC P md ops C eff Q fuel (listed.setIfInBounds i true)) a w

theorem wpOp_of_cOp {i : Nat} {a : Act} {w : World} {K K' : Act → World → Prop} {Q' : Exit → Act → World → Prop} (h : ∀ a w, C w → K a w → K' a w) (hw : C w) (hh : cOp P ops C eff i K a w) : wpOp P ops Q' i K' a w := by
  unfold cOp at hh
  unfold wpOp
  split
  · rename_i ho; simp only [ho] at hh; exact h _ _ hw hh
  · rename_i o ho
    simp only [ho] at hh
    split
    · rename_i hwn
      simp only [hwn, if_true] at hh
      unfold cOper at hh
      split at hh
      · exact .inl (Oper_wp_mono (fun a' w' ⟨h1, _, h3⟩ => h _ _ h1 h3) hh)
      · obtain ⟨v, h1, h2⟩ := hh
        left
        unfold Oper.wp
        rcases h1 w hw with e | ⟨e, rfl⟩ <;> rw [e] <;> exact h _ _ hw h2
    · rename_i hwn; simp only [hwn] at hh; exact h _ _ hw hh

theorem wpAny_of_C {Q : Act → World → Prop} {Q' : Exit → Act → World → Prop} (hQ : ∀ a w, C w → Q a w → Q' .normal a w) : ∀ (fuel : Nat) (listed : Array Bool) (a : Act) (w : World), C w →
    wpAnyC P md ops C eff Q fuel listed a w → wpAny P md ops Q' fuel listed a w
  | 0, _, _, _, hw, h => ⟨h.1, hQ _ _ hw h.2⟩
  | fuel + 1, _, _, _, hw, h => ⟨fun h0 => hQ _ _ hw (h.1 h0), fun i hi => wpOp_of_cOp (fun a' w' hw' => wpAny_of_C hQ fuel _ a' w' hw') hw (h.2 i hi)⟩

/-- what a calm operation, or one that isn't wanted, leaves in its temporary -/
def YieldsC (P : Program) (ops : Array Oper) (C : World → Prop) (e : Bool) (o : Oper) (v : Value) (a : Act) : Prop :=
  (e = false ∧ Region.wanted o (yielded ops a.tmps) = true ∧ calmAt P C o a v) ∨ (Region.wanted o (yielded ops a.tmps) = false ∧ v = undef)

theorem YieldsC.of_same {e : Bool} {o : Oper} {v : Value} {a a' : Act} (hy : YieldsC P ops C e o v a) (he : execOp a'.eval o = execOp a.eval o)
    (hw : Region.wanted o (yielded ops a'.tmps) = Region.wanted o (yielded ops a.tmps)) : YieldsC P ops C e o v a' := by
  unfold YieldsC calmAt at *
  rw [he, hw]
  exact hy

theorem YieldsC.cOp {i : Nat} {o : Oper} {v : Value} {a : Act} {w : World} (hi : ops[i]? = some o) (hy : YieldsC P ops C (eff i) o v a) {K : Act → World → Prop} (h : K (a.put o.dst v) w) : cOp P ops C eff i K a w := by
  unfold Proofs.YtaldgcnhmnfocaaDoor.cOp
  simp only [hi]
  rcases hy with ⟨hn, hw, hv⟩ | ⟨hw, rfl⟩
  · simp only [hw, if_true]
    unfold cOper
    rw [hn]
    exact ⟨v, hv, h⟩
  · simp only [hw, Bool.false_eq_true, if_false]; exact h

/-- another operation, apart from a calm one, whether this one's value is in its place already or not -/
theorem cOp_put {e : Bool} {j : Nat} {oi oj : Oper} {v : Value} (hj : ops[j]? = some oj) (hap : oi.apart ops oj = true)
    (hsi : ∀ cs b, oi.op ≠ .select cs b) (hsj : ∀ cs b, oj.op ≠ .select cs b) {K : Act → World → Prop} {a : Act} {w : World}
    (hy : YieldsC P ops C e oi v a) (h : cOp P ops C eff j K (a.put oi.dst v) w) :
    cOp P ops C eff j (fun a' w' => YieldsC P ops C e oi v a' ∧ K (a'.put oi.dst v) w') a w := by
  obtain ⟨h1, h2, h3⟩ := Oper.apart_spec hap
  have keep : ∀ (a : Act), YieldsC P ops C e oi v a → ∀ u, YieldsC P ops C e oi v (a.put oj.dst u) := fun a hy u =>
    hy.of_same (execOp_put oi hsi a oj.dst u h3) (wanted_put oi a oj.dst u h3)
  have hex := execOp_put oj hsj a oi.dst v h1
  unfold cOp at *
  simp only [hj] at *
  rw [wanted_put oj a oi.dst v h1] at h
  split
  · rename_i hw
    simp only [hw, if_true] at h
    unfold cOper at *
    split
    · rename_i he
      rw [if_pos he] at h
      unfold Oper.wp at *
      rw [hex] at h
      generalize (execOp a.eval oj).run P w = r at *
      have key : ∀ u w', (C w' ∧ (∃ v_1, (a.put oi.dst v).put oj.dst u = (a.put oi.dst v).put oj.dst v_1) ∧ K ((a.put oi.dst v).put oj.dst u) w') →
          C w' ∧ (∃ v_1, a.put oj.dst u = a.put oj.dst v_1) ∧ YieldsC P ops C e oi v (a.put oj.dst u) ∧ K ((a.put oj.dst u).put oi.dst v) w' := by
        rintro u w' ⟨k1, _, k3⟩
        exact ⟨k1, ⟨u, rfl⟩, keep a hy u, by rw [← Act.put_comm a v u h2]; exact k3⟩
      cases r with
      | ok n w' =>
        cases n <;> simp only [Oper.upon] at h ⊢
        case value u => exact key u w' h
        case skip => exact key undef w' h
        case defer d =>
          exfalso
          obtain ⟨_, ⟨u, hu⟩, _⟩ := h
          have := congrArg (fun x : Act => x.defers.length) hu
          have pd : ∀ (x : Act) d y, (x.put d y).defers = x.defers := fun x d y => by cases d <;> rfl
          simp only [pd] at this
          simp at this
        case enter f args =>
          refine Calls.mono h fun e w'' he => ?_
          cases e with
          | returned u => exact key u w'' he
          | panicked c => exact he
          | outgrown => exact he
        case row row args => exact Rows.mono h fun u w'' he => key u w'' he
      | halt x w' => cases x <;> simp only [Oper.upon] at h
    · rename_i he
      rw [if_neg he] at h
      obtain ⟨u, hu, hK⟩ := h
      refine ⟨u, fun w hw => ?_, keep a hy u, by rw [← Act.put_comm a v u h2]; exact hK⟩
      have := hu w hw
      rwa [hex] at this
  · rename_i hw
    simp only [hw] at h
    exact ⟨keep a hy _, by rw [← Act.put_comm a v undef h2]; exact h⟩

/-- a calm operation that may come up now may be taken first -/
theorem wpAnyC_first {Q : Act → World → Prop} {i : Nat} {oi : Oper} {v : Value} (hi : ops[i]? = some oi) (hsel : ∀ (j : Nat) (o : Oper) cs b, ops[j]? = some o → o.op ≠ .select cs b) :
    ∀ (fuel : Nat) (listed : Array Bool) (a : Act) (w : World), C w →
      (∀ j oj, ops[j]? = some oj → j ≠ i → listed.getD j true = false → (∀ e ∈ oj.after, Region.binds md e = true → e.on ≠ i) → oi.apart ops oj = true) →
      i ∈ Region.ready md ops listed → YieldsC P ops C (eff i) oi v a →
      wpAnyC P md ops C eff Q fuel (listed.setIfInBounds i true) (a.put oi.dst v) w → wpAnyC P md ops C eff Q (fuel + 1) listed a w := by
  intro fuel
  induction fuel with
  | zero =>
    intro listed a w hC _ hr hy H
    refine ⟨fun h => (by rw [h] at hr; cases hr), fun j hj => ?_⟩
    by_cases hji : j = i
    · subst hji; exact hy.cOp hi H
    · have := ready_mono hj hji
      rw [H.1] at this
      cases this
  | succ fuel ih =>
    intro listed a w hC hfree hr hy H
    refine ⟨fun h => (by rw [h] at hr; cases hr), fun j hj => ?_⟩
    by_cases hji : j = i
    · subst hji; exact hy.cOp hi H
    · have h1 := H.2 j (ready_mono hj hji)
      obtain ⟨hjun, oj, hoj, hall⟩ := mem_ready.1 hj
      have hnot : ∀ e ∈ oj.after, Region.binds md e = true → e.on ≠ i := fun e he hb heq => by
        have h1 := hall e he hb
        have h0 := (mem_ready.1 hr).1
        rw [heq] at h1
        rcases Nat.lt_or_ge i listed.size with h' | h'
        · simp [h'] at h0 h1; rw [h0] at h1; cases h1
        · simp [Array.getElem?_eq_none h'] at h1
      have h2 := cOp_put hoj (hfree j oj hoj hji hjun hnot) (fun cs b => hsel i oi cs b hi) (fun cs b => hsel j oj cs b hoj) hy h1
      have hfree' : ∀ k ok, ops[k]? = some ok → k ≠ i → (listed.setIfInBounds j true).getD k true = false →
          (∀ e ∈ ok.after, Region.binds md e = true → e.on ≠ i) → oi.apart ops ok = true := fun k ok hk hki hun hno => by
        refine hfree k ok hk hki ?_ hno
        by_cases hjk : j = k
        · subst hjk; exact hjun
        · rw [getD_set_ne true hjk] at hun; exact hun
      refine cOp_mono (fun a' w' hw' h3 => ih (listed.setIfInBounds j true) a' w' hw' hfree' (ready_mono hr (Ne.symm hji)) h3.1 ?_) hC h2
      rw [Array.setIfInBounds_comm _ _ hji]
      exact h3.2

/-! the chain -/
def dependsB (md : Region.Mode) (ops : Array Oper) : Nat → Nat → Nat → Bool
  | 0, _, _ => false
  | f + 1, j, i => ((ops[j]?).map fun o => o.after.any fun e => Region.binds md e && (e.on == i || dependsB md ops f e.on i)).getD false

def Closed (md : Region.Mode) (ops : Array Oper) (listed : Array Bool) : Prop :=
  ∀ j o, listed.getD j false = true → ops[j]? = some o → ∀ e ∈ o.after, Region.binds md e = true → listed.getD e.on false = true

theorem dep_listed {listed : Array Bool} (hc : Closed md ops listed) : ∀ (f j i : Nat), dependsB md ops f j i = true → (j ∈ Region.ready md ops listed ∨ listed.getD j false = true) → listed.getD i false = true
  | 0, _, _, h, _ => by cases h
  | f + 1, j, i, h, hj => by
    unfold dependsB at h
    cases ho : ops[j]? with
    | none => simp [ho] at h
    | some o =>
      simp only [ho, Option.map_some, Option.getD_some, Array.any_eq_true'] at h
      obtain ⟨e, he, hh⟩ := h
      simp only [Bool.and_eq_true, Bool.or_eq_true, beq_iff_eq] at hh
      have hon : listed.getD e.on false = true := by
        rcases hj with hj | hj
        · obtain ⟨_, o', ho', hall⟩ := mem_ready.1 hj
          rw [ho] at ho'; cases ho'
          exact hall e he hh.1
        · exact hc j o hj ho e he hh.1
      rcases hh.2 with e1 | e1
      · rw [← e1]; exact hon
      · exact dep_listed hc f e.on i e1 (Or.inr hon)

theorem closed_set {listed : Array Bool} {j : Nat} (hc : Closed md ops listed) (hj : j ∈ Region.ready md ops listed) : Closed md ops (listed.setIfInBounds j true) := by
  intro k o hk ho e he hb
  by_cases hjk : j = k
  · subst hjk
    obtain ⟨_, o', ho', hall⟩ := mem_ready.1 hj
    rw [ho] at ho'; cases ho'
    exact getD_set_true (hall e he hb)
  · rw [getD_set_ne false hjk] at hk
    exact getD_set_true (hc k o hk ho e he hb)

def chainB (md : Region.Mode) (ops : Array Oper) (es : List Nat) : Bool :=
  es.all fun i => es.all fun j => i == j || (if i < j then dependsB md ops ops.size j i else dependsB md ops ops.size i j)

theorem chain_ready {es : List Nat} (hch : chainB md ops es = true) {listed : Array Bool} (hc : Closed md ops listed) {i j : Nat} (hi : i ∈ es) (hj : j ∈ es) (hri : i ∈ Region.ready md ops listed) (hrj : j ∈ Region.ready md ops listed) : i = j := by
  unfold chainB at hch
  have h := List.all_eq_true.1 (List.all_eq_true.1 hch i hi) j hj
  simp only [Bool.or_eq_true, beq_iff_eq] at h
  rcases h with h | h
  · exact h
  · exfalso
    have notl : ∀ k, k ∈ Region.ready md ops listed → listed.getD k false = true → False := fun k hk hl => by
      have h0 := (mem_ready.1 hk).1
      rcases Nat.lt_or_ge k listed.size with h' | h'
      · simp [h'] at h0 hl; rw [h0] at hl; cases hl
      · simp [Array.getElem?_eq_none h'] at hl
    split at h
    · exact notl i hri (dep_listed hc _ _ _ h (Or.inl hrj))
    · exact notl j hrj (dep_listed hc _ _ _ h (Or.inl hri))

/-- an operation of the chain that may come up now may be taken first -/
theorem wpAnyC_eff {Q : Act → World → Prop} {i : Nat} {oi : Oper} (es : List Nat) (hes : ∀ k, eff k = true → k ∈ es) (hch : chainB md ops es = true) (hei : eff i = true) (hi : ops[i]? = some oi) (hsel : ∀ (j : Nat) (o : Oper) cs b, ops[j]? = some o → o.op ≠ .select cs b) :
    ∀ (fuel : Nat) (listed : Array Bool) (a : Act) (w : World), C w → Closed md ops listed → Region.wanted oi (yielded ops a.tmps) = true →
      (∀ j oj, ops[j]? = some oj → j ≠ i → listed.getD j true = false → (∀ e ∈ oj.after, Region.binds md e = true → e.on ≠ i) → oi.apart ops oj = true) →
      i ∈ Region.ready md ops listed →
      oi.wp P a w (fun a' w' => C w' ∧ (∃ v, a' = a.put oi.dst v) ∧ wpAnyC P md ops C eff Q fuel (listed.setIfInBounds i true) a' w') (fun _ _ _ => False) → wpAnyC P md ops C eff Q (fuel + 1) listed a w := by
  intro fuel
  have self : ∀ (fuel : Nat) (listed : Array Bool) (a : Act) (w : World), Region.wanted oi (yielded ops a.tmps) = true →
      oi.wp P a w (fun a' w' => C w' ∧ (∃ v, a' = a.put oi.dst v) ∧ wpAnyC P md ops C eff Q fuel (listed.setIfInBounds i true) a' w') (fun _ _ _ => False) →
      cOp P ops C eff i (wpAnyC P md ops C eff Q fuel (listed.setIfInBounds i true)) a w := by
    intro fuel listed a w hw H
    unfold cOp
    simp only [hi, hw, if_true]
    unfold cOper
    rw [if_pos hei]
    exact H
  induction fuel with
  | zero =>
    intro listed a w hC hc hwn _ hr H
    refine ⟨fun h => (by rw [h] at hr; cases hr), fun j hj => ?_⟩
    by_cases hji : j = i
    · subst hji; exact self _ _ _ _ hwn H
    · obtain ⟨a', w', _, _, h⟩ := Oper_wp_some H
      have := ready_mono hj hji
      rw [h.1] at this
      cases this
  | succ fuel ih =>
    intro listed a w hC hc hwn hfree hr H
    refine ⟨fun h => (by rw [h] at hr; cases hr), fun j hj => ?_⟩
    by_cases hji : j = i
    · subst hji; exact self _ _ _ _ hwn H
    · obtain ⟨hjun, oj, hoj, hall⟩ := mem_ready.1 hj
      have hej : eff j = false := by
        cases h : eff j with
        | false => rfl
        | true => exact absurd (chain_ready hch hc (hes j h) (hes i hei) hj hr) hji
      have hnot : ∀ e ∈ oj.after, Region.binds md e = true → e.on ≠ i := fun e he hb heq => by
        have h1 := hall e he hb
        have h0 := (mem_ready.1 hr).1
        rw [heq] at h1
        rcases Nat.lt_or_ge i listed.size with h' | h'
        · simp [h'] at h0 h1; rw [h0] at h1; cases h1
        · simp [Array.getElem?_eq_none h'] at h1
      obtain ⟨h1, h2, h3⟩ := Oper.apart_spec (hfree j oj hoj hji hjun hnot)
      have hsj : ∀ cs b, oj.op ≠ .select cs b := fun cs b => hsel j oj cs b hoj
      have hsi : ∀ cs b, oi.op ≠ .select cs b := fun cs b => hsel i oi cs b hi
      -- what j yields: out of one outcome of i
      have hout : ∃ v, YieldsC P ops C (eff j) oj v a := by
        obtain ⟨a', w', hC', ⟨u, rfl⟩, h⟩ := Oper_wp_some H
        have hcj := h.2 j (ready_mono hj hji)
        unfold cOp at hcj
        simp only [hoj] at hcj
        split at hcj
        · rename_i hw
          unfold cOper at hcj
          rw [hej] at hcj
          obtain ⟨v, hv, _⟩ := hcj
          refine ⟨v, Or.inl ⟨hej, by rw [← wanted_put oj a oi.dst u h1]; exact hw, fun w hw => ?_⟩⟩
          have := hv w hw
          rwa [execOp_put oj hsj a oi.dst u h1] at this
        · rename_i hw
          exact ⟨undef, Or.inr ⟨by rw [← wanted_put oj a oi.dst u h1]; simpa using hw, rfl⟩⟩
      obtain ⟨v, hy⟩ := hout
      refine YieldsC.cOp hoj hy ?_
      have hfree' : ∀ k ok, ops[k]? = some ok → k ≠ i → (listed.setIfInBounds j true).getD k true = false →
          (∀ e ∈ ok.after, Region.binds md e = true → e.on ≠ i) → oi.apart ops ok = true := fun k ok hk hki hun hno => by
        refine hfree k ok hk hki ?_ hno
        by_cases hjk : j = k
        · subst hjk; exact hjun
        · rw [getD_set_ne true hjk] at hun; exact hun
      refine ih (listed.setIfInBounds j true) (a.put oj.dst v) w hC (closed_set hc hj) (by rw [wanted_put oi a oj.dst v h3]; exact hwn) hfree' (ready_mono hr (Ne.symm hji)) ?_
      have hex := execOp_put oi hsi a oj.dst v h3
      unfold Oper.wp at *
      rw [hex]
      have key : ∀ u w', (C w' ∧ (∃ v_1, a.put oi.dst u = a.put oi.dst v_1) ∧ wpAnyC P md ops C eff Q (fuel + 1) (listed.setIfInBounds i true) (a.put oi.dst u) w') →
          C w' ∧ (∃ v_1, (a.put oj.dst v).put oi.dst u = (a.put oj.dst v).put oi.dst v_1) ∧ wpAnyC P md ops C eff Q fuel ((listed.setIfInBounds j true).setIfInBounds i true) ((a.put oj.dst v).put oi.dst u) w' := by
        rintro u w' ⟨k1, _, k3⟩
        refine ⟨k1, ⟨u, rfl⟩, ?_⟩
        have hcj := k3.2 j (ready_mono hj hji)
        rw [Array.setIfInBounds_comm _ _ hji, ← Act.put_comm a u v h2]
        unfold cOp at hcj
        simp only [hoj] at hcj
        rw [wanted_put oj a oi.dst u h1] at hcj
        rcases hy with ⟨_, hwj, hv⟩ | ⟨hwj, rfl⟩
        · rw [if_pos hwj] at hcj
          unfold cOper at hcj
          rw [hej] at hcj
          obtain ⟨v2, hv2, hK⟩ := hcj
          have e1 := hv w' k1
          have e2 := hv2 w' k1
          rw [execOp_put oj hsj a oi.dst u h1] at e2
          have : v2 = v := by
            rcases e1 with e1 | ⟨e1, f1⟩ <;> rcases e2 with e2 | ⟨e2, f2⟩ <;> rw [e1] at e2 <;> first | (cases e2; done) | (cases e2; rfl) | (rw [f1, f2])
          rw [← this]
          exact hK
        · rw [if_neg (by rw [hwj]; simp)] at hcj
          exact hcj
      generalize (execOp a.eval oi).run P w = r at *
      cases r with
      | ok n w' =>
        cases n <;> simp only [Oper.upon] at H ⊢
        case value u => exact key u w' H
        case skip => exact key undef w' H
        case defer d =>
          exfalso
          obtain ⟨_, ⟨u, hu⟩, _⟩ := H
          have := congrArg (fun x : Act => x.defers.length) hu
          have pd : ∀ (x : Act) d y, (x.put d y).defers = x.defers := fun x d y => by cases d <;> rfl
          simp only [pd] at this
          simp at this
        case enter f args =>
          refine Calls.mono H fun e w'' he => ?_
          cases e with
          | returned u => exact key u w'' he
          | panicked c => exact he
          | outgrown => exact he
        case row row args => exact Rows.mono H fun u w'' he => key u w'' he
      | halt x w' => cases x <;> simp only [Oper.upon] at H

theorem wpAnyC_lex {Q : Act → World → Prop} (es : List Nat) (hes : ∀ k, eff k = true → k ∈ es) (hch : chainB md ops es = true) (hs : Region.noSelect ops = true) : ∀ (l : List Oper) (k : Nat) (listed : Array Bool) (a : Act) (w : World), C w → Closed md ops listed → (∀ j, l[j]? = ops[k + j]?) →
    Region.lexFrom md ops l.length k listed = true → wpC P ops C eff Q l k a w → wpAnyC P md ops C eff Q l.length listed a w
  | [], _, _, _, _, _, _, _, hB, h => ⟨by simpa [Region.lexFrom] using hB, h⟩
  | o :: l, k, listed, a, w, hC, hc, hl, hB, h => by
    have h0 : ops[k]? = some o := by simpa using (hl 0).symm
    simp only [List.length_cons, Region.lexFrom, Bool.and_eq_true] at hB
    obtain ⟨⟨hr, hf⟩, hB'⟩ := hB
    have hr' : k ∈ Region.ready md ops listed := by simpa using hr
    have next : ∀ a w, C w → wpC P ops C eff Q l (k + 1) a w → wpAnyC P md ops C eff Q l.length (listed.setIfInBounds k true) a w := fun a w hC h =>
      wpAnyC_lex es hes hch hs l (k + 1) _ a w hC (closed_set hc hr') (fun j => by have := hl (j + 1); simpa [Nat.add_assoc, Nat.add_comm 1 j] using this) hB' h
    simp only [wpC] at h
    split at h
    · rename_i hw
      unfold cOper at h
      split at h
      · rename_i he
        refine wpAnyC_eff es hes hch he h0 (Region.noSelect_spec hs) l.length listed a w hC hc hw (Region.free_spec h0 hf) hr' ?_
        exact Oper_wp_mono (fun a' w' ⟨h1, h2, h3⟩ => ⟨h1, h2, next a' w' h1 h3⟩) h
      · rename_i he
        obtain ⟨v, hv, hK⟩ := h
        exact wpAnyC_first h0 (Region.noSelect_spec hs) l.length listed a w hC (Region.free_spec h0 hf) hr' (Or.inl ⟨by simpa using he, hw, hv⟩) (next _ _ hC hK)
    · rename_i hw
      have hw' : Region.wanted o (yielded ops a.tmps) = false := by simpa using hw
      exact wpAnyC_first h0 (Region.noSelect_spec hs) (v := undef) l.length listed a w hC (Region.free_spec h0 hf) hr' (Or.inr ⟨hw', rfl⟩) (next _ _ hC h)

/-- ONE WALK IN THE ORDER OF THE TEXT: es: the places of those that are not calm -/
theorem wp_region_chain {id : Nat} {Q : Exit → Act → World → Prop} {a : Act} {w : World} {l : List Oper} (es : List Nat) (C : World → Prop) (hm : P.follows .mixedOrders = true)
    (hB : (Region.lexB .any l.toArray && chainB .any l.toArray es) = true) (hC : C w.drew)
    (h : wpC P l.toArray C (fun i => es.contains i) (fun a' w' => Q .normal a' w') l 0 a w.drew) : (Code.region id l.toArray true).wp P Q a w := by
  simp only [Bool.and_eq_true, Region.lexB] at hB
  refine wp_region_any hm (wpAny_of_C (C := C) (eff := fun i => es.contains i) (Q := fun a' w' => Q .normal a' w') (fun _ w' _ h => h) _ _ _ _ hC ?_)
  have := wpAnyC_lex (C := C) (eff := fun i => es.contains i) (md := .any) es (fun k hk => by simpa using hk) hB.2 hB.1.1 l 0 (Array.replicate l.toArray.size false) a w.drew hC
    (fun j o hj => by exfalso; simp [Array.getElem?_replicate] at hj; split at hj <;> simp at hj) (by simp) (by simpa using hB.1.2) h
  simpa using this

section steps
variable {Q : Act → World → Prop} {o : Oper} {rest : List Oper} {k : Nat} {a : Act} {w : World}

theorem wpC_nil (h : Q a w) : wpC P ops C eff Q [] k a w := h

theorem wpC_calm (hw : Region.wanted o (yielded ops a.tmps) = true) (he : eff k = false) (v : Value) (h : ∀ w, C w → (execOp a.eval o).run P w = .ok (.value v) w) (hk : wpC P ops C eff Q rest (k + 1) (a.put o.dst v) w) : wpC P ops C eff Q (o :: rest) k a w := by
  simp only [wpC, hw, if_true]
  unfold cOper
  rw [he]
  exact ⟨v, fun w hw => Or.inl (h w hw), hk⟩

/-- where nothing is yielded (a nil check) -/
theorem wpC_calm0 (hw : Region.wanted o (yielded ops a.tmps) = true) (he : eff k = false) (h : ∀ w, C w → (execOp a.eval o).run P w = .ok .skip w) (hk : wpC P ops C eff Q rest (k + 1) (a.put o.dst undef) w) : wpC P ops C eff Q (o :: rest) k a w := by
  simp only [wpC, hw, if_true]
  unfold cOper
  rw [he]
  exact ⟨undef, fun w hw => Or.inr ⟨h w hw, rfl⟩, hk⟩

theorem wpC_move (hw : Region.wanted o (yielded ops a.tmps) = true) (he : eff k = false) (x : Operand) (hx : o.op = .move x) (hk : wpC P ops C eff Q rest (k + 1) (a.put o.dst (a.eval x)) w) : wpC P ops C eff Q (o :: rest) k a w :=
  wpC_calm hw he (a.eval x) (fun w _ => by unfold execOp; rw [hx]; rfl) hk
theorem wpC_assign (hw : Region.wanted o (yielded ops a.tmps) = true) (he : eff k = false) (x : Operand) (hx : o.op = .assign x) (hk : wpC P ops C eff Q rest (k + 1) (a.put o.dst (a.eval x)) w) : wpC P ops C eff Q (o :: rest) k a w :=
  wpC_calm hw he (a.eval x) (fun w _ => by unfold execOp; rw [hx]; rfl) hk

theorem wpC_pass (hw : Region.wanted o (yielded ops a.tmps) = false) (hk : wpC P ops C eff Q rest (k + 1) (a.put o.dst undef) w) : wpC P ops C eff Q (o :: rest) k a w := by
  simp only [wpC, hw, Bool.false_eq_true, if_false]
  exact hk

/-! steps by the walk's own tactics -/
/-- operations that yield a value, or end -/
def plainB : Op → Bool
  | .move _ | .assign _ | .pick .. | .load .. | .binOp .. | .unOp .. | .convert .. | .makeInterface .. | .makeFunc .. | .slice .. | .fieldAddr .. | .field .. | .indexAddr .. | .index .. | .lookup .. | .extract .. => true
  | .call { callee := .builtin .len, .. } | .call { callee := .builtin .cap, .. } | .call { callee := .builtin .min, .. } | .call { callee := .builtin .max, .. } => true
  | _ => false

theorem plain_form (ρ : Operand → Value) (o : Oper) (h : plainB o.op = true) : ∃ s : Sem Value, execOp ρ o = (do pure (.value (← s))) := by
  obtain ⟨dst, op, type, pos, after, guard⟩ := o
  cases op <;> simp only [plainB] at h <;> first | (cases h; done) | skip
  case move x => exact ⟨pure (ρ x), rfl⟩
  case assign x => exact ⟨pure (ρ x), rfl⟩
  case pick c a b =>
    refine ⟨do pure (if ← asBool (ρ c) then ρ a else ρ b), ?_⟩
    simp only [execOp, bind_assoc, pure_bind]
  case call c =>
    obtain ⟨callee, args, ats⟩ := c
    cases callee with
    | builtin b => cases b <;> simp only [] at h <;> first | (cases h; done) | exact ⟨_, rfl⟩
    | _ => simp only [] at h; cases h
  all_goals exact ⟨_, rfl⟩

theorem upon_form {s : Sem Value} {K : Act → World → Prop} (h : o.upon P a K (fun _ _ _ => False) ((do pure (.value (← s)) : Sem Next).run P w)) : ∃ u w', (do pure (.value (← s)) : Sem Next).run P w = .ok (.value u) w' ∧ K (a.put o.dst u) w' := by
  rw [Sem.run_bind] at h ⊢
  generalize s.run P w = r at *
  cases r with
  | ok x w' =>
    simp only [Result.andThen_ok, Sem.run_pure, Oper.upon] at h ⊢
    exact ⟨x, w', rfl, h⟩
  | halt x w' =>
    exfalso
    cases x <;> exact h

theorem wpC_step (hw : Region.wanted o (yielded ops a.tmps) = true) (he : eff k = false) (hp : plainB o.op = true) (hd : (match o.dst with | some d => Nat.blt d a.tmps.size | none => false) = true) (hC : C w)
    (h : ∃ a', (∀ w', C w' → ∀ K : Act → World → Prop, K a' w' → o.wp P a w' K (fun _ _ _ => False)) ∧ wpC P ops C eff Q rest (k + 1) a' w) : wpC P ops C eff Q (o :: rest) k a w := by
  obtain ⟨a', h1, h2⟩ := h
  obtain ⟨s, hs⟩ := plain_form a.eval o hp
  have one : ∀ w', C w' → ∃ u, (execOp a.eval o).run P w' = .ok (.value u) w' ∧ a.put o.dst u = a' := fun w' hw' => by
    have := h1 w' hw' (fun x y => x = a' ∧ y = w') ⟨rfl, rfl⟩
    unfold Oper.wp at this
    rw [hs] at this ⊢
    obtain ⟨u, w1, e1, e2, rfl⟩ := upon_form this
    exact ⟨u, e1, e2⟩
  obtain ⟨u, e1, e2⟩ := one w hC
  refine wpC_calm hw he u (fun w' hw' => ?_) (by rw [e2]; exact h2)
  obtain ⟨u2, f1, f2⟩ := one w' hw'
  have : u2 = u := by
    rw [← e2] at f2
    cases hdst : o.dst with
    | none => simp [hdst] at hd
    | some d =>
      simp only [hdst, Act.put, Act.mk.injEq, and_true] at f2
      simp only [hdst] at hd
      have hd' : d < a.tmps.size := by simpa using hd
      have := congrArg (fun x : Array Value => x[d]?) f2
      simpa [hd'] using this
  rw [← this]; exact f1

theorem wpC_nil_check (hw : Region.wanted o (yielded ops a.tmps) = true) (he : eff k = false) (x : Operand) (ho : o.op = .nilCheck x) (ad : Addr) (hx : a.eval x = .pointer (some ad))
    (h : ∀ a', a' = a.put o.dst (.pointer (some ad)) → wpC P ops C eff Q rest (k + 1) a' w) : wpC P ops C eff Q (o :: rest) k a w :=
  wpC_calm hw he (.pointer (some ad)) (fun w _ => by unfold execOp; simp only [ho, hx]; rfl) (h _ rfl)

theorem wpC_slice (hw : Region.wanted o (yielded ops a.tmps) = true) (he : eff k = false) (t : TypeId) (x : Operand) (lo hi : Option Operand) (ho : o.op = .slice t x lo hi none)
    {e s bytes : Nat} (hE : ElemT P t e s bytes) {v : Value} {n : Nat} (hx : a.eval x = v) (hv : ∃ a cap, v = .slice a n cap ∧ n ≤ cap) (l h : Nat)
    (hlo : (lo.map a.eval = none ∧ l = 0) ∨ lo.map a.eval = some (.int .i64 l)) (hhi : (hi.map a.eval = none ∧ h = n) ∨ hi.map a.eval = some (.int .i64 h)) (h1 : l ≤ h) (h2 : h ≤ n)
    (hk : ∀ v', (∀ B (w : World) xs, rd B w s v n xs → rd B w s v' (h - l) ((xs.drop (l * s)).take ((h - l) * s))) → (0 < h - l → v'.ownBlock = v.ownBlock) → wpC P ops C eff Q rest (k + 1) (a.put o.dst v') w) : wpC P ops C eff Q (o :: rest) k a w := by
  obtain ⟨v', hr, h3, h4⟩ := run_slice_all (P := P) hE hv (lo.map a.eval) (hi.map a.eval) l h hlo hhi h1 h2
  refine wpC_calm hw he v' (fun w _ => ?_) (hk v' h3 h4)
  unfold execOp
  simp only [ho, Option.map_none, Sem.run_bind, hx, hr, Result.andThen_ok]
  rfl

theorem wpC_convert (hw : Region.wanted o (yielded ops a.tmps) = true) (he : eff k = false) (s d : TypeId) (x : Operand) (ho : o.op = .convert s d x) {u : Value} (hx : a.eval x = u) (v : Value) (hr : ∀ w, C w → (convert s d u).run P w = .ok v w)
    (hk : wpC P ops C eff Q rest (k + 1) (a.put o.dst v) w) : wpC P ops C eff Q (o :: rest) k a w := by
  refine wpC_calm hw he v (fun w hw => ?_) hk
  unfold execOp
  simp only [ho, Sem.run_bind, hx, hr w hw, Result.andThen_ok]
  rfl

/-- an operation of the chain -/
theorem wpC_eff (hw : Region.wanted o (yielded ops a.tmps) = true) (he : eff k = true)
    (h : ∀ K : Act → World → Prop, (∀ a' w', (∃ v, a' = a.put o.dst v) → C w' → wpC P ops C eff Q rest (k + 1) a' w' → K a' w') → o.wp P a w K (fun _ _ _ => False)) : wpC P ops C eff Q (o :: rest) k a w := by
  simp only [wpC, hw, if_true]
  unfold cOper
  rw [he]
  exact h _ fun a' w' h0 h1 h2 => ⟨h1, h0, h2⟩

/-- the frame, written out anew -/
theorem wpC_frame {l : List Oper} {a a' : Act} (ha : a = a') (h : wpC P ops C eff Q l k a' w) : wpC P ops C eff Q l k a w := ha ▸ h
end steps

end
end Go.Proofs.YtaldgcnhmnfocaaDoor

/-
  A region that draws its order: a head whose operations are calm or stand in a chain, and a tail that is forced: one walk in the order of the text. No condition.
-/
namespace Go.Proofs.YtaldgcnhmnfocaaDoor
section
variable {P : Program} {ops : Array Oper} {md : Region.Mode} {C : World → Prop} {eff : Nat → Bool} {n : Nat} {L : Array Bool → Act → World → Prop}

def wpAnyCL (P : Program) (md : Region.Mode) (ops : Array Oper) (C : World → Prop) (eff : Nat → Bool) (n : Nat) (L : Array Bool → Act → World → Prop) : Nat → Array Bool → Act → World → Prop
  | 0, listed, a, w => L listed a w
  | f + 1, listed, a, w => Region.ready md ops listed ≠ [] ∧ ∀ i ∈ Region.ready md ops listed, i < n ∧ cOp P ops C eff i (wpAnyCL P md ops C eff n L f (listed.setIfInBounds i true)) a w

theorem wpAny_of_CL {g : Nat} {Q' : Exit → Act → World → Prop} (hL : ∀ listed a w, C w → L listed a w → wpAny P md ops Q' g listed a w) : ∀ (f : Nat) (listed : Array Bool) (a : Act) (w : World), C w →
    wpAnyCL P md ops C eff n L f listed a w → wpAny P md ops Q' (f + g) listed a w
  | 0, _, _, _, hw, h => by rw [Nat.zero_add]; exact hL _ _ _ hw h
  | f + 1, _, _, _, hw, h => by
    rw [show f + 1 + g = (f + g) + 1 by omega]
    exact ⟨fun h0 => absurd h0 h.1, fun i hi => wpOp_of_cOp (fun a' w' hw' => wpAny_of_CL hL f _ a' w' hw') hw (h.2 i hi).2⟩

theorem closed_of_inv {listed : Array Bool} (inv : HeadInv md ops n listed) : Closed md ops listed := fun j o hl hj e he hb => inv.closed j o hj hl e he hb

/-- a calm operation that may come up now may be taken first -/
theorem wpAnyCL_first {i : Nat} {oi : Oper} {v : Value} (hi : ops[i]? = some oi) (hsel : ∀ (j : Nat) (o : Oper) cs b, ops[j]? = some o → o.op ≠ .select cs b)
    (hs : Region.sinkB md ops n = true) (hc : Region.chainB md ops n = true) (hn : n < ops.size) (hin : i < n) (hdone : ∀ listed a w, L listed a w → ∀ j ∈ Region.ready md ops listed, n ≤ j) :
    ∀ (fuel : Nat) (listed : Array Bool) (a : Act) (w : World), C w → HeadInv md ops n listed →
      (∀ j oj, ops[j]? = some oj → j ≠ i → listed.getD j true = false → (∀ e ∈ oj.after, Region.binds md e = true → e.on ≠ i) → oi.apart ops oj = true) →
      i ∈ Region.ready md ops listed → YieldsC P ops C (eff i) oi v a →
      wpAnyCL P md ops C eff n L fuel (listed.setIfInBounds i true) (a.put oi.dst v) w → wpAnyCL P md ops C eff n L (fuel + 1) listed a w := by
  intro fuel
  induction fuel with
  | zero =>
    intro listed a w hC inv _ hr hy H
    have hun := (mem_ready.1 hr).1
    refine ⟨fun h => (by rw [h] at hr; cases hr), fun j hj => ?_⟩
    have hjn : j < n := by
      rcases Nat.lt_or_ge j n with h | h
      · exact h
      · exact absurd hj (tail_waits hs hc hn inv _ i rfl hin hun j h)
    refine ⟨hjn, ?_⟩
    by_cases hji : j = i
    · subst hji; exact hy.cOp hi H
    · have := hdone _ _ _ H j (ready_mono hj hji)
      omega
  | succ fuel ih =>
    intro listed a w hC inv hfree hr hy H
    have hun := (mem_ready.1 hr).1
    refine ⟨fun h => (by rw [h] at hr; cases hr), fun j hj => ?_⟩
    have hjn : j < n := by
      rcases Nat.lt_or_ge j n with h | h
      · exact h
      · exact absurd hj (tail_waits hs hc hn inv _ i rfl hin hun j h)
    refine ⟨hjn, ?_⟩
    by_cases hji : j = i
    · subst hji; exact hy.cOp hi H
    · have h1 := (H.2 j (ready_mono hj hji)).2
      obtain ⟨hjun, oj, hoj, hall⟩ := mem_ready.1 hj
      have hnot : ∀ e ∈ oj.after, Region.binds md e = true → e.on ≠ i := fun e he hb heq => by
        have h1 := hall e he hb
        rw [heq, getD_both hun] at h1
        cases h1
      have h2 := cOp_put hoj (hfree j oj hoj hji hjun hnot) (fun cs b => hsel i oi cs b hi) (fun cs b => hsel j oj cs b hoj) hy h1
      have hfree' : ∀ k ok, ops[k]? = some ok → k ≠ i → (listed.setIfInBounds j true).getD k true = false →
          (∀ e ∈ ok.after, Region.binds md e = true → e.on ≠ i) → oi.apart ops ok = true := fun k ok hk hki hun hno => by
        refine hfree k ok hk hki ?_ hno
        by_cases hjk : j = k
        · subst hjk; exact hjun
        · rw [getD_set_ne true hjk] at hun; exact hun
      refine cOp_mono (fun a' w' hw' h3 => ih (listed.setIfInBounds j true) a' w' hw' (inv.set hj hjn) hfree' (ready_mono hr (Ne.symm hji)) h3.1 ?_) hC h2
      rw [Array.setIfInBounds_comm _ _ hji]
      exact h3.2

/-- an operation of the chain that may come up now may be taken first -/
theorem wpAnyCL_eff {i : Nat} {oi : Oper} (es : List Nat) (hes : ∀ k, eff k = true → k ∈ es) (hch : chainB md ops es = true) (hei : eff i = true) (hi : ops[i]? = some oi) (hsel : ∀ (j : Nat) (o : Oper) cs b, ops[j]? = some o → o.op ≠ .select cs b)
    (hs : Region.sinkB md ops n = true) (hcn : Region.chainB md ops n = true) (hn : n < ops.size) (hin : i < n) (hdone : ∀ listed a w, L listed a w → ∀ j ∈ Region.ready md ops listed, n ≤ j) :
    ∀ (fuel : Nat) (listed : Array Bool) (a : Act) (w : World), C w → HeadInv md ops n listed → Region.wanted oi (yielded ops a.tmps) = true →
      (∀ j oj, ops[j]? = some oj → j ≠ i → listed.getD j true = false → (∀ e ∈ oj.after, Region.binds md e = true → e.on ≠ i) → oi.apart ops oj = true) →
      i ∈ Region.ready md ops listed →
      oi.wp P a w (fun a' w' => C w' ∧ (∃ v, a' = a.put oi.dst v) ∧ wpAnyCL P md ops C eff n L fuel (listed.setIfInBounds i true) a' w') (fun _ _ _ => False) → wpAnyCL P md ops C eff n L (fuel + 1) listed a w := by
  intro fuel
  have self : ∀ (fuel : Nat) (listed : Array Bool) (a : Act) (w : World), Region.wanted oi (yielded ops a.tmps) = true →
      oi.wp P a w (fun a' w' => C w' ∧ (∃ v, a' = a.put oi.dst v) ∧ wpAnyCL P md ops C eff n L fuel (listed.setIfInBounds i true) a' w') (fun _ _ _ => False) →
      cOp P ops C eff i (wpAnyCL P md ops C eff n L fuel (listed.setIfInBounds i true)) a w := by
    intro fuel listed a w hw H
    unfold cOp
    simp only [hi, hw, if_true]
    unfold cOper
    rw [if_pos hei]
    exact H
  induction fuel with
  | zero =>
    intro listed a w hC inv hwn _ hr H
    have hun := (mem_ready.1 hr).1
    refine ⟨fun h => (by rw [h] at hr; cases hr), fun j hj => ?_⟩
    have hjn : j < n := by
      rcases Nat.lt_or_ge j n with h | h
      · exact h
      · exact absurd hj (tail_waits hs hcn hn inv _ i rfl hin hun j h)
    refine ⟨hjn, ?_⟩
    by_cases hji : j = i
    · subst hji; exact self _ _ _ _ hwn H
    · obtain ⟨a', w', _, _, h⟩ := Oper_wp_some H
      have := hdone _ _ _ h j (ready_mono hj hji)
      omega
  | succ fuel ih =>
    intro listed a w hC inv hwn hfree hr H
    have hc := closed_of_inv inv
    have hun := (mem_ready.1 hr).1
    refine ⟨fun h => (by rw [h] at hr; cases hr), fun j hj => ?_⟩
    have hjn : j < n := by
      rcases Nat.lt_or_ge j n with h | h
      · exact h
      · exact absurd hj (tail_waits hs hcn hn inv _ i rfl hin hun j h)
    refine ⟨hjn, ?_⟩
    by_cases hji : j = i
    · subst hji; exact self _ _ _ _ hwn H
    · obtain ⟨hjun, oj, hoj, hall⟩ := mem_ready.1 hj
      have hej : eff j = false := by
        cases h : eff j with
        | false => rfl
        | true => exact absurd (chain_ready hch hc (hes j h) (hes i hei) hj hr) hji
      have hnot : ∀ e ∈ oj.after, Region.binds md e = true → e.on ≠ i := fun e he hb heq => by
        have h1 := hall e he hb
        have h0 := (mem_ready.1 hr).1
        rw [heq] at h1
        rcases Nat.lt_or_ge i listed.size with h' | h'
        · simp [h'] at h0 h1; rw [h0] at h1; cases h1
        · simp [Array.getElem?_eq_none h'] at h1
      obtain ⟨h1, h2, h3⟩ := Oper.apart_spec (hfree j oj hoj hji hjun hnot)
      have hsj : ∀ cs b, oj.op ≠ .select cs b := fun cs b => hsel j oj cs b hoj
      have hsi : ∀ cs b, oi.op ≠ .select cs b := fun cs b => hsel i oi cs b hi
      -- what j yields: out of one outcome of i
      have hout : ∃ v, YieldsC P ops C (eff j) oj v a := by
        obtain ⟨a', w', hC', ⟨u, rfl⟩, h⟩ := Oper_wp_some H
        have hcj := (h.2 j (ready_mono hj hji)).2
        unfold cOp at hcj
        simp only [hoj] at hcj
        split at hcj
        · rename_i hw
          unfold cOper at hcj
          rw [hej] at hcj
          obtain ⟨v, hv, _⟩ := hcj
          refine ⟨v, Or.inl ⟨hej, by rw [← wanted_put oj a oi.dst u h1]; exact hw, fun w hw => ?_⟩⟩
          have := hv w hw
          rwa [execOp_put oj hsj a oi.dst u h1] at this
        · rename_i hw
          exact ⟨undef, Or.inr ⟨by rw [← wanted_put oj a oi.dst u h1]; simpa using hw, rfl⟩⟩
      obtain ⟨v, hy⟩ := hout
      refine YieldsC.cOp hoj hy ?_
      have hfree' : ∀ k ok, ops[k]? = some ok → k ≠ i → (listed.setIfInBounds j true).getD k true = false →
          (∀ e ∈ ok.after, Region.binds md e = true → e.on ≠ i) → oi.apart ops ok = true := fun k ok hk hki hun hno => by
        refine hfree k ok hk hki ?_ hno
        by_cases hjk : j = k
        · subst hjk; exact hjun
        · rw [getD_set_ne true hjk] at hun; exact hun
      refine ih (listed.setIfInBounds j true) (a.put oj.dst v) w hC (inv.set hj hjn) (by rw [wanted_put oi a oj.dst v h3]; exact hwn) hfree' (ready_mono hr (Ne.symm hji)) ?_
      have hex := execOp_put oi hsi a oj.dst v h3
      unfold Oper.wp at *
      rw [hex]
      have key : ∀ u w', (C w' ∧ (∃ v_1, a.put oi.dst u = a.put oi.dst v_1) ∧ wpAnyCL P md ops C eff n L (fuel + 1) (listed.setIfInBounds i true) (a.put oi.dst u) w') →
          C w' ∧ (∃ v_1, (a.put oj.dst v).put oi.dst u = (a.put oj.dst v).put oi.dst v_1) ∧ wpAnyCL P md ops C eff n L fuel ((listed.setIfInBounds j true).setIfInBounds i true) ((a.put oj.dst v).put oi.dst u) w' := by
        rintro u w' ⟨k1, _, k3⟩
        refine ⟨k1, ⟨u, rfl⟩, ?_⟩
        have hcj := (k3.2 j (ready_mono hj hji)).2
        rw [Array.setIfInBounds_comm _ _ hji, ← Act.put_comm a u v h2]
        unfold cOp at hcj
        simp only [hoj] at hcj
        rw [wanted_put oj a oi.dst u h1] at hcj
        rcases hy with ⟨_, hwj, hv⟩ | ⟨hwj, rfl⟩
        · rw [if_pos hwj] at hcj
          unfold cOper at hcj
          rw [hej] at hcj
          obtain ⟨v2, hv2, hK⟩ := hcj
          have e1 := hv w' k1
          have e2 := hv2 w' k1
          rw [execOp_put oj hsj a oi.dst u h1] at e2
          have : v2 = v := by
            rcases e1 with e1 | ⟨e1, f1⟩ <;> rcases e2 with e2 | ⟨e2, f2⟩ <;> rw [e1] at e2 <;> first | (cases e2; done) | (cases e2; rfl) | (rw [f1, f2])
          rw [← this]
          exact hK
        · rw [if_neg (by rw [hwj]; simp)] at hcj
          exact hcj
      generalize (execOp a.eval oi).run P w = r at *
      cases r with
      | ok n w' =>
        cases n <;> simp only [Oper.upon] at H ⊢
        case value u => exact key u w' H
        case skip => exact key undef w' H
        case defer d =>
          exfalso
          obtain ⟨_, ⟨u, hu⟩, _⟩ := H
          have := congrArg (fun x : Act => x.defers.length) hu
          have pd : ∀ (x : Act) d y, (x.put d y).defers = x.defers := fun x d y => by cases d <;> rfl
          simp only [pd] at this
          simp at this
        case enter f args =>
          refine Calls.mono H fun e w'' he => ?_
          cases e with
          | returned u => exact key u w'' he
          | panicked c => exact he
          | outgrown => exact he
        case row row args => exact Rows.mono H fun u w'' he => key u w'' he
      | halt x w' => cases x <;> simp only [Oper.upon] at H


theorem wpAnyCL_lex {g : Nat} {Lq : Act → World → Prop} (es : List Nat) (hes : ∀ k, eff k = true → k ∈ es) (hch : chainB md ops es = true) (hsel : Region.noSelect ops = true)
    (hs : Region.sinkB md ops n = true) (hc : Region.chainB md ops n = true) (hn : n < ops.size) : ∀ (l : List Oper) (k : Nat) (listed : Array Bool) (a : Act) (w : World), C w → (∀ j, j < l.length → l[j]? = ops[k + j]?) → k + l.length = n → HeadInv md ops n listed →
    Region.lexHead md ops g l.length k listed = true → wpC P ops C eff Lq l k a w → wpAnyCL P md ops C eff n (fun listed' a' w' => Region.seqB md ops g n listed' = true ∧ Lq a' w') l.length listed a w
  | [], k, listed, a, w, _, _, hk, _, hB, h => by
    have : k = n := by simpa using hk
    subst this
    exact ⟨by simpa [Region.lexHead] using hB, h⟩
  | o :: l, k, listed, a, w, hC, hl, hk, inv, hB, h => by
    have h0 : ops[k]? = some o := by simpa using (hl 0 (by simp)).symm
    simp only [List.length_cons, Region.lexHead, Bool.and_eq_true] at hB
    obtain ⟨⟨hr, hf⟩, hB'⟩ := hB
    have hkn : k < n := by simp only [List.length_cons] at hk; omega
    have hr' : k ∈ Region.ready md ops listed := by simpa using hr
    have hdone : ∀ listed' (a' : Act) (w' : World), (Region.seqB md ops g n listed' = true ∧ Lq a' w') → ∀ j ∈ Region.ready md ops listed', n ≤ j := fun _ _ _ hL => seqB_ready hL.1
    have next : ∀ a w, C w → wpC P ops C eff Lq l (k + 1) a w → wpAnyCL P md ops C eff n (fun listed' a' w' => Region.seqB md ops g n listed' = true ∧ Lq a' w') l.length (listed.setIfInBounds k true) a w := fun a w hC h =>
      wpAnyCL_lex es hes hch hsel hs hc hn l (k + 1) _ a w hC (fun j hj => by have := hl (j + 1) (by simp; omega); simpa [Nat.add_assoc, Nat.add_comm 1 j] using this) (by simp only [List.length_cons] at hk; omega) (inv.set hr' hkn) hB' h
    simp only [wpC] at h
    split at h
    · rename_i hw
      unfold cOper at h
      split at h
      · rename_i he
        refine wpAnyCL_eff es hes hch he h0 (Region.noSelect_spec hsel) hs hc hn hkn hdone l.length listed a w hC inv hw (Region.free_spec h0 hf) hr' ?_
        exact Oper_wp_mono (fun a' w' ⟨h1, h2, h3⟩ => ⟨h1, h2, next a' w' h1 h3⟩) h
      · rename_i he
        obtain ⟨v, hv, hK⟩ := h
        exact wpAnyCL_first h0 (Region.noSelect_spec hsel) hs hc hn hkn hdone l.length listed a w hC inv (Region.free_spec h0 hf) hr' (Or.inl ⟨by simpa using he, hw, hv⟩) (next _ _ hC hK)
    · rename_i hw
      have hw' : Region.wanted o (yielded ops a.tmps) = false := by simpa using hw
      exact wpAnyCL_first h0 (Region.noSelect_spec hsel) hs hc hn hkn hdone (v := undef) l.length listed a w hC inv (Region.free_spec h0 hf) hr' (Or.inr ⟨hw', rfl⟩) (next _ _ hC h)

/-- ONE WALK IN THE ORDER OF THE TEXT: es: the places of those ahead of the tail that are not calm; n: where the tail begins -/
theorem wp_region_chain_tail {id : Nat} {Q : Exit → Act → World → Prop} {a : Act} {w : World} {l : List Oper} (n : Nat) (es : List Nat) (C : World → Prop) (hm : P.follows .mixedOrders = true)
    (hB : (Region.lexTailB .any l.toArray n && chainB .any l.toArray es) = true) (hC : C w.drew)
    (h : wpC P l.toArray C (fun i => es.contains i) (fun a' w' => wpList P l.toArray Q (l.drop n) a' w') (l.take n) 0 a w.drew) : (Code.region id l.toArray true).wp P Q a w := by
  simp only [Bool.and_eq_true, Region.lexTailB, decide_eq_true_eq] at hB
  obtain ⟨⟨⟨⟨⟨hsel, hn⟩, hs⟩, hc⟩, hlex⟩, hch⟩ := hB
  have hn' : n < l.length := by simpa using hn
  have htl : (l.take n).length = n := by simp; omega
  have hdl : (l.drop n).length = l.toArray.size - n := by simp
  have inv0 : HeadInv .any l.toArray n (Array.replicate l.toArray.size false) :=
    ⟨by simp, fun j oj _ hl => (by rw [getD_replicate_false] at hl; cases hl), fun t _ ht => getD_in (by simpa using ht) (getD_replicate_false _ _)⟩
  have H := wpAnyCL_lex (C := C) (eff := fun i => es.contains i) (md := .any) (g := l.toArray.size - n) es (fun k hk => by simpa using hk) hch hsel hs hc hn (l.take n) 0 (Array.replicate l.toArray.size false) a w.drew hC
    (fun j hj => by
      have hj' : j < n := by rw [htl] at hj; exact hj
      simp [hj']) (by simpa using htl) inv0 (by rw [htl]; exact hlex) h
  refine wp_region_any hm ?_
  have := wpAny_of_CL (Q' := Q) (g := l.toArray.size - n) (fun listed a' w' _ hL => by
    have := wpAny_of_seq (md := .any) (Q' := Q) (l.drop n) n listed a' w' (fun j => by simp [List.getElem?_drop]) (by rw [hdl]; exact hL.1) hL.2
    rwa [hdl] at this) _ _ _ _ hC H
  rw [htl, show n + (l.toArray.size - n) = l.toArray.size by omega] at this
  exact this
end
end Go.Proofs.YtaldgcnhmnfocaaDoor
