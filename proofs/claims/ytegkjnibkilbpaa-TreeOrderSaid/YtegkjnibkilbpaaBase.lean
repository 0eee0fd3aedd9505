/-
  Base laws of the walks: slices that are read, slices that are owned, append from whatever source. No condition.
-/
import Derived.Test.YtegkjnibkilbpaaProg
import Derived.WalkKit
import Derived.ProofKit
import Derived.Lib.Hide
import Derived.Great.BuildSlice
import Derived.WalkSpells
import Derived.WalkLawsBesides
import Derived.BigQuiet
import Derived.Deep.QuietTactic
import Derived.Laws.BytesArg
namespace Go.Proofs.Ytegkjnibkilbpaa
open Go.RowKit

def rd (B : Nat) (w : World) (s : Nat) (v : Value) (n : Nat) (xs : List Value) : Prop :=
  xs.length = n * s ∧ ∃ a cap, v = .slice a n cap ∧ n ≤ cap ∧ cap ≤ maxLen ∧ (a = none → cap = 0) ∧
    (0 < n → ∃ b off, a = some ⟨b, off, none⟩ ∧ b < B ∧ ∀ j u, xs[j]? = some u → w.cell? ⟨b, off + j, none⟩ = some u)

theorem rd.mono {B B' : Nat} {w : World} {s : Nat} {v : Value} {n : Nat} {xs : List Value} (h : rd B w s v n xs) (hB : B ≤ B') : rd B' w s v n xs := by
  obtain ⟨h0, a, cap, h1, h2, h3, h4, h5⟩ := h
  refine ⟨h0, a, cap, h1, h2, h3, h4, fun hn => ?_⟩
  obtain ⟨b, off, e1, e2, e3⟩ := h5 hn
  exact ⟨b, off, e1, by omega, e3⟩

theorem rd.below {B : Nat} {w w' : World} {s : Nat} {v : Value} {n : Nat} {xs : List Value} (h : rd B w s v n xs) (hb : Below B w w') : rd B w' s v n xs := by
  obtain ⟨h0, a, cap, h1, h2, h3, h4, h5⟩ := h
  refine ⟨h0, a, cap, h1, h2, h3, h4, fun hn => ?_⟩
  obtain ⟨b, off, e1, e2, e3⟩ := h5 hn
  exact ⟨b, off, e1, e2, fun j u hj => (hb.cell (p := ⟨b, off + j, none⟩) e2).trans (e3 j u hj)⟩

theorem rd.real {B : Nat} {w : World} {s : Nat} {v : Value} {n : Nat} {xs : List Value} (h : rd B w s v n xs) (hs : 0 < s) : rd w.heap.size w s v n xs := by
  obtain ⟨h0, a, cap, h1, h2, h3, h4, h5⟩ := h
  refine ⟨h0, a, cap, h1, h2, h3, h4, fun hn => ?_⟩
  obtain ⟨b, off, e1, e2, e3⟩ := h5 hn
  have hl : 0 < xs.length := by rw [h0]; exact Nat.mul_pos hn hs
  exact ⟨b, off, e1, World.block_lt_of_cell? w _ (e3 0 xs[0] (by simp [hl])), e3⟩

theorem rd.alloc {B : Nat} {w : World} {s : Nat} {v : Value} {n : Nat} {xs : List Value} (h : rd B w s v n xs) (hs : 0 < s) (o : Obj) : rd w.heap.size (w.alloc o) s v n xs :=
  (h.real hs).below ((Below.refl _ _).alloc (Nat.le_refl _) _)

theorem rd.len {B : Nat} {w : World} {s : Nat} {v : Value} {n : Nat} {xs : List Value} (h : rd B w s v n xs) : n ≤ maxLen := by
  obtain ⟨h0, a, cap, h1, h2, h3, h4, h5⟩ := h
  exact Nat.le_trans h2 h3

theorem rd.nil (B : Nat) (w : World) (s : Nat) : rd B w s (.slice none 0 0) 0 [] :=
  ⟨by simp, none, 0, rfl, Nat.le_refl _, Nat.zero_le _, fun _ => rfl, fun h => absurd h (by omega)⟩

theorem rd.of_own {base e s : Nat} {w : World} {v : Value} {n : Nat} {xs : List Value} (h : w.ownsRow base e s v n xs) : rd w.heap.size w s v n xs := by
  obtain ⟨h0, ⟨rfl, rfl⟩ | ⟨g, cap, cur, rfl, hb, hg, hn, hc, hs, ht⟩⟩ := h
  · have : xs = [] := List.eq_nil_of_length_eq_zero (by simpa using h0)
    subst this
    exact rd.nil _ _ _
  · refine ⟨h0, some ⟨g, 0, none⟩, cap, rfl, hn, hc, (fun e => by cases e), fun _ => ⟨g, 0, rfl, (Array.getElem?_eq_some_iff.1 hg).1, fun j u hj => ?_⟩⟩
    rw [Nat.zero_add, cell_of_row w g j cur e (0, 0) hg]
    rw [← ht, List.getElem?_take] at hj
    split at hj
    · simpa using hj
    · cases hj

theorem rd.sliced {B : Nat} {w : World} {s : Nat} {a : Option Addr} {n cap : Nat} {xs : List Value} (h : rd B w s (.slice a n cap) n xs) (l hi : Nat) (hl : l ≤ hi) (hh : hi ≤ n) :
    rd B w s (.slice (if cap = l then a else a.map (·.add (l * s))) (hi - l) (cap - l)) (hi - l) ((xs.drop (l * s)).take ((hi - l) * s)) := by
  obtain ⟨h0, a', cap', h1, h2, h3, h4, h5⟩ := h
  simp only [Value.slice.injEq] at h1
  obtain ⟨rfl, _, rfl⟩ := h1
  have e1 : hi * s ≤ n * s := Nat.mul_le_mul_right s hh
  have e2 : l * s + (hi - l) * s = hi * s := by rw [← Nat.add_mul]; congr 1; omega
  refine ⟨?_, _, _, rfl, by omega, by omega, ?_, ?_⟩
  · rw [List.length_take, List.length_drop, h0]; omega
  · intro ha
    split at ha
    · omega
    · rw [Option.map_eq_none_iff] at ha; have := h4 ha; omega
  · intro hpos
    obtain ⟨b, off, rfl, hb, hc⟩ := h5 (by omega)
    rw [if_neg (by omega)]
    refine ⟨b, off + l * s, ?_, hb, ?_⟩
    · simp only [Option.map_some, Addr.add_lit]
    · intro j u hj
      rw [List.getElem?_take] at hj
      split at hj
      · rw [List.getElem?_drop] at hj
        have := hc _ _ hj
        rwa [← Nat.add_assoc] at this
      · cases hj

/-- append from whatever source -/
theorem run_append_src {P : Program} (w : World) (base : Nat) (t u ty e : TypeId) (i : TypeInfo) (z : Value) (size bytes : Nat) (ht : P.underlying t = some (.slice e))
    (d : TypeDesc) (hu : P.underlying u = some d) (hd : (∃ e', d = .slice e') ∨ d = .string) (hi : P.info? e = some i) (hz : i.zero = some z)
    (hsize : i.size = size) (hby : i.bytes = bytes) (hzs : z.cells.size = size)
    (v : Value) (n : Nat) (xs : List Value) (hown : w.ownsRow base e size v n xs)
    (x : Value) (m : Nat) (news : List Value) (hl : news.length = m * size) (hlen : ∀ w1, (Builtin.lenOf x).run P w1 = .ok m w1)
    (hfirst : ∀ w1, w1.heap = w.heap → (Builtin.firstCells size m x).run P w1 = .ok news.toArray w1) (h1 : ∀ u ∈ news, u.oneCell' = true)
    (h63 : n + m ≤ maxLen) (hbytes : (n + m) * bytes ≤ 140737488355328) (hbase : base ≤ w.heap.size) :
    ∃ v' w', (Builtin.append_ #[t, u] ty #[v, x]).run P w = .ok v' w' ∧ w'.ownsRow base e size v' (n + m) (xs ++ news) ∧ w.grownBy w' v.ownBlock ∧
      (v'.ownBlock = v.ownBlock ∨ v'.ownBlock = some w.heap.size) := by
  subst hsize
  subst hby
  have hsmall : n + m ≤ 9223372036854775807 := by simp only [maxLen] at h63; omega
  have hlen2 : (xs ++ news).length = (n + m) * i.size := by rw [List.length_append, hown.1, hl, Nat.add_mul]
  have grown : ∀ (old : Nat), old < n + m → ∀ (row : Option Nat),
      (w.drew.alloc (.cells (xs.toArray ++ news.toArray ++ Builtin.zeroCells z.cells (grownCap w (n + m) old e - (n + m))) e)).ownsRow base e i.size
        (.slice (some ⟨w.heap.size, 0, none⟩) (n + m) (grownCap w (n + m) old e)) (n + m) (xs ++ news) ∧
      w.grownBy (w.drew.alloc (.cells (xs.toArray ++ news.toArray ++ Builtin.zeroCells z.cells (grownCap w (n + m) old e - (n + m))) e)) row := by
    intro old ho row
    have hge := grownCap_ge w (n + m) old e
    have hcm : grownCap w (n + m) old e ≤ maxLen := grownCap_le_maxLen w (n + m) old e h63
    refine ⟨⟨hlen2, .inr ⟨w.heap.size, _, _, rfl, hbase, heap_alloc_new w.drew _, hge, hcm, ?_, ?_⟩⟩, ⟨rfl, rfl, rfl, by simp, fun k hk _ => heap_alloc_old w.drew _ hk⟩⟩
    · simp only [Array.size_append, List.size_toArray, size_zeroCells, hzs, hown.1, hl, ← Nat.add_mul]
      congr 1
      omega
    · simp only [Array.toList_append, List.append_assoc]
      rw [← List.append_assoc, ← hlen2]
      exact List.take_left
  have hfd := hfirst w.drew rfl
  have hf0 := hfirst w rfl
  have h63' : ¬ (9223372036854775807 < ((n : Int) + (m : Int))) := by omega
  rcases hown.2 with ⟨rfl, rfl⟩ | ⟨g, cap, cur, rfl, hbg, hg, hnc, hcm, hcs, htake⟩
  · have hx : xs = [] := List.eq_nil_of_length_eq_zero (by simpa using hown.1)
    subst hx
    by_cases hm : m = 0
    · subst hm
      have hn : news = [] := List.eq_nil_of_length_eq_zero (by simpa using hl)
      subst hn
      refine ⟨.slice none 0 0, w, ?_, World.ownsRow_nil w base e i.size, ⟨rfl, rfl, rfl, Nat.le_refl _, fun _ _ _ => rfl⟩, Or.inl rfl⟩
      rcases hd with ⟨e', rfl⟩ | rfl <;> simp [Builtin.append_, run_underlying ht, run_underlying hu, sizeOf, typeInfo, hi, hlen, hf0]
    · have hgr := grown 0 (by omega) (Value.ownBlock (.slice none 0 0))
      have h48' : ¬ (281474976710656 < Builtin.nextslicecap m 0 * i.bytes) := by
        have := growslice_fits (need := m) (old := 0) (bytes := i.bytes) (by omega) (by simpa using hbytes)
        omega
      have h63'' : ¬ (9223372036854775807 < (m : Int)) := by omega
      refine ⟨_, _, ?_, hgr.1, hgr.2, Or.inr rfl⟩
      rcases hd with ⟨e', rfl⟩ | rfl <;> simp [Builtin.append_, run_underlying ht, run_underlying hu, sizeOf, typeInfo, zeroValue, hi, hz, hlen, hm, h63'', h48', Question.forced, run_firstCells_none, hfd, newRow, grownCap]
  · by_cases hroom : n + m ≤ cap
    · have hfit : n * i.size + news.length ≤ cur.size := by rw [hl, hcs, ← Nat.add_mul]; exact Nat.mul_le_mul_right _ hroom
      have hst := run_storeCells_at P g (n * i.size) e news 0 cur w hg (by simpa using hfit) h1
      simp only [Nat.add_zero] at hst
      refine ⟨_, w.setRow g (cur.toList.take (n * i.size) ++ news ++ cur.toList.drop (n * i.size + news.length)).toArray, ?_, ⟨hlen2, .inr ⟨g, cap, _, rfl, hbg, setRow_heap w g cur _ e _ hg, hroom, hcm, ?_, ?_⟩⟩, ⟨rfl, rfl, rfl, by simp, fun k _ hk => setRow_other w g k _ (fun e => hk (by simp [Value.ownBlock, e]))⟩, Or.inl rfl⟩
      · rcases hd with ⟨e', rfl⟩ | rfl <;> simp [Builtin.append_, run_underlying ht, run_underlying hu, sizeOf, typeInfo, hi, hlen, hroom, hf0, Addr.add_lit, hst]
      · simp only [List.size_toArray, List.length_append, List.length_take, List.length_drop, Array.length_toList]
        omega
      · rw [htake, ← hlen2]
        exact List.take_left
    · have holds : ∀ j u, xs[j]? = some u → w.cell? ((⟨g, 0, none⟩ : Addr).add j) = some u := hown.cells (g := g) rfl
      have hgr := grown cap (by omega) (Value.ownBlock (.slice (some ⟨g, 0, none⟩) n cap))
      have hfit := growslice_fits (need := n + m) (old := cap) (bytes := i.bytes) (by omega) hbytes
      have h48' : ¬ (281474976710656 < Builtin.nextslicecap (n + m) cap * i.bytes) := by omega
      have hfo := run_firstCells_some (P := P) w.drew i.size n ⟨g, 0, none⟩ n cap xs hown.1 (by simpa using holds)
      refine ⟨_, _, ?_, hgr.1, hgr.2, Or.inr rfl⟩
      rcases hd with ⟨e', rfl⟩ | rfl <;> (simp [Builtin.append_, run_underlying ht, run_underlying hu, sizeOf, typeInfo, zeroValue, hi, hz, hlen, hroom, h63', h48', Question.forced, hfd, hfo, newRow, grownCap]; congr 2; apply Array.ext'; simp [List.append_assoc])
/-- a slice type's element row -/
def ElemT (P : Program) (t e size bytes : Nat) : Prop :=
  P.underlying t = some (.slice e) ∧ (∃ i z, P.info? e = some i ∧ i.zero = some z ∧ i.size = size ∧ i.bytes = bytes ∧ z.cells.size = size) ∧ 0 < size

theorem ElemT.mk' {P : Program} {t e size bytes : Nat} {z : Value} (h : P.underlying t = some (.slice e)) (h2 : (P.info? e).map (fun i => (i.zero, i.size, i.bytes)) = some (some z, size, bytes)) (hz : z.cells.size = size) (hp : 0 < size) : ElemT P t e size bytes := by
  obtain ⟨i, hi, h3, h4, h5⟩ := info_parts h2
  exact ⟨h, ⟨i, z, hi, h3, h4, h5, hz⟩, hp⟩

/-- what an append, or several, to an owned row leave -/
structure App (w w' : World) (base e s : Nat) (v v' : Value) (n : Nat) (xs : List Value) : Prop where
  own : w'.ownsRow base e s v' n xs
  grown : w.grownBy w' v.ownBlock
  place : v'.ownBlock = v.ownBlock ∨ ∃ k, v'.ownBlock = some k ∧ w.heap.size ≤ k

theorem App.refl {w : World} {base e s : Nat} {v : Value} {n : Nat} {xs : List Value} (h : w.ownsRow base e s v n xs) : App w w base e s v v n xs :=
  ⟨h, World.grownBy.refl _ _, Or.inl rfl⟩

theorem App.trans {w w1 w2 : World} {base e s : Nat} {v v1 v2 : Value} {n m : Nat} {xs ys : List Value} (h : App w w1 base e s v v1 n xs) (k : App w1 w2 base e s v1 v2 m ys) : App w w2 base e s v v2 m ys := by
  refine ⟨k.own, ⟨k.grown.os.trans h.grown.os, k.grown.tape.trans h.grown.tape, k.grown.output.trans h.grown.output, Nat.le_trans h.grown.size k.grown.size, fun i hi hne => ?_⟩, ?_⟩
  · rw [k.grown.block i (Nat.lt_of_lt_of_le hi h.grown.size) ?_, h.grown.block i hi hne]
    rcases h.place with e1 | ⟨k1, e1, hk⟩
    · rw [e1]; exact hne
    · rw [e1]; intro hc; cases hc; omega
  · have hs := h.grown.size
    rcases k.place with e1 | ⟨k1, e1, hk⟩
    · rcases h.place with e2 | ⟨k2, e2, hk2⟩
      · exact Or.inl (e1.trans e2)
      · exact Or.inr ⟨k2, e1.trans e2, hk2⟩
    · exact Or.inr ⟨k1, e1, by omega⟩

theorem App.below {w w' : World} {base e s B : Nat} {v v' : Value} {n m : Nat} {xs ys : List Value} (h : App w w' base e s v v' m ys) (ho : w.ownsRow base e s v n xs) (hb : B ≤ base) (hs : B ≤ w.heap.size) : Below B w w' :=
  (Below.refl B w).grown h.grown hs fun k hk => Nat.le_trans hb (ho.lt k hk).1

theorem App.alloc {w w' : World} {base e s : Nat} {v v' : Value} {n : Nat} {xs : List Value} (o : Obj) (k : App (w.alloc o) w' base e s v v' n xs) : App w w' base e s v v' n xs := by
  refine ⟨k.own, ⟨k.grown.os, k.grown.tape, k.grown.output, ?_, fun i hi hne => ?_⟩, ?_⟩
  · have := k.grown.size; simp at this; omega
  · rw [k.grown.block i (by simp; omega) hne]; exact heap_alloc_old w _ hi
  · rcases k.place with e1 | ⟨k1, e1, hk⟩
    · exact Or.inl e1
    · exact Or.inr ⟨k1, e1, by simp at hk; omega⟩

section
variable {P : Program} {w : World} {ops : Array Oper} {rest : List Oper} {o : Oper} {a : Act} {Q : Exit → Act → World → Prop}

theorem run_app_rd {base t ty e size bytes : Nat} (hE : ElemT P t e size bytes) {v : Value} {n : Nat} {xs : List Value} (hown : w.ownsRow base e size v n xs)
    {B : Nat} {x : Value} {m : Nat} {news : List Value} (hrd : rd B w size x m news) (h1 : ∀ u ∈ news, u.oneCell' = true)
    (h63 : n + m ≤ maxLen) (hbytes : (n + m) * bytes ≤ 140737488355328) (hbase : base ≤ w.heap.size) :
    ∃ v' w', (Builtin.append_ #[t, t] ty #[v, x]).run P w = .ok v' w' ∧ App w w' base e size v v' (n + m) (xs ++ news) := by
  obtain ⟨hu, ⟨i, z, hi, hz, hs, hby, hzs⟩, hp⟩ := hE
  obtain ⟨h0, a', cap', rfl, h2, h3, h4, h5⟩ := hrd
  have hfirst : ∀ w1 : World, w1.heap = w.heap → (Builtin.firstCells size m (.slice a' m cap')).run P w1 = .ok news.toArray w1 := by
    intro w1 hw1
    cases a' with
    | none =>
      have : m = 0 := by have := h4 rfl; omega
      subst this
      have : news = [] := List.eq_nil_of_length_eq_zero (by simpa using h0)
      subst this
      exact run_firstCells_none w1 _ _ _ _
    | some ad =>
      refine run_firstCells_some (P := P) w1 size m ad m cap' news h0 fun j u hj => ?_
      by_cases hm : 0 < m
      · obtain ⟨b, off, e1, e2, e3⟩ := h5 hm
        obtain rfl := Option.some.inj e1
        rw [Addr.add_lit]
        have := e3 j u hj
        simpa [World.cell?, hw1] using this
      · have : m = 0 := by omega
        subst this
        have : news = [] := List.eq_nil_of_length_eq_zero (by simpa using h0)
        subst this
        simp at hj
  obtain ⟨v', w', r1, r2, r3, r4⟩ := run_append_src (P := P) w base t t ty e i z size bytes hu _ hu (Or.inl ⟨e, rfl⟩) hi hz hs hby hzs v n xs hown (.slice a' m cap') m news h0
    (fun _ => by simp [Builtin.lenOf]) hfirst h1 h63 hbytes hbase
  exact ⟨v', w', r1, r2, r3, r4.imp id fun h => ⟨_, h, Nat.le_refl _⟩⟩

/-- append(s, x...), s owned, x readable -/
theorem wpList_app (hgd : Region.wanted o (yielded ops a.tmps) = true) (s x : Operand) (t : TypeId) (ho : o.op = .call { callee := .builtin .append, args := #[s, x], argTypes := #[t, t] })
    {base e size bytes : Nat} (hE : ElemT P t e size bytes) {v : Value} {n : Nat} {xs : List Value} (hs : a.eval s = v) (hown : w.ownsRow base e size v n xs)
    {B : Nat} {u : Value} {m : Nat} {news : List Value} (hx : a.eval x = u) (hrd : rd B w size u m news) (h1 : ∀ u ∈ news, u.oneCell' = true)
    (h63 : n + m ≤ maxLen) (hbytes : (n + m) * bytes ≤ 140737488355328) (hbase : base ≤ w.heap.size)
    (h : ∀ v' w', App w w' base e size v v' (n + m) (xs ++ news) → wpList P ops Q rest (a.put o.dst v') w') : wpList P ops Q (o :: rest) a w := by
  obtain ⟨v', w', hr, h2⟩ := run_app_rd (ty := o.type) hE hown hrd h1 h63 hbytes hbase
  refine BigFrame.wpList_want hgd fun K hK => ?_
  unfold Oper.wp execOp
  simp only [ho, resolve, invoke, builtin, Sem.run_bind, Sem.run_pure, Result.andThen_ok, List.map_toArray, List.map_cons, List.map_nil, hs, hx, hr]
  exact hK _ _ (h v' w' h2)

theorem run_app_str {base t u ty e bytes : Nat} (hE : ElemT P t e 1 bytes) (hu : P.underlying u = some .string) {v : Value} {n : Nat} {xs : List Value} (hown : w.ownsRow base e 1 v n xs)
    (s : ByteArray) (h63 : n + s.size ≤ maxLen) (hbytes : (n + s.size) * bytes ≤ 140737488355328) (hbase : base ≤ w.heap.size) :
    ∃ v' w', (Builtin.append_ #[t, u] ty #[v, .string s]).run P w = .ok v' w' ∧ App w w' base e 1 v v' (n + s.size) (xs ++ s.data.toList.map fun b => Value.int .u8 b.toNat) := by
  obtain ⟨ht, ⟨i, z, hi, hz, hs, hby, hzs⟩, hp⟩ := hE
  obtain ⟨v', w', r1, r2, r3, r4⟩ := run_append_src (P := P) w base t u ty e i z 1 bytes ht _ hu (Or.inr rfl) hi hz hs hby hzs v n xs hown (.string s) s.size (s.data.toList.map fun b => Value.int .u8 b.toNat) (by simp)
    (fun _ => by simp [Builtin.lenOf]) (fun w1 _ => by
      have e1 : s.extract 0 s.size = s := by simp
      simp [Builtin.firstCells, e1]
      apply Array.ext'
      simp) (by intro u hu; obtain ⟨_, _, rfl⟩ := List.mem_map.1 hu; rfl) h63 hbytes hbase
  exact ⟨v', w', r1, r2, r3, r4.imp id fun h => ⟨_, h, Nat.le_refl _⟩⟩

/-- append(b, s...), s a string -/
theorem wpList_appStr (hgd : Region.wanted o (yielded ops a.tmps) = true) (s x : Operand) (t tu : TypeId) (ho : o.op = .call { callee := .builtin .append, args := #[s, x], argTypes := #[t, tu] })
    {base e bytes : Nat} (hE : ElemT P t e 1 bytes) (hu : P.underlying tu = some .string) {v : Value} {n : Nat} {xs : List Value} (hs : a.eval s = v) (hown : w.ownsRow base e 1 v n xs)
    (str : ByteArray) (hx : a.eval x = .string str)
    (h63 : n + str.size ≤ maxLen) (hbytes : (n + str.size) * bytes ≤ 140737488355328) (hbase : base ≤ w.heap.size)
    (h : ∀ v' w', App w w' base e 1 v v' (n + str.size) (xs ++ str.data.toList.map fun b => Value.int .u8 b.toNat) → wpList P ops Q rest (a.put o.dst v') w') : wpList P ops Q (o :: rest) a w := by
  obtain ⟨v', w', hr, h2⟩ := run_app_str (P := P) (ty := o.type) hE hu hown str h63 hbytes hbase
  refine BigFrame.wpList_want hgd fun K hK => ?_
  unfold Oper.wp execOp
  simp only [ho, resolve, invoke, builtin, Sem.run_bind, Sem.run_pure, Result.andThen_ok, List.map_toArray, List.map_cons, List.map_nil, hs, hx, hr]
  exact hK _ _ (h v' w' h2)

theorem rd.lit (w : World) (cs : List Value) (e s n : Nat) (hl : cs.length = n * s) (hn : n ≤ maxLen) : rd (w.heap.size + 1) (w.alloc (.cells cs.toArray e)) s (.slice (some ⟨w.heap.size, 0, none⟩) n n) n cs := by
  refine ⟨hl, some ⟨w.heap.size, 0, none⟩, n, rfl, Nat.le_refl _, hn, (fun e => by cases e), fun _ => ⟨w.heap.size, 0, rfl, by omega, fun j u hj => ?_⟩⟩
  rw [World.cell?_alloc_at _ _ _ _ rfl]
  simpa using hj

theorem own.lit (w : World) (cs : List Value) (e s n base : Nat) (hl : cs.length = n * s) (hn : n ≤ maxLen) (hb : base ≤ w.heap.size) : (w.alloc (.cells cs.toArray e)).ownsRow base e s (.slice (some ⟨w.heap.size, 0, none⟩) n n) n cs :=
  ⟨hl, .inr ⟨w.heap.size, n, cs.toArray, rfl, hb, heap_alloc_new w _, Nat.le_refl _, hn, by simpa using hl, by rw [← hl]; simp⟩⟩

theorem run_lit {t e s bytes : Nat} (hE : ElemT P t e s bytes) (vs : List Value) (hv : ∀ v ∈ vs, v.cells.size = s) (hn : vs ≠ []) (hs : vs.length * s ≤ 16777216) :
    (Instr.buildSlice t vs.length ((vs.zipIdx 0).map fun x => (x.2, x.1)).toArray).run P w = .ok (.slice (some ⟨w.heap.size, 0, none⟩) vs.length vs.length) (w.alloc (.cells (vs.flatMap fun v => v.cells.toList).toArray e)) := by
  obtain ⟨ht, ⟨i, z, hi, hz, rfl, hby, hzs⟩, hp⟩ := hE
  have hpos : 0 < vs.length := by cases vs with | nil => exact absurd rfl hn | cons x l => simp
  refine run_buildSlice w t e _ _ _ i z ht hi hz (by omega) (by have := Nat.mul_pos hpos hp; omega) ?_
  exact Go.Great.fill_whole hp vs _ hv (by simp)

/-- a slice literal -/
theorem wpList_lit (hgd : Region.wanted o (yielded ops a.tmps) = true) (t : TypeId) (xs : List Operand) (ho : o.op = .buildSlice t xs.length ((xs.zipIdx 0).map fun x => (x.2, x.1)).toArray)
    {e s bytes : Nat} (hE : ElemT P t e s bytes) (hv : ∀ x ∈ xs, (a.eval x).cells.size = s) (hn : xs ≠ []) (hs : xs.length * s ≤ 16777216)
    (h : wpList P ops Q rest (a.put o.dst (.slice (some ⟨w.heap.size, 0, none⟩) xs.length xs.length)) (w.alloc (.cells (xs.flatMap fun x => (a.eval x).cells.toList).toArray e))) : wpList P ops Q (o :: rest) a w := by
  have hr := run_lit (P := P) (w := w) hE (xs.map a.eval) (by intro v hv'; obtain ⟨x, hx, rfl⟩ := List.mem_map.1 hv'; exact hv x hx) (by simpa using hn) (by simpa using hs)
  refine BigFrame.wpList_want hgd fun K hK => ?_
  have e1 : ((xs.zipIdx 0).map fun x => (x.2, x.1)).toArray.map (fun (i, x) => (i, a.eval x)) = (((xs.map a.eval).zipIdx 0).map fun x => (x.2, x.1)).toArray := by
    simp [List.zipIdx_map, Function.comp_def]
  simp only [List.length_map, List.flatMap_map] at hr
  unfold Oper.wp execOp
  simp only [ho, Sem.run_bind, e1, hr, Result.andThen_ok]
  exact hK _ _ h

/-- append(s, y): one element, of however many cells -/
theorem wpList_app1 {o2 : Oper} (hgd : Region.wanted o (yielded ops a.tmps) = true) (hgd2 : Region.wanted o2 (yielded ops (a.put o.dst (.slice (some ⟨w.heap.size, 0, none⟩) 1 1)).tmps) = true) (s y : Operand) (t : TypeId) (d1 : Tmp) (ho : o.op = .buildSlice t 1 #[(0, y)]) (hd : o.dst = some d1)
    (ho2 : o2.op = .call { callee := .builtin .append, args := #[s, .tmp d1], argTypes := #[t, t] }) (hd1 : Nat.blt d1 a.tmps.size = true)
    {base e size bytes : Nat} (hE : ElemT P t e size bytes) {v : Value} {n : Nat} {xs : List Value} (hs : (a.put (some d1) (.slice (some ⟨w.heap.size, 0, none⟩) 1 1)).eval s = v) (hown : w.ownsRow base e size v n xs)
    {u : Value} (hx : a.eval y = u) (hu : u.cells.size = size) (h1 : ∀ x ∈ u.cells.toList, x.oneCell' = true) (hsz : size ≤ 16777216)
    (h63 : n + 1 ≤ maxLen) (hbytes : (n + 1) * bytes ≤ 140737488355328) (hbase : base ≤ w.heap.size)
    (h : ∀ v' w', App w w' base e size v v' (n + 1) (xs ++ u.cells.toList) → wpList P ops Q rest ((a.put o.dst (.slice (some ⟨w.heap.size, 0, none⟩) 1 1)).put o2.dst v') w') : wpList P ops Q (o :: o2 :: rest) a w := by
  refine wpList_lit hgd t [y] (by simpa using ho) hE (by intro x hx'; simp at hx'; subst hx'; rw [hx]; exact hu) (by simp) (by simpa using hsz) ?_
  simp only [List.flatMap_cons, List.flatMap_nil, List.append_nil, hx, Array.toArray_toList, List.length_singleton]
  have hl := rd.lit w u.cells.toList e size 1 (by simpa using hu) (by simp only [maxLen]; omega)
  rw [Array.toArray_toList] at hl
  have ho1 : (w.alloc (.cells u.cells e)).ownsRow base e size v n xs := hown.alloc _
  refine wpList_app (o := o2) hgd2 s (.tmp d1) t ho2 hE (v := v) (by rw [hd]; exact hs) ho1 (u := .slice (some ⟨w.heap.size, 0, none⟩) 1 1) ?_ hl h1 h63 hbytes (by simp; omega) fun v' w' hA => h v' w' (App.alloc _ hA)
  rw [hd]
  have hd1' : d1 < a.tmps.size := by simpa using hd1
  simp [Act.put, Act.eval, hd1']

/-- the same where an element is one cell -/
theorem wpList_app1c {o2 : Oper} (hgd : Region.wanted o (yielded ops a.tmps) = true) (hgd2 : Region.wanted o2 (yielded ops (a.put o.dst (.slice (some ⟨w.heap.size, 0, none⟩) 1 1)).tmps) = true) (s y : Operand) (t : TypeId) (d1 : Tmp) (ho : o.op = .buildSlice t 1 #[(0, y)]) (hd : o.dst = some d1)
    (ho2 : o2.op = .call { callee := .builtin .append, args := #[s, .tmp d1], argTypes := #[t, t] }) (hd1 : Nat.blt d1 a.tmps.size = true)
    {base e bytes : Nat} (hE : ElemT P t e 1 bytes) {v : Value} {n : Nat} {xs : List Value} (hs : (a.put (some d1) (.slice (some ⟨w.heap.size, 0, none⟩) 1 1)).eval s = v) (hown : w.ownsRow base e 1 v n xs)
    (u : Value) (hx : a.eval y = u) (hu : u.cells = #[u]) (h1 : u.oneCell' = true)
    (h63 : n + 1 ≤ maxLen) (hbytes : (n + 1) * bytes ≤ 140737488355328) (hbase : base ≤ w.heap.size)
    (h : ∀ v' w', App w w' base e 1 v v' (n + 1) (xs ++ [u]) → wpList P ops Q rest ((a.put o.dst (.slice (some ⟨w.heap.size, 0, none⟩) 1 1)).put o2.dst v') w') : wpList P ops Q (o :: o2 :: rest) a w :=
  wpList_app1 hgd hgd2 s y t d1 ho hd ho2 hd1 hE hs hown hx (by rw [hu]; rfl) (by rw [hu]; intro x hx; simp at hx; subst hx; exact h1) (by decide) h63 hbytes hbase
    (fun v' w' hA => h v' w' (by rw [hu] at hA; simpa using hA))

theorem str_eql (t : TypeId) (a b : List UInt8) : binOp .eql t (.string ⟨a.toArray⟩) (.string ⟨b.toArray⟩) = pure (.bool (a == b)) := by
  have e : ∀ l : List UInt8, (ByteArray.mk l.toArray).toList = l := fun l => by rw [ByteArray.toList_eq]
  rw [binOp_string_eql, e, e]
theorem str_neq (t : TypeId) (a b : List UInt8) : binOp .neq t (.string ⟨a.toArray⟩) (.string ⟨b.toArray⟩) = pure (.bool (!(a == b))) := by
  have e : ∀ l : List UInt8, (ByteArray.mk l.toArray).toList = l := fun l => by rw [ByteArray.toList_eq]
  rw [binOp_string_neq, e, e]
attribute [go_sem high] str_eql str_neq
@[go_sem] theorem eql_slice_nil (w : World) (t e : TypeId) (a : Option Addr) (l c : Nat) (h : P.underlying t = some (.slice e)) : (binOp .eql t (.slice a l c) (.slice none 0 0)).run P w = .ok (.bool a.isNone) w :=
  Lib.run_eql_slice_nil w _ _ a l c 0 0 h

theorem own.below {base e s n : Nat} {w' : World} {v : Value} {xs : List Value} (h : w.ownsRow base e s v n xs) (hb : Below w.heap.size w w') : w'.ownsRow base e s v n xs := by
  refine ⟨h.1, h.2.imp id ?_⟩
  rintro ⟨g, cap, cur, h1, h2, h3, h4⟩
  exact ⟨g, cap, cur, h1, h2, by rw [hb.block g (Array.getElem?_eq_some_iff.1 h3).1]; exact h3, h4⟩

theorem own.mono {base base' e s n : Nat} {v : Value} {xs : List Value} (h : w.ownsRow base e s v n xs) (hb : base' ≤ base) : w.ownsRow base' e s v n xs := by
  refine ⟨h.1, h.2.imp id ?_⟩
  rintro ⟨g, cap, cur, h1, h2, h3⟩
  exact ⟨g, cap, cur, h1, Nat.le_trans hb h2, h3⟩

/-- the value of a cut, in whatever world -/
theorem run_slice_all {t e s bytes : Nat} (hE : ElemT P t e s bytes) {v : Value} {n : Nat} (hv : ∃ a cap, v = .slice a n cap ∧ n ≤ cap) (lo hi : Option Value) (l h : Nat)
    (hlo : (lo = none ∧ l = 0) ∨ lo = some (.int .i64 l)) (hhi : (hi = none ∧ h = n) ∨ hi = some (.int .i64 h)) (h1 : l ≤ h) (h2 : h ≤ n) :
    ∃ v', (∀ w : World, (Instr.sliceAt t v lo hi none).run P w = .ok v' w) ∧ (∀ B (w : World) xs, rd B w s v n xs → rd B w s v' (h - l) ((xs.drop (l * s)).take ((h - l) * s))) ∧
      (0 < h - l → v'.ownBlock = v.ownBlock) := by
  obtain ⟨hu, ⟨i, z, hi', hz, rfl, hby, hzs⟩, hp⟩ := hE
  obtain ⟨a', cap', rfl, h2'⟩ := hv
  have he : P.underlying t = some (.slice (P.elem t)) := by simp [Program.elem, hu]
  have hee : P.elem t = e := by simp [Program.elem, hu]
  refine ⟨_, fun w => ?_, fun B w xs hrd => rd.sliced hrd l h h1 h2, ?_⟩
  · rw [run_sliceAt_slice w t _ _ _ _ he]
    rcases hlo with ⟨rfl, rfl⟩ | rfl
    · rcases hhi with ⟨rfl, rfl⟩ | rfl
      · rw [Go.run_slice_all w t a' _ cap' he, hee]
        simp [sizeOf, typeInfo, hi', Go.sliced, Nat.sub_zero]
      · rw [run_slice_h w t a' n cap' he .i64 h (by omega) (by omega), hee]
        simp [sizeOf, typeInfo, hi', Go.sliced]
    · rcases hhi with ⟨rfl, rfl⟩ | rfl
      · rw [run_slice_l w t a' _ cap' he .i64 l (by omega) (by omega), hee]
        simp [sizeOf, typeInfo, hi', Go.sliced]
      · rw [run_slice_lh w t a' n cap' he .i64 .i64 l h (by omega) (by omega) (by omega), hee]
        simp [sizeOf, typeInfo, hi', Go.sliced]
  · intro hpos
    rw [if_neg (by omega)]
    cases a' with
    | none => rfl
    | some ad => simp [Value.ownBlock, Addr.add]; split <;> rfl

theorem rd.shape {B : Nat} {s : Nat} {v : Value} {n : Nat} {xs : List Value} (h : rd B w s v n xs) : ∃ a cap, v = .slice a n cap ∧ n ≤ cap := by
  obtain ⟨_, a, cap, h1, h2, _⟩ := h; exact ⟨a, cap, h1, h2⟩

theorem wpQuiet_val {C : World → Prop} {Q : Act → Prop} (hg : Region.wanted o (yielded ops a.tmps) = true) (v : Value) (h : ∀ w, C w → (execOp a.eval o).run P w = .ok (.value v) w) (hk : wpQuiet P ops C Q rest (a.put o.dst v)) : wpQuiet P ops C Q (o :: rest) a := by
  refine wpQuiet_step fun K hK => ?_
  rw [if_pos hg]
  refine ⟨v, fun w hw => ?_, hK _ hk⟩
  unfold Oper.quietAt
  rw [h w hw]
  exact ⟨rfl, rfl⟩

theorem wpQuiet_slice {C : World → Prop} {Q : Act → Prop} (hgd : Region.wanted o (yielded ops a.tmps) = true) (t : TypeId) (x : Operand) (lo hi : Option Operand) (ho : o.op = .slice t x lo hi none)
    {e s bytes : Nat} (hE : ElemT P t e s bytes) {v : Value} {n : Nat} (hx : a.eval x = v) (hv : ∃ a cap, v = .slice a n cap ∧ n ≤ cap) (l h : Nat)
    (hlo : (lo.map a.eval = none ∧ l = 0) ∨ lo.map a.eval = some (.int .i64 l)) (hhi : (hi.map a.eval = none ∧ h = n) ∨ hi.map a.eval = some (.int .i64 h)) (h1 : l ≤ h) (h2 : h ≤ n)
    (hk : ∀ v', (∀ B (w : World) xs, rd B w s v n xs → rd B w s v' (h - l) ((xs.drop (l * s)).take ((h - l) * s))) → (0 < h - l → v'.ownBlock = v.ownBlock) → wpQuiet P ops C Q rest (a.put o.dst v')) : wpQuiet P ops C Q (o :: rest) a := by
  obtain ⟨v', hr, h3, h4⟩ := run_slice_all (P := P) hE hv (lo.map a.eval) (hi.map a.eval) l h hlo hhi h1 h2
  refine wpQuiet_val hgd v' (fun w _ => ?_) (hk v' h3 h4)
  unfold execOp
  simp only [ho, Option.map_none, Sem.run_bind, hx, hr, Result.andThen_ok]
  rfl

theorem run_slice_rd {t e s bytes : Nat} (hE : ElemT P t e s bytes) {B : Nat} {v : Value} {n : Nat} {xs : List Value} (hrd : rd B w s v n xs) (lo hi : Option Value) (l h : Nat)
    (hlo : (lo = none ∧ l = 0) ∨ lo = some (.int .i64 l)) (hhi : (hi = none ∧ h = n) ∨ hi = some (.int .i64 h)) (h1 : l ≤ h) (h2 : h ≤ n) :
    ∃ v', (Instr.sliceAt t v lo hi none).run P w = .ok v' w ∧ rd B w s v' (h - l) ((xs.drop (l * s)).take ((h - l) * s)) := by
  obtain ⟨hu, ⟨i, z, hi', hz, rfl, hby, hzs⟩, hp⟩ := hE
  have hrd' := hrd
  obtain ⟨h0, a', cap', rfl, h2', h3, h4, h5⟩ := hrd
  have he : P.underlying t = some (.slice (P.elem t)) := by simp [Program.elem, hu]
  have hee : P.elem t = e := by simp [Program.elem, hu]
  refine ⟨_, ?_, rd.sliced hrd' l h h1 h2⟩
  rw [run_sliceAt_slice w t _ _ _ _ he]
  rcases hlo with ⟨rfl, rfl⟩ | rfl
  · rcases hhi with ⟨rfl, rfl⟩ | rfl
    · rw [Go.run_slice_all w t a' _ cap' he, hee]
      simp [sizeOf, typeInfo, hi', Go.sliced, Nat.sub_zero]
    · rw [run_slice_h w t a' n cap' he .i64 h (by omega) (by omega), hee]
      simp [sizeOf, typeInfo, hi', Go.sliced]
  · rcases hhi with ⟨rfl, rfl⟩ | rfl
    · rw [run_slice_l w t a' _ cap' he .i64 l (by omega) (by omega), hee]
      simp [sizeOf, typeInfo, hi', Go.sliced]
    · rw [run_slice_lh w t a' n cap' he .i64 .i64 l h (by omega) (by omega) (by omega), hee]
      simp [sizeOf, typeInfo, hi', Go.sliced]

theorem wpList_slice (hgd : Region.wanted o (yielded ops a.tmps) = true) (t : TypeId) (x : Operand) (lo hi : Option Operand) (ho : o.op = .slice t x lo hi none)
    {e s bytes : Nat} (hE : ElemT P t e s bytes) {B : Nat} {v : Value} {n : Nat} {xs : List Value} (hx : a.eval x = v) (hrd : rd B w s v n xs) (l h : Nat)
    (hlo : (lo.map a.eval = none ∧ l = 0) ∨ lo.map a.eval = some (.int .i64 l)) (hhi : (hi.map a.eval = none ∧ h = n) ∨ hi.map a.eval = some (.int .i64 h)) (h1 : l ≤ h) (h2 : h ≤ n)
    (hk : ∀ v', rd B w s v' (h - l) ((xs.drop (l * s)).take ((h - l) * s)) → wpList P ops Q rest (a.put o.dst v') w) : wpList P ops Q (o :: rest) a w := by
  obtain ⟨v', hr, h3⟩ := run_slice_rd (P := P) hE hrd (lo.map a.eval) (hi.map a.eval) l h hlo hhi h1 h2
  refine BigFrame.wpList_want hgd fun K hK => ?_
  unfold Oper.wp execOp
  simp only [ho, Option.map_none, Sem.run_bind, hx, hr, Result.andThen_ok]
  exact hK _ _ (hk v' h3)

def Tok : Prop := True
/-- the walk stands still at the operation that writes slot d -/
theorem stp (d : Nat) {op : Op} {ty : TypeId} {pos : String} {af : Array Edge} {g : Option (Nat × Bool)} (h : Tok → wpList P ops Q (⟨some d, op, ty, pos, af, g⟩ :: rest) a w) :
    wpList P ops Q (⟨some d, op, ty, pos, af, g⟩ :: rest) a w := h trivial
end
end Go.Proofs.Ytegkjnibkilbpaa
