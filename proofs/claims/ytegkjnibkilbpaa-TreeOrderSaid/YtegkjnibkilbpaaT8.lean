import Derived.Test.YtegkjnibkilbpaaT7
namespace Go.Proofs.Ytegkjnibkilbpaa
open Go.RowKit

/-- a Tree: a block of one cell -/
def okR (B : Nat) (w : World) (b : Nat) (t : T) : Prop := b < B ∧ w.cell? ⟨b, 0, none⟩ = some (ptr t) ∧ okT B w t
theorem okR.below {B : Nat} {w w' : World} {b : Nat} {t : T} (hb : Below B w w') (h : okR B w b t) : okR B w' b t := ⟨h.1, (hb.cell (p := ⟨b, 0, none⟩) h.1).trans h.2.1, okT.below hb h.2.2⟩
theorem okR.mono {B B' : Nat} {w : World} {b : Nat} {t : T} (hb : B ≤ B') (h : okR B w b t) : okR B' w b t := ⟨Nat.lt_of_lt_of_le h.1 hb, h.2.1, okT.mono hb h.2.2⟩
theorem okR.step {w w' : World} {b : Nat} {t : T} (h : okR w.heap.size w b t) (hb : Below w.heap.size w w') : okR w'.heap.size w' b t := (okR.below hb h).mono hb.size
def rad (b : Nat) : Value := .pointer (some ⟨b, 0, none⟩)

/-- a new Tree's block at the heap's end -/
theorem okR.new {w : World} {t : T} (h : okT w.heap.size w t) : okR (w.alloc (.cells #[ptr t] 44)).heap.size (w.alloc (.cells #[ptr t] 44)) w.heap.size t := by
  have hB : Below w.heap.size w (w.alloc (.cells #[ptr t] 44)) := (Below.refl _ _).alloc (Nat.le_refl _) _
  refine ⟨by simp, ?_, h.step hB⟩
  rw [World.cell?_alloc_at _ _ _ _ rfl]
  rfl

/-- what a call leaves that hands back a Tree -/
def RPost (t : T) (b : Nat) (w : World) (e : Ending) (w' : World) : Prop := e = .returned (rad b) ∧ okR w'.heap.size w' b t ∧ Below w.heap.size w w' ∧ w'.heap.size = b + 1

set_option maxRecDepth 100000 in
theorem Put_any (w : World) (b : Nat) (t : T) (x : List UInt8) (n : Int) (ht : okR w.heap.size w b t) (hc : t.cnt < 1099511627776) :
    Calls Try.prog 9 #[rad b, .string ⟨x.toArray⟩, .int .i64 n] w (RPost (putT w.heap.size x n t).1 (putT w.heap.size x n t).2 w) := by
  obtain ⟨h0, h1, h2⟩ := ht
  unfold rad
  go_enter Try.func9, Try.ntmps9
  go_wp2_with fail
  refine (put_any x n t w h2 hc).mono ?_
  rintro e w1 ⟨rfl, h1', hB1, hs1⟩
  go_wp2
  go_ret
  rw [← hs1]
  exact ⟨rfl, okR.new h1', hB1.alloc hB1.size _, by simp⟩

theorem findT_mem : ∀ {t : T} {x : List UInt8}, findT x t ≠ .nil → x ∈ t.names
  | .nil, _, h => absurd rfl h
  | .node p y m l r, x, h => by
    rw [findT] at h
    rw [T.names]
    split at h
    · rename_i h1
      have : y = x := by simpa using h1
      subst this
      simp
    · split at h
      · exact List.mem_append_left _ (findT_mem h)
      · exact List.mem_append_right _ (List.mem_cons_of_mem _ (findT_mem h))

/-- what Drop makes -/
def DropP (w : World) (b : Nat) (t : T) (x : List UInt8) (e : Ending) (w' : World) : Prop :=
  ((findT x t).isNil = true ∧ e = .returned (rad b) ∧ w = w') ∨ ((findT x t).isNil = false ∧ RPost (dropT w.heap.size x t).1 (dropT w.heap.size x t).2 w e w')

set_option maxRecDepth 100000 in
theorem Drop_any (w : World) (b : Nat) (t : T) (x : List UInt8) (ht : okR w.heap.size w b t) (hs : srt t) (hc : t.cnt < 1099511627776) :
    Calls Try.prog 10 #[rad b, .string ⟨x.toArray⟩] w (DropP w b t x) := by
  obtain ⟨h0, h1, h2⟩ := ht
  unfold rad
  have hfc := find_any w _ x t h2
  cases hf : findT x t with
  | nil =>
    have HN : Hid ((findT x t).isNil = true) := by rw [hf]; exact Lib.hid rfl
    rw [hf] at hfc
    simp only [ptr, adr] at hfc
    go_enter Try.func10, Try.ntmps10
    go_wp2_with fail
    refine hfc.mono ?_
    rintro e w1 ⟨rfl, rfl⟩
    go_wp2
    go_ret
    exact Or.inl ⟨HN.out, rfl, rfl⟩
  | node q y m l r =>
    have HN : Hid ((findT x t).isNil = false) := by rw [hf]; exact Lib.hid rfl
    have hm : x ∈ t.names := findT_mem (by rw [hf]; intro h; cases h)
    rw [hf] at hfc
    simp only [ptr, adr] at hfc
    clear hf
    go_enter Try.func10, Try.ntmps10
    go_wp2_with fail
    refine hfc.mono ?_
    rintro e w1 ⟨rfl, rfl⟩
    go_wp2_with fail
    refine (drop_any t x w h2 hs hm hc).mono ?_
    rintro e w1 ⟨rfl, h1', hB1, hs1⟩
    go_wp2
    go_ret
    refine Or.inr ⟨HN.out, ?_⟩
    rw [← hs1]
    exact ⟨rfl, okR.new h1', hB1.alloc hB1.size _, by simp⟩

theorem Len_any (w : World) (B b : Nat) (t : T) (ht : okR B w b t) : Calls Try.prog 12 #[rad b] w fun e w' => e = .returned (.int .i64 (t.cnt : Nat)) ∧ w = w' := by
  obtain ⟨h0, h1, h2⟩ := ht
  unfold rad
  go_enter Try.func12, Try.ntmps12
  go_wp2_with fail
  refine (count_any w _ t h2).mono ?_
  rintro e w1 ⟨rfl, rfl⟩
  go_wp2
  go_ret
  exact ⟨rfl, rfl⟩

theorem Depth_any (w : World) (B b : Nat) (t : T) (ht : okR B w b t) : Calls Try.prog 13 #[rad b] w fun e w' => e = .returned (.int .i64 (t.dep : Nat)) ∧ w = w' := by
  obtain ⟨h0, h1, h2⟩ := ht
  unfold rad
  go_enter Try.func13, Try.ntmps13
  go_wp2_with fail
  refine (deep_any w _ t h2).mono ?_
  rintro e w1 ⟨rfl, rfl⟩
  go_wp2
  go_ret
  exact ⟨rfl, rfl⟩
end Go.Proofs.Ytegkjnibkilbpaa
