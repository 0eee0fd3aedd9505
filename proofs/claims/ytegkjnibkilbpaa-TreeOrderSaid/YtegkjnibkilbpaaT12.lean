import Derived.Test.YtegkjnibkilbpaaT11
import Derived.RangeFuncFrom
import Derived.Maps.AppendAt
namespace Go.Proofs.Ytegkjnibkilbpaa
open Go.RowKit Go.Shelf

attribute [local go_sem] Oper.semAt_some

variable {F : Fence} {n : Nat} {P : Program}

/-- a loop over an iterator of strings that may draw ahead of its rounds: rounds go on (I), or leave by a break (Ix) -/
theorem range_texts {g : Operand} {ps : Array Tmp} {assign body : Code} {Q : Exit → Act → World → Prop} {a : Act} {w : World} {brk n₀ N : Nat}
    (hro : F.round = none) (h1 : 1 ≤ n) {gf : Nat} {lb : Array Value} (hg : a.eval g = .func (.func gf) #[] lb) (hFg : F.fn gf) (eg : ∀ args w, (callFunc gf args).run P w = .ok (.enter gf args) w)
    (all : List (List UInt8)) (hps : ps.size = 1)
    (hseq : ∀ (l : Nat) (J Jx : List (List UInt8) → World → Prop) (W : World), Below w.heap.size w W →
      (∀ pre (x : List UInt8) W1, J pre W1 → pre.length < N → YieldAt F (n - 1 - 1) P l #[.string ⟨x.toArray⟩] W1 fun e W' => (e = .returned (.bool true) ∧ J (pre ++ [x]) W' ∧ Below n₀ W1 W') ∨ (e = .returned (.bool false) ∧ Jx (pre ++ [x]) W')) →
      J [] W.drew → CallsIn F (n - 1) P gf (#[.func (.yield l) #[] #[]] ++ lb) W fun e W' => (∃ v, e = .returned v) ∧ ((∃ ys, ys = all ∧ J ys W') ∨ (∃ pre, pre <+: all ∧ Jx pre W')))
    (hn₀ : n₀ ≤ w.heap.size) (I Ix : List (List UInt8) → World → Prop) (hI : OwnFrom w.heap.size I) (hIx : OwnFrom w.heap.size Ix) (hId : ∀ pre W, I pre W → I pre W.drew) (h0 : I [] w) (a₁ : List UInt8 → Act)
    (hassign : ∀ (l : Nat) (x : List UInt8) (W : World) (K : Act → World → Prop), K (a₁ x) W →
      assign.wpIn (F.inRound l) (n - 1 - 1) P (Exit.then K (fun _ _ _ => False)) { tmps := (ps.zip #[.string ⟨x.toArray⟩]).foldl (fun t (p, v) => t.setIfInBounds p v) a.tmps, defers := [] } W)
    (hbody : ∀ (l : Nat) (pre : List (List UInt8)) (x : List UInt8) (W : World), I pre W → pre.length < N → body.wpIn (F.inRound l) (n - 1 - 1) P (fun e _ W' => (e = .normal ∧ KeepsOthers W W' ∧ Below n₀ W W' ∧ I (pre ++ [x]) W') ∨ (e = .exit brk ∧ KeepsOthers W W' ∧ Ix (pre ++ [x]) W')) (a₁ x) W)
    (hdone : ∀ (D : Nat) (W : World), w.heap.size ≤ D → I all W → W.heap[D]? = some (.deferred (some [])) → Q .normal { a with defers := { target := .collected D, args := #[] } :: a.defers } W)
    (hstop : ∀ (D : Nat) (pre : List (List UInt8)) (W : World), w.heap.size ≤ D → pre <+: all → Ix pre W → W.heap[D]? = some (.deferred (some [])) → (Code.exit brk).wpIn F n P Q { a with defers := { target := .collected D, args := #[] } :: a.defers } W) :
    (Code.rangeFunc g ps assign body).wpIn F n P Q a w := by
  refine wpIn_rangeFunc ?_
  intro fn hfn
  rw [hro]
  obtain ⟨rec, hrec⟩ : ∃ rec : LoopState → Option Code → Loop, ∀ st pe, rec st pe = { state := st, pending := pe, fn, tmps := a.tmps, params := ps, assign, body, defers := w.heap.size } := ⟨_, fun _ _ => rfl⟩
  obtain ⟨L, hL⟩ : ∃ L, L = w.heap.size + 1 := ⟨_, rfl⟩
  obtain ⟨W1, hW1⟩ : ∃ W1, (w.alloc (.deferred (some []))).alloc (.loop (rec .ready none)) = W1 := ⟨_, rfl⟩
  have hrd : W1.heap[L]? = some (.loop (rec .ready none)) := by
    have h := World.alloc_heap_new (w.alloc (.deferred (some []))) (.loop (rec .ready none))
    rw [World.size_alloc, ← hL, hW1] at h
    exact h
  have hdf : W1.heap[w.heap.size]? = some (.deferred (some [])) := by
    rw [← hW1]; exact (Below.heap_alloc _ _ _ (by simp)).trans (World.alloc_heap_new w _)
  have hI1 : I [] W1 := by rw [← hW1]; exact hI.alloc _ (hI.alloc _ h0)
  have hb1 : Below w.heap.size w W1 := by rw [← hW1]; exact ((Below.refl _ w).alloc (Nat.le_refl _) _).alloc (by simp) _
  let Bk : LoopState → Option Code → World → Prop := fun st pe W => W.heap[L]? = some (.loop (rec st pe)) ∧ W.heap[w.heap.size]? = some (.deferred (some []))
  have turn : ∀ {st st' : LoopState} {pe pe' : Option Code} {W : World}, Bk st pe W → Bk st' pe' (W.putObj L (.loop (rec st' pe'))) := fun hk =>
    ⟨World.putObj_heap_same (Array.getElem?_eq_some_iff.1 hk.1).1, (World.putObj_heap_other (by omega)).trans hk.2⟩
  have turnB : ∀ (W : World) (o : Obj), L < W.heap.size → Below n₀ W (W.putObj L o) := fun W o hlt =>
    (Below.refl n₀ W).grown (grownBy_putObj' W L o) (by omega) (fun k e => by cases e; omega)
  have keeps : ∀ {st : LoopState} {pe : Option Code} {W W' : World}, Bk st pe W → KeepsOthers W W' → Bk st pe W' := fun hk hk' => ⟨hk'.same _ _ hk.1 rfl, hk'.same _ _ hk.2 rfl⟩
  have lt : ∀ {st : LoopState} {pe : Option Code} {W : World}, Bk st pe W → L < W.heap.size := fun hk => (Array.getElem?_eq_some_iff.1 hk.1).1
  have busy : ∀ st pe st', ({ rec st pe with state := st' } : Loop) = rec st' pe := fun st pe st' => by rw [hrec, hrec]
  refine ⟨L, [{ target := .collected w.heap.size, args := #[] }], W1, { target := .fn (.func gf) lb, args := #[.func (.yield L) #[] #[]] }, W1, gf, #[.func (.yield L) #[] #[]] ++ lb, W1, ?_, ?_, ?_, ?_, fun _ => h1, ?_⟩
  · rw [← hW1, hrec, hL]; exact run_enterLoop_outer _ _ _ _ _
  · simp only [resolve, hg]
    simp [go_sem]
  · intro f' hf'; simp [Target.leads] at hf'; subst hf'; exact hFg
  · simp [invoke, go_sem, eg]
  · refine (hseq L (fun pre W => I pre W ∧ Bk .ready none W) (fun pre W => Ix pre W ∧ Bk .done (some (.exit brk)) W) W1 hb1 ?_ ⟨hId _ _ hI1, hrd, hdf⟩).mono ?_
    · rintro pre x W ⟨hi, hk⟩ hlen
      have hy := run_yield (P := P) (args := #[.string ⟨x.toArray⟩]) hk.1 (by rw [hrec]; simp [hps])
      have hbg := run_beginRound (P := P) hk.1 (by rw [hrec])
      rw [busy] at hbg
      rw [hrec] at hy
      refine ⟨fn, _, assign, body, hy, roundIn_of_wpIn hfn (hassign _ x W _ ⟨_, hbg, ?_⟩)⟩
      have hk2 : Bk .busy none (W.putObj L (.loop (rec .busy none))) := turn hk
      have hi2 : I pre (W.putObj L (.loop (rec .busy none))) := hI.putObj _ hi (by omega) hk.1 rfl
      have hB2 := turnB W (.loop (rec .busy none)) (lt hk)
      refine wpIn_mono (hbody _ pre x _ hi2 hlen) ?_
      rintro e a3 W3 (⟨rfl, hk3, hb3, hi3⟩ | ⟨rfl, hk3, hi3⟩)
      · have hk4 := keeps hk2 hk3
        have hend := run_endRound (P := P) none hk4.1
        rw [show ({ rec .busy none with state := if (none : Option Code).isNone then .ready else .done, pending := none } : Loop) = rec .ready none by rw [hrec, hrec]; rfl] at hend
        refine ⟨_, _, hend, .inl ⟨rfl, ⟨hI.putObj _ hi3 (by omega) hk4.1 rfl, turn hk4⟩, (hB2.trans hb3).trans (turnB W3 _ (lt hk4))⟩⟩
      · have hk4 := keeps hk2 hk3
        have hend := run_endRound (P := P) (some (.exit brk)) hk4.1
        rw [show ({ rec .busy none with state := if (some (Code.exit brk)).isNone then .ready else .done, pending := some (.exit brk) } : Loop) = rec .done (some (.exit brk)) by rw [hrec, hrec]; rfl] at hend
        exact ⟨_, _, hend, .inr ⟨rfl, hIx.putObj _ hi3 (by omega) hk4.1 rfl, turn hk4⟩⟩
    · rintro e W2 ⟨⟨v, rfl⟩, (⟨_, rfl, hi, hk⟩ | ⟨pre, hpre, hi, hk⟩)⟩
      · have hend := run_endLoop (P := P) hk.1 (by rw [hrec]; simp)
        exact ⟨none, _, by rw [hrec] at hend; exact hend, hdone _ _ (Nat.le_refl _) (hI.putObj _ hi (by omega) hk.1 rfl) ((World.putObj_heap_other (by omega)).trans hk.2)⟩
      · have hend := run_endLoop (P := P) hk.1 (by rw [hrec]; simp)
        exact ⟨some (.exit brk), _, by rw [hrec] at hend; exact hend, hstop _ pre _ (Nat.le_refl _) hpre (hIx.putObj _ hi (by omega) hk.1 rfl) ((World.putObj_heap_other (by omega)).trans hk.2)⟩
end Go.Proofs.Ytegkjnibkilbpaa
