/-
  Texts put together: B1, B2, B3, BM, B4, B5, B6, B7, B8, B9. No condition.
-/
import Derived.RangeFuncSeq
import Derived.OrdersIn
import Derived.Sort.LoopGhostIn
import Derived.Test.YtahdkhklngjmoaaGreatDoorM2
import Derived.MapKept
import Derived.Maps.RangeRun
import Derived.Deep.LoopGhost
import Derived.Shelf.Abstract
import Derived.RangeFuncRecord
/-
  The abstract machine: states, contracts, and the operations that turn something. No condition.
-/
namespace Go.Proofs.YtahdkhklngjmoaaGreatDoor
open Go.RowKit

structure St where
  e : Env
  L : Loc
  H : Heap

/-- there may be such a value -/
def Wf (x : AV) : Prop := ∃ M u, rep M x u
/-- what stands for x stands for y -/
def Le (x y : AV) : Prop := ∀ M u, rep M x u → rep M y u
def LeL : List AV → List AV → Prop
  | [], [] => True
  | x :: xs, y :: ys => Le x y ∧ LeL xs ys
  | _, _ => False

theorem Le.refl (x : AV) : Le x x := fun _ _ h => h
theorem Le.trans {x y z : AV} (h : Le x y) (k : Le y z) : Le x z := fun M u hu => k M u (h M u hu)
theorem LeL.refl : ∀ xs : List AV, LeL xs xs
  | [] => trivial
  | x :: xs => ⟨Le.refl x, LeL.refl xs⟩
theorem LeL.repC {M : Mem} : ∀ {xs ys : List AV} {cs : List Value}, LeL xs ys → repC M xs cs → repC M ys cs
  | [], [], _, _, h => h
  | x :: xs, y :: ys, cs, hl, h => by
    simp only [Proofs.YtahdkhklngjmoaaGreatDoor.repC] at h ⊢
    obtain ⟨c, cs', e, ⟨h1, h2⟩, h3⟩ := h
    exact ⟨c, cs', e, ⟨h1, hl.1 _ _ h2⟩, LeL.repC hl.2 h3⟩
  | [], _ :: _, _, hl, _ => hl.elim
  | _ :: _, [], _, hl, _ => hl.elim
theorem LeL.repT {M : Mem} : ∀ {xs ys : List AV} {cs : List Value}, LeL xs ys → repT M xs cs → repT M ys cs
  | [], [], _, _, h => h
  | x :: xs, y :: ys, cs, hl, h => by
    simp only [Proofs.YtahdkhklngjmoaaGreatDoor.repT] at h ⊢
    obtain ⟨c, cs', e, h2, h3⟩ := h
    exact ⟨c, cs', e, hl.1 _ _ h2, LeL.repT hl.2 h3⟩
  | [], _ :: _, _, hl, _ => hl.elim
  | _ :: _, [], _, hl, _ => hl.elim
theorem LeL.atL {M : Mem} : ∀ {xs ys : List AV} {b o : Nat}, LeL xs ys → atL M xs b o → atL M ys b o
  | [], [], _, _, _, h => h
  | x :: xs, y :: ys, b, o, hl, h => by
    simp only [Proofs.YtahdkhklngjmoaaGreatDoor.atL] at h ⊢
    obtain ⟨⟨c, h1, h2, h3⟩, h4⟩ := h
    exact ⟨⟨c, h1, h2, hl.1 _ _ h3⟩, LeL.atL hl.2 h4⟩
  | [], _ :: _, _, _, hl, _ => hl.elim
  | _ :: _, [], _, _, hl, _ => hl.elim
theorem Le.agg {xs ys : List AV} (h : LeL xs ys) : Le (.agg xs) (.agg ys) := fun M u hu => by
  simp only [rep] at hu ⊢
  obtain ⟨cs, e, hc⟩ := hu
  exact ⟨cs, e, h.repC hc⟩
theorem Le.tup {xs ys : List AV} (h : LeL xs ys) : Le (.tup xs) (.tup ys) := fun M u hu => by
  simp only [rep] at hu ⊢
  obtain ⟨cs, e, hc⟩ := hu
  exact ⟨cs, e, h.repT hc⟩
theorem Le.ip {xs ys : List AV} (h : LeL xs ys) : Le (.ip xs) (.ip ys) := fun M u hu => by
  simp only [rep] at hu ⊢
  obtain ⟨b, off, e, hc⟩ := hu
  exact ⟨b, off, e, h.atL hc⟩
/-- whose room it is may be forgotten -/
theorem Le.own (o : Own) (s : Nat) (xs : List AV) : Le (.sl o s xs) (.sl .no s xs) := fun M u hu => by
  simp only [rep] at hu ⊢
  obtain ⟨a, cap, h1, h2, h3, h4, h5, _, h7⟩ := hu
  exact ⟨a, cap, h1, h2, h3, h4, h5, trivial, h7⟩
/-- a slice without elements has elements of any width -/
theorem Le.nil (o : Own) (s : Nat) : Le (.sl o 0 []) (.sl .no s []) := fun M u hu => by
  simp only [rep] at hu ⊢
  obtain ⟨a, cap, h1, h2, h3, h4, h5, _, h7⟩ := hu
  exact ⟨a, cap, h1, h2, h3, h4, ⟨fun _ => rfl, fun y hy => by cases hy⟩, trivial, h7⟩
theorem Le.nil' (s : Nat) : Le (.sl .full 0 []) (.sl .full s []) := fun M u hu => by
  simp only [rep] at hu ⊢
  obtain ⟨a, cap, h1, h2, h3, h4, h5, h6, h7⟩ := hu
  exact ⟨a, cap, h1, h2, h3, h4, ⟨fun _ => rfl, fun y hy => by cases hy⟩, h6, h7⟩
theorem Wf.len {o : Own} {s : Nat} {xs : List AV} (h : Wf (.sl o s xs)) : xs.length ≤ 9223372036854775807 := by
  obtain ⟨M, u, h⟩ := h
  simp only [rep] at h
  obtain ⟨a, cap, h1, h2, h3, _⟩ := h
  exact Nat.le_trans h2 h3
theorem Wf.str {l : List UInt8} (h : Wf (.str l)) : l.length ≤ 1125899906842624 := by
  obtain ⟨M, u, h⟩ := h
  simp only [rep] at h
  exact h.2
theorem Wf.cell {xs : List AV} (h : Wf (.agg xs)) {x : AV} (hx : x ∈ xs) : Wf x := by
  obtain ⟨M, u, h⟩ := h
  simp only [rep] at h
  obtain ⟨cs, _, h⟩ := h
  exact key h hx
where key : ∀ {M : Mem} {xs : List AV} {cs : List Value} {x : AV}, repC M xs cs → x ∈ xs → Wf x
  | M, [], cs, x, _, hx => by cases hx
  | M, y :: xs, cs, x, h, hx => by
    simp only [repC] at h
    obtain ⟨c, cs', _, ⟨_, h1⟩, h2⟩ := h
    rcases List.mem_cons.1 hx with rfl | hx
    · exact ⟨M, c, h1⟩
    · exact key h2 hx
theorem Wf.tup {xs : List AV} (h : Wf (.tup xs)) {x : AV} (hx : x ∈ xs) : Wf x := by
  obtain ⟨M, u, h⟩ := h
  simp only [rep] at h
  obtain ⟨cs, _, h⟩ := h
  exact key h hx
where key : ∀ {M : Mem} {xs : List AV} {cs : List Value} {x : AV}, repT M xs cs → x ∈ xs → Wf x
  | M, [], cs, x, _, hx => by cases hx
  | M, y :: xs, cs, x, h, hx => by
    simp only [repT] at h
    obtain ⟨c, cs', _, h1, h2⟩ := h
    rcases List.mem_cons.1 hx with rfl | hx
    · exact ⟨M, c, h1⟩
    · exact key h2 hx
theorem Wf.ptr {xs : List AV} (h : Wf (.ip xs)) {x : AV} (hx : x ∈ xs) : Wf x := by
  obtain ⟨M, u, h⟩ := h
  simp only [rep] at h
  obtain ⟨b, off, _, h⟩ := h
  exact key h hx
where key : ∀ {M : Mem} {xs : List AV} {b o : Nat} {x : AV}, atL M xs b o → x ∈ xs → Wf x
  | M, [], _, _, x, _, hx => by cases hx
  | M, y :: xs, b, o, x, h, hx => by
    simp only [atL] at h
    obtain ⟨⟨c, _, _, h1⟩, h2⟩ := h
    rcases List.mem_cons.1 hx with rfl | hx
    · exact ⟨M, c, h1⟩
    · exact key h2 hx
theorem Wf.elem {o : Own} {s : Nat} {xs : List AV} (h : Wf (.sl o s xs)) {x : AV} (hx : x ∈ xs) : ∀ y ∈ x.cells, Wf y := by
  obtain ⟨M, u, h⟩ := h
  simp only [rep] at h
  obtain ⟨a, cap, _, _, _, _, _, _, h7⟩ := h
  obtain ⟨b, off, _, hat⟩ := h7 (List.length_pos_of_mem hx)
  exact key hat hx
where key : ∀ {M : Mem} {xs : List AV} {b o : Nat} {x : AV}, atE M xs b o → x ∈ xs → ∀ y ∈ x.cells, Wf y
  | M, [], _, _, x, _, hx => by cases hx
  | M, y :: xs, b, o, x, h, hx => by
    have h := atE.cons.1 h
    rcases List.mem_cons.1 hx with rfl | hx
    · exact fun z hz => Wf.ptr.key h.1 hz
    · exact key h.2 hx

/-- where a call leads: to a value, in a world -/
def CallTo (P : Program) (r : Result Next) (R : Value → World → Prop) : Prop :=
  match r with
  | .ok (.value v) w => R v w
  | .ok (.enter f args) w => Calls P f args w fun e w' => ∃ v, e = .returned v ∧ R v w'
  | _ => False
/-- package variables hold what they hold, and nobody owns them -/
def GH (w : World) (H : Heap) : Prop := GW w ∧ nG ≤ w.heap.size ∧ ∀ b ∈ H.keys, nG ≤ b
theorem GH.step {w w' : World} {H H' : Heap} (h : GH w H) (hk : ∀ k, k < nG → w'.heap[k]? = w.heap[k]?) (hs : w.heap.size ≤ w'.heap.size) (hb : ∀ b ∈ H'.keys, b ∈ H.keys ∨ w.heap.size ≤ b) : GH w' H' :=
  ⟨h.1.keep hk, Nat.le_trans h.2.1 hs, fun b hb' => (hb b hb').elim (h.2.2 b) fun k => Nat.le_trans h.2.1 k⟩
theorem GH.sub {w : World} {H H' : Heap} (h : GH w H) (hb : ∀ b ∈ H'.keys, b ∈ H.keys) : GH w H' := ⟨h.1, h.2.1, fun b k => h.2.2 b (hb b k)⟩
/-- A CONTRACT: called with these, where these objects turn, it answers so -/
def Con (P : Program) (f : FuncId) (args : List AV) (H : Heap) (Q : AV → Heap → Prop) : Prop :=
  ∀ M w vs, GH w H → Inv M H w → repT M args vs → CallTo P ((callFunc f vs.toArray).run P w) fun v w' =>
    ∃ M' r H', Evo H.keys M w M' w' ∧ Inv M' H' w' ∧ (∀ b ∈ H'.keys, b ∈ H.keys ∨ w.heap.size ≤ b) ∧ rep M' r v ∧ Q r H'
/-! calls that may panic -/
/-- a panic that nobody has recovered from -/
def panV (ch : List PanicEntry) (v : Value) : Prop := ∃ older, ch = { v, recovered := false } :: older ∧ ∀ p ∈ older, p.goexit = false
/-- where a call leads: to a value, or to a panic -/
def CallX (P : Program) (r : Result Next) (A B : Value → World → Prop) : Prop :=
  match r with
  | .ok (.value v) w => A v w
  | .ok (.enter f args) w => Calls P f args w fun e w' => (∃ v, e = .returned v ∧ A v w') ∨ ∃ ch v, e = .panicked ch ∧ panV ch v ∧ B v w'
  | _ => False
/-- A CONTRACT WITH TWO ENDS: what it answers, or what it panics with and what stands in the heap then -/
def ConX (P : Program) (f : FuncId) (args : List AV) (H : Heap) (Q : AV → Heap → Prop) (R : Value → Heap → Prop) : Prop :=
  ∀ M w vs, GH w H → Inv M H w → repT M args vs → CallX P ((callFunc f vs.toArray).run P w) (fun v w' =>
    ∃ M' r H', Evo H.keys M w M' w' ∧ Inv M' H' w' ∧ (∀ b ∈ H'.keys, b ∈ H.keys ∨ w.heap.size ≤ b) ∧ rep M' r v ∧ Q r H') fun v w' =>
    ∃ M' H', Evo H.keys M w M' w' ∧ Inv M' H' w' ∧ (∀ b ∈ H'.keys, b ∈ H.keys ∨ w.heap.size ≤ b) ∧ R v H'
theorem CallX.mono {P : Program} {r : Result Next} {A A' B B' : Value → World → Prop} (h : CallX P r A B) (k : ∀ v w, A v w → A' v w) (j : ∀ v w, B v w → B' v w) : CallX P r A' B' := by
  unfold CallX at *
  split
  · exact k _ _ h
  · exact Calls.mono h fun e w' he => he.imp (fun ⟨v, he, h⟩ => ⟨v, he, k _ _ h⟩) fun ⟨ch, v, he, hp, h⟩ => ⟨ch, v, he, hp, j _ _ h⟩
  · rename_i h1 h2
    split at h
    · exact absurd rfl (h1 _ _)
    · exact absurd rfl (h2 _ _ _)
    · exact h
theorem ConX.mono {P : Program} {f : FuncId} {args : List AV} {H : Heap} {Q Q' : AV → Heap → Prop} {R R' : Value → Heap → Prop} (h : ConX P f args H Q R) (k : ∀ r H', Q r H' → Q' r H') (j : ∀ v H', R v H' → R' v H') : ConX P f args H Q' R' :=
  fun M w vs h0 h1 h2 => (h M w vs h0 h1 h2).mono (fun _ _ ⟨M', r, H', a, b, c, d, e⟩ => ⟨M', r, H', a, b, c, d, k _ _ e⟩) fun _ _ ⟨M', H', a, b, c, d⟩ => ⟨M', H', a, b, c, j _ _ d⟩
/-- a call that does not panic -/
theorem Con.x {P : Program} {f : FuncId} {args : List AV} {H : Heap} {Q : AV → Heap → Prop} {R : Value → Heap → Prop} (h : Con P f args H Q) : ConX P f args H Q R := fun M w vs h0 h1 h2 => by
  have := h M w vs h0 h1 h2
  unfold CallTo at this
  unfold CallX
  split at this
  · exact this
  · exact Calls.mono this fun e w' h => Or.inl h
  · exact this.elim
/-- what the first slots hold -/
def Env.low (e : Env) (n : Nat) : Nat → T := fun i => bif Nat.blt i n then e.get i else .junk
theorem Env.low_put {e : Env} {n : Nat} {d : Option Tmp} {t : T} (h : ∀ k, d = some k → n ≤ k) : (e.put d t).low n = e.low n := by
  funext i
  unfold Env.low
  cases hb : Nat.blt i n with
  | false => rfl
  | true =>
    cases d with
    | none => rfl
    | some k =>
      have hk := h k rfl
      have hi : i < n := by simpa [Nat.blt_eq] using hb
      show (bif Nat.beq k i then t else e.get i) = e.get i
      have : Nat.beq k i = false := by
        cases hc : Nat.beq k i with
        | false => rfl
        | true => have := Nat.eq_of_beq_eq_true hc; omega
      rw [this]
      rfl
theorem Env.low_eq {e e' : Env} {n : Nat} (h : ∀ i, e.get i = e'.get i) : e.low n = e'.low n := by
  funext i
  unfold Env.low
  rw [h]
/-- a program; what the first slots hold, and what stands in the heap, where a call panics (none: no call does); which slots are the first -/
structure Pr where
  p : Program
  R : Option (Value → (Nat → T) → Heap → Prop)
  lo : Nat
instance : Coe Pr Program := ⟨Pr.p⟩
/-- a panic that is allowed -/
def PR (P : Pr) (v : Value) (e : Env) (H : Heap) : Prop :=
  match P.R with
  | none => False
  | some R => R v (e.low P.lo) H
def ConR (P : Pr) (e : Env) (f : FuncId) (args : List AV) (H : Heap) (Q : AV → Heap → Prop) : Prop :=
  match P.R with
  | none => Con P.p f args H Q
  | some R => ConX P.p f args H Q fun v H' => R v (e.low P.lo) H'
theorem CallTo.mono {P : Program} {r : Result Next} {R R' : Value → World → Prop} (h : CallTo P r R) (k : ∀ v w, R v w → R' v w) : CallTo P r R' := by
  unfold CallTo at *
  split
  · exact k _ _ h
  · exact Calls.mono h fun e w' ⟨v, he, h⟩ => ⟨v, he, k _ _ h⟩
  · rename_i h1 h2
    split at h
    · exact absurd rfl (h1 _ _)
    · exact absurd rfl (h2 _ _ _)
    · exact h
theorem Con.mono {P : Program} {f : FuncId} {args : List AV} {H : Heap} {Q Q' : AV → Heap → Prop} (h : Con P f args H Q) (k : ∀ r H', Q r H' → Q' r H') : Con P f args H Q' :=
  fun M w vs h0 h1 h2 => (h M w vs h0 h1 h2).mono fun _ _ ⟨M', r, H', a, b, c, d, e⟩ => ⟨M', r, H', a, b, c, d, k _ _ e⟩
theorem ConR.mono {P : Pr} {e : Env} {f : FuncId} {args : List AV} {H : Heap} {Q Q' : AV → Heap → Prop} (h : ConR P e f args H Q) (k : ∀ r H', Q r H' → Q' r H') : ConR P e f args H Q' := by
  unfold ConR at *
  split at h
  · exact h.mono k
  · exact h.mono k fun _ _ h => h
theorem ConR.low {P : Pr} {e e' : Env} {f : FuncId} {args : List AV} {H : Heap} {Q : AV → Heap → Prop} (hl : e.low P.lo = e'.low P.lo) (h : ConR P e f args H Q) : ConR P e' f args H Q := by
  unfold ConR at *
  rw [← hl]
  exact h
/-- what a contract says of a run, by either kind -/
theorem ConR.run {P : Pr} {e : Env} {f : FuncId} {args : List AV} {H : Heap} {Q : AV → Heap → Prop} (h : ConR P e f args H Q) : ConX P.p f args H Q fun v H' => PR P v e H' := by
  obtain ⟨p, R, lo⟩ := P
  cases R with
  | none => exact Con.x h
  | some R => exact h

/-! the heap's entries -/
/-- x stands at b in H; H' has y there -/
inductive Heap.At (b : Nat) (x y : AObj) : Heap → Heap → Prop where
  | here {H : Heap} : Heap.At b x y ((b, x) :: H) ((b, y) :: H)
  | there {p : Nat × AObj} {H H' : Heap} : Heap.At b x y H H' → Heap.At b x y (p :: H) (p :: H')
/-- H' is H without an entry -/
inductive Heap.Rem (p : Nat × AObj) : Heap → Heap → Prop where
  | here {H : Heap} : Heap.Rem p (p :: H) H
  | there {q : Nat × AObj} {H H' : Heap} : Heap.Rem p H H' → Heap.Rem p (q :: H) (q :: H')
theorem Heap.At.keys {b : Nat} {x y : AObj} {H H' : Heap} (h : Heap.At b x y H H') : H'.keys = H.keys := by
  induction h with
  | here => rfl
  | there _ ih => simp only [Heap.keys, List.map_cons] at ih ⊢; rw [ih]
theorem Heap.At.mem {b : Nat} {x y : AObj} {H H' : Heap} (h : Heap.At b x y H H') : (b, x) ∈ H := by
  induction h with
  | here => simp
  | there _ ih => exact List.mem_cons_of_mem _ ih
theorem Heap.At.other {b : Nat} {x y : AObj} {H H' : Heap} (h : Heap.At b x y H H') : ∀ p ∈ H', p = (b, y) ∨ p ∈ H := by
  induction h with
  | here => intro p hp; rcases List.mem_cons.1 hp with h | h; exact Or.inl h; exact Or.inr (List.mem_cons_of_mem _ h)
  | there _ ih =>
    intro p hp
    rcases List.mem_cons.1 hp with h | h
    · exact Or.inr (by simp [h])
    · exact (ih p h).imp id (List.mem_cons_of_mem _)
theorem Heap.Rem.perm {p : Nat × AObj} {H H' : Heap} (h : Heap.Rem p H H') : H.Perm (p :: H') := by
  induction h with
  | here => exact List.Perm.refl _
  | there _ ih => exact (ih.cons _).trans (List.Perm.swap _ _ _)

/-! what the operations that turn something do -/
/-- one of two: is there nothing? -/
def ifNil (xs : List AV) (A B : Prop) : Prop :=
  match xs with
  | [] => A
  | _ :: _ => B
def St.put (s : St) (d : Option Tmp) (t : T) : St := { s with e := s.e.put d t }
/-- a new variable: of the site, or, where it is handed on, of the heap -/
def newVarK (esc : Nat → Bool) (s : St) (dst : Option Tmp) (cs : List AV) (K : St → Prop) : Prop :=
  match dst with
  | none => False
  | some d => bif esc d then ∀ b, b ∉ s.H.keys → K ⟨(d, .g (.ptr b 0)) :: s.e, s.L, (b, .cells cs) :: s.H⟩
    else bif (s.e.free d && (s.L.get d).isNone) then K ⟨(d, .lp d 0) :: s.e, (d, cs) :: s.L, s.H⟩ else False
/-- the elements that are put behind: of a slice, of a string -/
def srcA (tab : Tab) (ty : TypeId) (size : Nat) (x : AV) : Option (List AV) :=
  match tab.kind ty, x with
  | .slice _, .sl _ s ys => bif wOk s size then some ys else none
  | .string, .str l => bif Nat.beq size 1 then some (l.map byteV) else none
  | _, _ => none
theorem app_room {n b : Nat} (h : n * (b + 1) ≤ 140737488355328 ∨ n * b ≤ 140737488355328 ∧ n ≤ 140737488355328) : n * b ≤ 140737488355328 ∧ n ≤ 140737488355328 :=
  h.elim (fun h => ⟨Nat.le_trans (Nat.mul_le_mul_left _ (Nat.le_succ _)) h, Nat.le_trans (Nat.le_mul_of_pos_right _ (Nat.succ_pos _)) h⟩) id
/-- an append -/
def appK (s : St) (dst : Option Tmp) (o : Own) (w size bytes : Nat) (xs ys : List AV) (K : St → Prop) : Prop :=
  ((xs.length + ys.length) * (bytes + 1) ≤ 140737488355328 ∨ (xs.length + ys.length) * bytes ≤ 140737488355328 ∧ xs.length + ys.length ≤ 140737488355328) ∧ ifNil ys (K (s.put dst (.g (.sl o w xs)))) (match o with
    | .no => False
    | .full => ∀ c : Cap, c.b ∉ s.H.keys → K ⟨s.e.put dst (.g (.sl (.own c) size (xs ++ ys))), s.L, (c.b, .cap c) :: s.H⟩
    | .own c0 => bif Nat.beq w size then (∃ H0, Heap.Rem (c0.b, .cap c0) s.H H0 ∧ ∀ c : Cap, c.b ∉ H0.keys → K ⟨s.e.put dst (.g (.sl (.own c) size (xs ++ ys))), s.L, (c.b, .cap c) :: H0⟩) else False)
/-- is it a site whose memory may turn later? -/
def hsite (esc : Nat → Bool) (dst : Option Tmp) : Bool :=
  match dst with
  | some d => esc d
  | none => false
/-- an append to a slice without room, into memory that may turn -/
def appH (s : St) (dst : Option Tmp) (o : Own) (size bytes : Nat) (xs ys : List AV) (K : St → Prop) : Prop :=
  (xs.length + ys.length) * (bytes + 1) ≤ 140737488355328 ∧ ys ≠ [] ∧ o = .full ∧ ∀ (b cap : Nat) (rest : List AV), b ∉ s.H.keys → xs.length + ys.length ≤ cap → cap ≤ maxLen → rest.length = (cap - (xs.length + ys.length)) * size →
    K ⟨s.e.put dst (.g (.v (.slice (some ⟨b, 0, none⟩) (xs.length + ys.length) cap))), s.L, (b, .cells ((xs ++ ys).flatMap AV.cells ++ rest)) :: s.H⟩
/-- an append to a slice of memory that may turn -/
def appS (s : St) (dst : Option Tmp) (b n cap : Nat) (size bytes : Nat) (ys : List AV) (K : St → Prop) : Prop :=
  (n + ys.length) * (bytes + 1) ≤ 140737488355328 ∧ ys ≠ [] ∧ ∃ cs H0, Heap.Rem (b, .cells cs) s.H H0 ∧ n ≤ cap ∧ cap ≤ maxLen ∧ cap * size ≤ cs.length ∧ ∀ (b' cap' : Nat) (rest : List AV), b' ∉ H0.keys → n + ys.length ≤ cap' → cap' ≤ maxLen → cap' * size ≤ (n + ys.length) * size + rest.length →
    K ⟨s.e.put dst (.g (.v (.slice (some ⟨b', 0, none⟩) (n + ys.length) cap'))), s.L, (b', .cells (cs.take (n * size) ++ ys.flatMap AV.cells ++ rest)) :: H0⟩
/-- what a round of a range over a function does -/
def RCon (P : Program) (l : Nat) (args : List AV) (H : Heap) (Q : AV → Heap → Prop) : Prop :=
  ∀ (n : Nat) M w vs, GH w H → Inv M H w → repT M args vs → YieldAt Fence.wide n P l vs.toArray w fun e w' => ∃ v, e = .returned v ∧
    ∃ M' r H', Evo H.keys M w M' w' ∧ Inv M' H' w' ∧ (∀ b ∈ H'.keys, b ∈ H.keys ∨ w.heap.size ≤ b) ∧ rep M' r v ∧ Q r H'
theorem yield_mono {F : Fence} {m : Nat} {P : Program} {l : Nat} {args : Array Value} {W : World} {R R' : Ending → World → Prop} (h : YieldAt F m P l args W R) (k : ∀ e w, R e w → R' e w) : YieldAt F m P l args W R' := by
  obtain ⟨fn, tmps, as', bo, h1, h2⟩ := h
  exact ⟨fn, tmps, as', bo, h1, h2.mono k⟩
theorem RCon.mono {P : Program} {l : Nat} {args : List AV} {H : Heap} {Q Q' : AV → Heap → Prop} (h : RCon P l args H Q) (k : ∀ r H', Q r H' → Q' r H') : RCon P l args H Q' :=
  fun n M w vs h0 h1 h2 => yield_mono (h n M w vs h0 h1 h2) fun _ _ ⟨v, he, M', r, H', a, b, c, d, e⟩ => ⟨v, he, M', r, H', a, b, c, d, k _ _ e⟩
/-- a method that is bound to a pointer -/
def boundOf : Value → Option (FuncId × AV)
  | .func (.func f) first cap => match first.toList, cap.toList with
    | [.pointer (some ⟨b, off, none⟩)], [] => some (f, .ptr b off)
    | _, _ => none
  | _ => none
def callK (P : Pr) (s : St) (dst : Option Tmp) (f : T) (args : List T) (K : St → Prop) : Prop :=
  match f, argsA args with
  | .g (.fn (.func f) caps), some xs => ∃ ys, LeL xs ys ∧ ConR P s.e f (ys ++ caps) s.H fun r H' => Wf r → H'.keys.Nodup → K ⟨s.e.put dst (.g r), s.L, H'⟩
  | .g (.fn (.yield l) []), some xs => ∃ ys, LeL xs ys ∧ RCon P l ys s.H fun r H' => Wf r → H'.keys.Nodup → K ⟨s.e.put dst (.g r), s.L, H'⟩
  | .g (.v x), some xs => match boundOf x with
    | some (f, r) => ∃ ys, LeL xs ys ∧ ConR P s.e f (r :: ys) s.H fun r H' => Wf r → H'.keys.Nodup → K ⟨s.e.put dst (.g r), s.L, H'⟩
    | none => False
  | _, _ => False
def storeK (tab : Tab) (s : St) (dst : Option Tmp) (t : TypeId) (a x : T) (K : St → Prop) : Prop :=
  match x, tab.get t with
  | .g g, some i => bif (noTup g && Nat.beq g.cells.length i.size) then (match a with
    | .lp k off => match s.L.get k with
      | some cs => bif Nat.ble (off + i.size) cs.length then K ⟨s.e.put dst .undef, s.L.set k (putCells cs off g.cells), s.H⟩ else False
      | none => False
    | .g (.ptr b off) => ∃ cs H', Heap.At b (.cells cs) (.cells (putCells cs off g.cells)) s.H H' ∧ off + i.size ≤ cs.length ∧ K ⟨s.e.put dst .undef, s.L, H'⟩
    | _ => False) else False
  | _, _ => False

def isNilSlice : Operand → Bool
  | .const (.slice none 0 0) => true
  | _ => false

/-! maps -/
/-- are two keys one? -/
def cellEq : AV → AV → Bool
  | .v (.int _ a), .v (.int _ b) => decide (a = b)
  | .str a, .str b => decide (a = b)
  | _, _ => false
def cellsEq : List AV → List AV → Bool
  | [], [] => true
  | x :: xs, y :: ys => cellEq x y && cellsEq xs ys
  | _, _ => false
def keyEq : AV → AV → Bool
  | .v (.int _ a), .v (.int _ b) => decide (a = b)
  | .str a, .str b => decide (a = b)
  | .agg xs, .agg ys => cellsEq xs ys
  | _, _ => false
def cellVal : AV → Value
  | .v x => x
  | .str l => .string ⟨l.toArray⟩
  | _ => undef
def keyVal : AV → Value
  | .v x => x
  | .str l => .string ⟨l.toArray⟩
  | .agg xs => .agg (xs.map cellVal).toArray
  | _ => undef
/-- what is to be known of keys that are structs -/
structure KeyLaw (P : Program) (kt : TypeId) (S : AV → Prop) : Prop where
  und : ∃ fs, P.underlying kt = some (.struct fs)
  eq : ∀ x y, S x → S y → ∀ w, (Op.equal kt (keyVal x) (keyVal y)).run P w = .ok (keyEq x y) w
  check : ∀ x, S x → ∀ e w, (Instr.checkKey e 10000 kt (keyVal x)).run P w = .ok () w
  bits : ∀ x, S x → Instr.sameBits 10000 (keyVal x) (keyVal x) = true
  val : ∀ x, S x → ∀ M u, rep M x u → u = keyVal x
  inj : ∀ x y, S x → S y → keyEq x y = true → keyVal x = keyVal y
/-- a key of a kind -/
def KeyOk : TK → AV → Prop
  | .int k, .v (.int j _) => j = k
  | .string, .str _ => True
  | _, _ => False
def mpFind (k : AV) : List (Nat × AV × AV) → Option (Nat × AV)
  | [] => none
  | (n, q, x) :: r => bif keyEq k q then some (n, x) else mpFind k r
def mpSet (k x : AV) : List (Nat × AV × AV) → List (Nat × AV × AV)
  | [] => []
  | (n, q, y) :: r => bif keyEq k q then (n, q, x) :: r else (n, q, y) :: mpSet k x r
def mpDel (k : AV) : List (Nat × AV × AV) → List (Nat × AV × AV)
  | [] => []
  | (n, q, y) :: r => bif keyEq k q then r else (n, q, y) :: mpDel k r
def mpStore (n : Int) (x : AV) : List (Nat × AV × AV) → Option (List (Nat × AV × AV))
  | [] => none
  | (m, q, y) :: r => bif decide ((m : Int) = n) then some ((m, q, x) :: r) else (mpStore n x r).map ((m, q, y) :: ·)
def mpPut (k x : AV) (es : List (Nat × AV × AV)) (clk : Nat) : List (Nat × AV × AV) × Nat :=
  match mpFind k es with
  | some _ => (mpSet k x es, clk)
  | none => (es ++ [(clk, k, x)], clk + 1)
def mpEnt (z k : AV) (es : List (Nat × AV × AV)) (clk : Nat) : List (Nat × AV × AV) × Nat × AV × Nat :=
  match mpFind k es with
  | some (n, x) => (es, clk, x, n)
  | none => (es ++ [(clk, k, z)], clk + 1, z, clk)
def KeysOk (kd : TK) (k : AV) (es : List (Nat × AV × AV)) : Prop := KeyOk kd k ∧ ∀ p ∈ es, KeyOk kd p.2.1
def KeysP (P : Program) (kt : TypeId) (kd : TK) (k : AV) (es : List (Nat × AV × AV)) : Prop :=
  match kd with
  | .struct _ => ∃ S, KeyLaw P kt S ∧ S k ∧ ∀ p ∈ es, S p.2.1
  | kd => KeysOk kd k es
/-- no memory -/
def noMem : Mem := fun _ _ => none
def itO (m since : Nat) (seen : List Nat) (clk : Nat) : AObj := .raw (.mapIter (some m) since seen.toArray clk) noMem
/-- is it one of those of maps? -/
def mapOp (tab : Tab) (o : Op) : Bool :=
  match o with
  | .makeMap .. | .lookup .. | .mapUpdate .. | .insert .. | .mapEntry .. | .entryStore .. | .next .. | .entry _ | .makeSlice .. | .buildSlice .. => true
  | .range t _ => (match tab.kind t with
    | .map _ _ => true
    | _ => false)
  | .call c => (match c.callee with
    | .builtin .delete => true
    | .builtin .clear => true
    | .builtin .len => (match c.argTypes[0]? with
      | some t => (match tab.kind t with
        | .map _ _ => true
        | _ => false)
      | none => false)
    | _ => false)
  | _ => false
def outT : Option AV → T
  | some x => .g x
  | none => .undef
/-- an operation of maps -/
def mapK (P : Program) (tab : Tab) (o : Op) (ρ : Operand → T) (H : Heap) (K : Option AV → Heap → Prop) : Prop :=
  match o with
  | .makeMap _ none => ∀ b, b ∉ H.keys → K (some (.mp b)) ((b, .mp [] 0) :: H)
  | .makeSlice t l c => (match tab.kind t, ρ l, ρ c with
    | .slice e, .g (.v (.int _ ln)), .g (.v (.int _ cn)) => (match tab.get e with
      | some ie => ∃ n m : Nat, ln = n ∧ cn = m ∧ n ≤ m ∧ litOk ie.zero = true ∧ 0 < ie.size ∧ ie.zero.cells.size = ie.size ∧ m * (ie.bytes + 1) ≤ 140737488355328 ∧ ∀ b, b ∉ H.keys → K (some (.v (.slice (some ⟨b, 0, none⟩) n m))) ((b, .cells ((List.replicate m (lit ie.zero).cells).flatten)) :: H)
      | none => False)
    | _, _, _ => False)
  | .buildSlice t len parts => (match tab.kind t with
    | .slice e => (match tab.get e with
      | some ie => (match elemsA ρ ie.size parts.toList 0 with
        | some xs => xs.length = len ∧ 0 < len ∧ len * ie.size ≤ 16777216 ∧ 0 < ie.size ∧ ∀ b, b ∉ H.keys → K (some (.v (.slice (some ⟨b, 0, none⟩) len len))) ((b, .cells (xs.flatMap AV.cells)) :: H)
        | none => False)
      | none => False)
    | _ => False)
  | .lookup t m k ok => (match tab.kind t, ρ m, ρ k with
    | .map kt et, .g (.mp b), .g k => (match tab.get et with
      | some ie => ∃ es clk f, litOk ie.zero = true ∧ (b, .mp es clk) ∈ H ∧ KeysP P kt (tab.kind kt) k es ∧ mpFind k es = f ∧ K (some (bif ok then .tup [(match f with | some (_, x) => x | none => lit ie.zero), .b f.isSome] else (match f with | some (_, x) => x | none => lit ie.zero))) H
      | none => False)
    | _, _, _ => False)
  | .mapUpdate t m k x | .insert t m k x => (match tab.kind t, ρ m, ρ k, ρ x with
    | .map kt _, .g (.mp b), .g k, .g x => ∃ es clk es' clk' H', Heap.At b (.mp es clk) (.mp es' clk') H H' ∧ KeysP P kt (tab.kind kt) k es ∧ mpPut k x es clk = (es', clk') ∧ K none H'
    | _, _, _, _ => False)
  | .mapEntry t m k => (match tab.kind t, ρ m, ρ k with
    | .map kt et, .g (.mp b), .g k => (match tab.get et with
      | some ie => ∃ es clk es' clk' x n H', litOk ie.zero = true ∧ Heap.At b (.mp es clk) (.mp es' clk') H H' ∧ KeysP P kt (tab.kind kt) k es ∧ mpEnt (lit ie.zero) k es clk = (es', clk', x, n) ∧ K (some (.tup [x, .i n])) H'
      | none => False)
    | _, _, _ => False)
  | .entryStore _ m n x => (match ρ m, ρ n, ρ x with
    | .g (.mp b), .g (.v (.int _ n)), .g x => ∃ es clk es' H', Heap.At b (.mp es clk) (.mp es' clk) H H' ∧ mpStore n x es = some es' ∧ K none H'
    | _, _, _ => False)
  | .range t m => (match tab.kind t, ρ m with
    | .map _ _, .g (.mp b) => ∃ es clk, (b, .mp es clk) ∈ H ∧ ∀ i, i ∉ H.keys → K (some (.ptr i 0)) ((i, itO b clk [] clk) :: H)
    | _, _ => False)
  | .next it false => (match ρ it with
    | .g (.ptr i 0) => ∃ b clk seen es, (i, itO b clk seen clk) ∈ H ∧ (b, .mp es clk) ∈ H ∧ (∀ p ∈ es, p.1 < clk) ∧ ((∀ p ∈ es, p.1 ∈ seen) → K (some (.tup [.b false])) H) ∧
        ∀ p ∈ es, p.1 ∉ seen → ∃ H', Heap.At i (itO b clk seen clk) (itO b clk (seen ++ [p.1]) clk) H H' ∧ K (some (.tup [.b true, p.2.1, p.2.2])) H'
    | _ => False)
  | .entry it => (match ρ it with
    | .g (.ptr i 0) => ∃ b clk seen es p, (i, itO b clk (seen ++ [p.1]) clk) ∈ H ∧ (b, .mp es clk) ∈ H ∧ p ∈ es ∧ (es.map (·.1)).Nodup ∧ K (some (.tup [p.2.1, p.2.2])) H
    | _ => False)
  | .call c => (match c.callee, c.args.toList.map ρ with
    | .builtin .len, [.g (.mp b)] => (match c.argTypes[0]? with
      | some t => (match tab.kind t with
        | .map _ _ => ∃ es clk, (b, .mp es clk) ∈ H ∧ K (some (.i es.length)) H
        | _ => False)
      | none => False)
    | .builtin .delete, [.g (.mp b), .g k] => (match c.argTypes[0]? with
      | some t => (match tab.kind t with
        | .map kt _ => ∃ es clk H', Heap.At b (.mp es clk) (.mp (mpDel k es) clk) H H' ∧ KeysP P kt (tab.kind kt) k es ∧ K (some (.tup [])) H'
        | _ => False)
      | none => False)
    | .builtin .clear, [.g (.v (.slice (some ⟨b, off, none⟩) n _))] => (match c.argTypes[0]? with
      | some t => (match tab.kind t with
        | .slice el => (match tab.get el with
          | some ie => lit1Ok ie.zero = true ∧ 0 < n ∧ ∃ cs H', Heap.At b (.cells cs) (.cells (cs.take off ++ List.replicate n (lit1 ie.zero) ++ cs.drop (off + n))) H H' ∧ off + n ≤ cs.length ∧ K (some (.tup [])) H'
          | none => False)
        | _ => False)
      | none => False)
    | _, _ => False)
  | _ => False
theorem elemsA_eq {ρ ρ' : Operand → T} {size : Nat} : ∀ {parts : List (Nat × Operand)} {k : Nat}, (∀ p ∈ parts, ρ p.2 = ρ' p.2) → elemsA ρ size parts k = elemsA ρ' size parts k
  | [], _, _ => rfl
  | (i, x) :: r, k, h => by
    have e : ρ x = ρ' x := h (i, x) (by simp)
    have ih : elemsA ρ size r (k + 1) = elemsA ρ' size r (k + 1) := elemsA_eq fun p hp => h p (by simp [hp])
    unfold elemsA
    rw [e, ih]
theorem mapK_mono {P : Program} {tab : Tab} {o : Op} {ρ ρ' : Operand → T} {H : Heap} {K K' : Option AV → Heap → Prop} (hr : ∀ x ∈ o.operands, ρ x = ρ' x) (hK : ∀ x H', K x H' → K' x H') (h : mapK P tab o ρ H K) : mapK P tab o ρ' H K' := by
  cases o with
  | makeMap t r =>
    cases r with
    | none => exact fun b hb => hK _ _ (h b hb)
    | some r => exact h
  | makeSlice t l c =>
    have h1 : ρ l = ρ' l := hr l (by simp [Op.operands])
    have h2 : ρ c = ρ' c := hr c (by simp [Op.operands])
    simp only [mapK] at h ⊢
    rw [← h1, ← h2]
    split at h
    · split at h
      · obtain ⟨n, m, k1, k2, k3, k4, k5, k6, k7, k8⟩ := h
        rename_i hk hm hq _ _ hg
        try simp only [hk, hm, hq, hg]
        exact ⟨n, m, k1, k2, k3, k4, k5, k6, k7, fun b hb => hK _ _ (k8 b hb)⟩
      · exact h.elim
    · exact h.elim
  | buildSlice t len parts =>
    have e : ∀ s, elemsA ρ s parts.toList 0 = elemsA ρ' s parts.toList 0 := fun s => elemsA_eq fun p hp => hr p.2 (by
      simp only [Op.operands, List.mem_toArray, List.mem_map]
      exact ⟨p, by simpa using hp, rfl⟩)
    simp only [mapK] at h ⊢
    split at h
    · split at h
      · rename_i hk _ _ hg
        try simp only [hk, hg]
        rw [e] at h
        split at h
        · obtain ⟨k1, k2, k3, k4, k5⟩ := h
          rename_i hx
          try simp only [hx]
          exact ⟨k1, k2, k3, k4, fun b hb => hK _ _ (k5 b hb)⟩
        · exact h.elim
      · exact h.elim
    · exact h.elim
  | lookup t m k ok =>
    have h1 : ρ m = ρ' m := hr m (by simp [Op.operands])
    have h2 : ρ k = ρ' k := hr k (by simp [Op.operands])
    simp only [mapK] at h ⊢
    rw [← h1, ← h2]
    split at h
    · split at h
      · obtain ⟨es, clk, f, k0, k1, k2, k3, k4⟩ := h
        rename_i hk hm hq _ _ hg
        try simp only [hk, hm, hq, hg]
        exact ⟨es, clk, f, k0, k1, k2, k3, hK _ _ k4⟩
      · exact h.elim
    · exact h.elim
  | mapUpdate t m k x =>
    have h1 : ρ m = ρ' m := hr m (by simp [Op.operands])
    have h2 : ρ k = ρ' k := hr k (by simp [Op.operands])
    have h3 : ρ x = ρ' x := hr x (by simp [Op.operands])
    simp only [mapK] at h ⊢
    rw [← h1, ← h2, ← h3]
    split at h
    · obtain ⟨es, clk, es', clk', H', k1, k2, k3, k4⟩ := h
      rename_i hk hm hq hx
      try simp only [hk, hm, hq, hx]
      exact ⟨es, clk, es', clk', H', k1, k2, k3, hK _ _ k4⟩
    · exact h.elim
  | insert t m k x =>
    have h1 : ρ m = ρ' m := hr m (by simp [Op.operands])
    have h2 : ρ k = ρ' k := hr k (by simp [Op.operands])
    have h3 : ρ x = ρ' x := hr x (by simp [Op.operands])
    simp only [mapK] at h ⊢
    rw [← h1, ← h2, ← h3]
    split at h
    · obtain ⟨es, clk, es', clk', H', k1, k2, k3, k4⟩ := h
      rename_i hk hm hq hx
      try simp only [hk, hm, hq, hx]
      exact ⟨es, clk, es', clk', H', k1, k2, k3, hK _ _ k4⟩
    · exact h.elim
  | mapEntry t m k =>
    have h1 : ρ m = ρ' m := hr m (by simp [Op.operands])
    have h2 : ρ k = ρ' k := hr k (by simp [Op.operands])
    simp only [mapK] at h ⊢
    rw [← h1, ← h2]
    split at h
    · split at h
      · obtain ⟨es, clk, es', clk', x, n, H', k0, k1, k2, k3, k4⟩ := h
        rename_i hk hm hq _ _ hg
        try simp only [hk, hm, hq, hg]
        exact ⟨es, clk, es', clk', x, n, H', k0, k1, k2, k3, hK _ _ k4⟩
      · exact h.elim
    · exact h.elim
  | entryStore t m n x =>
    have h1 : ρ m = ρ' m := hr m (by simp [Op.operands])
    have h2 : ρ n = ρ' n := hr n (by simp [Op.operands])
    have h3 : ρ x = ρ' x := hr x (by simp [Op.operands])
    simp only [mapK] at h ⊢
    rw [← h1, ← h2, ← h3]
    split at h
    · obtain ⟨es, clk, es', H', k1, k3, k4⟩ := h
      rename_i hm hq hx
      try simp only [hm, hq, hx]
      exact ⟨es, clk, es', H', k1, k3, hK _ _ k4⟩
    · exact h.elim
  | range t m =>
    have h1 : ρ m = ρ' m := hr m (by simp [Op.operands])
    simp only [mapK] at h ⊢
    rw [← h1]
    split at h
    · obtain ⟨es, clk, k1, k2⟩ := h
      rename_i hk hm
      try simp only [hk, hm]
      exact ⟨es, clk, k1, fun i hi => hK _ _ (k2 i hi)⟩
    · exact h.elim
  | next it b =>
    have h1 : ρ it = ρ' it := hr it (by simp [Op.operands])
    cases b with
    | true => exact h
    | false =>
      simp only [mapK] at h ⊢
      rw [← h1]
      split at h
      · obtain ⟨b, clk, seen, es, k1, k2, k3, k4, k5⟩ := h
        rename_i hm
        try simp only [hm]
        exact ⟨b, clk, seen, es, k1, k2, k3, fun h => hK _ _ (k4 h), fun p hp hn => let ⟨H', g1, g2⟩ := k5 p hp hn; ⟨H', g1, hK _ _ g2⟩⟩
      · exact h.elim
  | entry it =>
    have h1 : ρ it = ρ' it := hr it (by simp [Op.operands])
    simp only [mapK] at h ⊢
    rw [← h1]
    split at h
    · obtain ⟨b, clk, seen, es, p, k1, k2, k3, k4, k5⟩ := h
      rename_i hm
      try simp only [hm]
      exact ⟨b, clk, seen, es, p, k1, k2, k3, k4, hK _ _ k5⟩
    · exact h.elim
  | call c =>
    have hargs : c.args.toList.map ρ = c.args.toList.map ρ' := List.map_congr_left fun x hx => hr x (by
      simp only [Op.operands, Call.operands, Array.mem_append]
      exact Or.inr (by simpa using hx))
    simp only [mapK] at h ⊢
    rw [← hargs]
    split at h
    · rename_i hc hl
      try simp only [hc, hl]
      split at h
      · split at h
        · obtain ⟨es, clk, k1, k2⟩ := h
          rename_i ha _ _ _ hk
          try simp only [ha, hk]
          exact ⟨es, clk, k1, hK _ _ k2⟩
        · exact h.elim
      · exact h.elim
    · rename_i hc hl
      try simp only [hc, hl]
      split at h
      · split at h
        · obtain ⟨es, clk, H', k1, k2, k3⟩ := h
          rename_i ha _ _ _ hk
          try simp only [ha, hk]
          exact ⟨es, clk, H', k1, k2, hK _ _ k3⟩
        · exact h.elim
      · exact h.elim
    · rename_i hc hl
      try simp only [hc, hl]
      split at h
      · rename_i ha
        split at h
        · rename_i hk
          split at h
          · obtain ⟨k0, k1, cs, H', k2, k3, k4⟩ := h
            rename_i hi
            try simp only [ha, hk, hi]
            exact ⟨k0, k1, cs, H', k2, k3, hK _ _ k4⟩
          · exact h.elim
        · exact h.elim
      · exact h.elim
    · exact h.elim
  | _ => exact h.elim

/-- is it one of those that turn nothing? -/
def mobile0 (tab : Tab) (o : Op) : Bool :=
  bif mapOp tab o then false else match o with
  | .box .. | .alloc _ | .store .. | .panic _ => false
  | .binOp _ _ _ y _ => !isNilSlice y
  | .convert src _ _ => match tab.kind src with
    | .string => false
    | _ => true
  | .call c => match c.callee with
    | .builtin .len | .builtin .min | .builtin .max => true
    | _ => false
  | _ => true

def mobile (tab : Tab) (esc : Nat → Bool) (o : Oper) : Bool :=
  match o.op with
  | .buildSlice .. => !hsite esc o.dst
  | op => mobile0 tab op

/-- a truth value or a number is taken apart before it is kept: no chain of moves stays unread -/
def nowK (k : TK) (t : T) (K : T → Prop) : Prop :=
  match k with
  | .bool | .int _ => (match t with
    | .g (.v (.bool q)) => K (.g (.v (.bool q)))
    | .g (.v (.int j n)) => K (.g (.v (.int j n)))
    | t => K t)
  | _ => K t
theorem nowK_eq (k : TK) (t : T) (K : T → Prop) : nowK k t K = K t := by
  unfold nowK
  split
  · split <;> rfl
  · split <;> rfl
  · rfl

/-- an operation; R: what is read behind pointers -/
def aop (P : Pr) (tab : Tab) (esc : Nat → Bool) (R : Heap) (o : Oper) (s : St) (K : St → Prop) : Prop :=
  bif mobile tab esc o then (ares tab o.op s.e.ev s.L R).run fun t => nowK (tab.kind o.type) t fun t => K (s.put o.dst t)
  else bif mapOp tab o.op then mapK P tab o.op s.e.ev s.H fun x H' => K ⟨s.e.put o.dst (outT x), s.L, H'⟩
  else match o.op with
  | .box _ x => match s.e.ev x with
    | .g g => bif noTup g then newVarK esc s o.dst g.cells K else False
    | _ => False
  | .alloc t => match tab.get t with
    | some i => bif litOk i.zero then newVarK esc s o.dst (lit i.zero).cells K else False
    | none => False
  | .store t a x => storeK tab s o.dst t (s.e.ev a) (s.e.ev x) K
  | .binOp op t x _ _ => match s.e.ev x, tab.kind t with
    | .g (.sl _ _ xs), .slice _ => ifNil xs (∀ q, (nilR op q).run fun t => K (s.put o.dst t)) ((nilR op false).run fun t => K (s.put o.dst t))
    | .g (.v (.slice (some _) _ _)), .slice _ => (nilR op false).run fun t => K (s.put o.dst t)
    | _, _ => False
  | .convert _ dst x => match tab.kind dst, s.e.ev x with
    | .string, .g (.str l) => K (s.put o.dst (.g (.str l)))
    | .slice e, .g (.str l) => match tab.kind e, tab.get e with
      | .int .u8, some ie => bif Nat.beq ie.size 1 then (∀ c : Cap, c.b ∉ s.H.keys → K ⟨s.e.put o.dst (.g (.sl (.own c) 1 (l.map byteV))), s.L, (c.b, .cap c) :: s.H⟩) else False
      | _, _ => False
    | _, _ => False
  | .call c => match c.callee, c.args.toList.map s.e.ev with
    | .value f, args => callK P s o.dst (s.e.ev f) args K
    | .builtin .append, [.g (.sl ow w xs), .g y] => match c.argTypes[0]?, c.argTypes[1]? with
      | some t0, some t1 => match tab.kind t0 with
        | .slice el => match tab.get el with
          | some ie => bif (wOk w ie.size && !Nat.beq ie.size 0 && Nat.beq ie.zero.cells.size ie.size) then (match srcA tab t1 ie.size y with
            | some ys => bif hsite esc o.dst then (bif litOk ie.zero then ifNil ys (K (s.put o.dst (.g (.sl ow w xs)))) (appH s o.dst ow ie.size ie.bytes xs ys K) else False) else appK s o.dst ow w ie.size ie.bytes xs ys K
            | none => False) else False
          | none => False
        | _ => False
      | _, _ => False
    | .builtin .append, [.g (.v (.slice (some ⟨b, 0, none⟩) n cap)), .g y] => match c.argTypes[0]?, c.argTypes[1]? with
      | some t0, some t1 => match tab.kind t0 with
        | .slice el => match tab.get el with
          | some ie => bif (!Nat.beq ie.size 0 && Nat.beq ie.zero.cells.size ie.size && litOk ie.zero) then (match srcA tab t1 ie.size y with
            | some ys => ifNil ys (n ≤ cap ∧ K (s.put o.dst (.g (.v (.slice (some ⟨b, 0, none⟩) n cap))))) (appS s o.dst b n cap ie.size ie.bytes ys K)
            | none => False) else False
          | none => False
        | _ => False
      | _, _ => False
    | _, _ => False
  | .panic x => match s.e.ev x with
    | .g (.v (.iface t v)) => PR P (.iface t v) s.e s.H
    | _ => False
  | _ => False
end Go.Proofs.YtahdkhklngjmoaaGreatDoor

/-
  The abstract machine: how worlds turn: a new variable, a store, an append. No condition.
-/
namespace Go.Proofs.YtahdkhklngjmoaaGreatDoor
open Go.RowKit

theorem Evo.mono {K K' : List Nat} {M M' : Mem} {w w' : World} (h : Evo K M w M' w') (hK : ∀ b ∈ K, b ∈ K') : Evo K' M w M' w' :=
  ⟨h.os, h.tape, h.output, h.size, fun k hk hn => h.block k hk fun hb => hn (hK k hb), h.sub, fun b o v hv => (h.new b o v hv).imp id fun h => h.imp (hK b) id⟩
theorem Inv.lt {M : Mem} {H : Heap} {w : World} (h : Inv M H w) {b o : Nat} {v : Value} (hv : M b o = some v) : b < w.heap.size := World.block_lt_of_cell? w _ (h.mem b o v hv)

/-- a new variable -/
theorem inv_var {M : Mem} {H : Heap} {w : World} (h : Inv M H w) {xs : List AV} {cs : List Value} (hc : repC M xs cs) (T : TypeId) :
    Evo [] M w M (w.alloc (.cells cs.toArray T)) ∧ Inv M ((w.heap.size, .cells xs) :: H) (w.alloc (.cells cs.toArray T)) ∧ w.heap.size ∉ H.keys := by
  have e : Evo [] M w M (w.alloc (.cells cs.toArray T)) := ⟨rfl, rfl, rfl, by simp, fun k hk _ => (by first | exact heap_alloc_old w _ hk | exact heap_alloc_old w _ _ hk), Mem.le.refl M, fun _ _ _ h => Or.inl h⟩
  have hk : w.heap.size ∉ H.keys := fun hb => by have := h.key_lt hb; omega
  refine ⟨e, ⟨fun b o v hv => ?_, fun b x hx => ?_, ?_⟩, hk⟩
  · exact (World.cell?_alloc_lt w (.cells cs.toArray T) ⟨b, o, none⟩ (h.lt hv)).trans (h.mem b o v hv)
  · rcases List.mem_cons.1 hx with hx | hx
    · cases hx
      refine ⟨fun o => ?_, cs, T, heap_alloc_new w _, hc⟩
      cases hv : M w.heap.size o with
      | none => rfl
      | some v => have := h.lt hv; omega
    · exact (h.obj b x hx).keep e (by simp)
  · simp only [Heap.keys, List.map_cons, List.nodup_cons]
    exact ⟨hk, h.nodup⟩

/-- cells that are written, none of them shared with a string -/
theorem run_storeCells_free {P : Program} (g o : Nat) (t : TypeId) (fr : Nat × Nat) : ∀ (vs : List Value) (i : Nat) (cur : Array Value) (w : World), w.heap[g]? = some (.cells cur t fr) → (∀ j, j < cur.size → (decide (fr.1 ≤ j) && decide (j < fr.2)) = false) → o + i + vs.length ≤ cur.size → (∀ v ∈ vs, v.oneCell' = true) →
    (storeCells ⟨g, o, none⟩ vs i).run P w = .ok () (w.setRow g (cur.toList.take (o + i) ++ vs ++ cur.toList.drop (o + i + vs.length)).toArray)
  | [], i, cur, w, hg, _, _, _ => by
    simp only [storeCells, List.append_nil, List.length_nil, Nat.add_zero, List.take_append_drop, Array.toArray_toList]
    rw [setRow_self w g cur t fr hg]
    rfl
  | v :: rest, i, cur, w, hg, hfr, hl, h1 => by
    have hi : o + i < cur.size := by simp at hl; omega
    have hadd : (⟨g, o, none⟩ : Addr).add i = ⟨g, o + i, none⟩ := by unfold Addr.add; split <;> simp_all
    have hcell : w.cell? ⟨g, o + i, none⟩ = some cur[o + i] := by simp [World.cell?, hg, hi]
    have hfro : w.frozen? ⟨g, o + i, none⟩ = false := by
      obtain ⟨lo, hh⟩ := fr
      simp only [World.frozen?, hg]
      exact hfr _ hi
    have hst : (store ((⟨g, o, none⟩ : Addr).add i) v).run P w = .ok () (w.setRow g (cur.setIfInBounds (o + i) v)) := by
      rw [hadd, run_store P w _ v _ (h1 v (by simp)), hcell]
      simp [hfro, setCell_eq_setRow w g (o + i) cur t fr v hg]
    have ih := run_storeCells_free (P := P) g o t fr rest (i + 1) (cur.setIfInBounds (o + i) v) (w.setRow g (cur.setIfInBounds (o + i) v)) (setRow_heap w g cur _ t _ hg) (by simpa using hfr) (by simp at hl ⊢; omega) (fun x hx => h1 x (by simp [hx]))
    simp only [storeCells, Sem.run_bind, hst, Result.andThen_ok, ih, setRow_setRow]
    congr 3
    have e := list_seg_step cur.toList (o + i) v rest (by simp at hl ⊢; omega)
    simpa [Array.toList_setIfInBounds, Nat.add_assoc] using e

theorem evo_row {M M' : Mem} {w : World} {g : Nat} (ds : Array Value) (hM : M.le M') (hn : ∀ b o v, M' b o = some v → M b o = some v ∨ b = g) : Evo [g] M w M' (w.setRow g ds) :=
  ⟨rfl, rfl, rfl, by simp, fun k _ hk => setRow_other w g k _ (by simpa using hk), hM, fun b o v hv => (hn b o v hv).imp id fun h => Or.inl (by simp [h])⟩

/-- a store into an object -/
theorem inv_store {M : Mem} {H H' : Heap} {w : World} (h : Inv M H w) {b : Nat} {xs ys : List AV} {ds : List Value} (ha : Heap.At b (.cells xs) (.cells ys) H H') (hc : repC M ys ds) :
    Evo [b] M w M (w.setRow b ds.toArray) ∧ Inv M H' (w.setRow b ds.toArray) := by
  have e : Evo [b] M w M (w.setRow b ds.toArray) := evo_row _ (Mem.le.refl M) fun _ _ _ h => Or.inl h
  have ho := h.obj _ _ ha.mem
  obtain ⟨hnone, cs, T, hg, _⟩ := ho
  refine ⟨e, ⟨fun b' o v hv => ?_, fun b' x hx => ?_, ?_⟩⟩
  · have hne : b' ≠ b := fun e => by subst e; rw [hnone o] at hv; cases hv
    exact (cell_setRow_other w b _ ⟨b', o, none⟩ hne).trans (h.mem b' o v hv)
  · by_cases hb : b' = b
    · subst hb
      have : x = .cells ys := by
        have hnd : H'.keys.Nodup := by rw [ha.keys]; exact h.nodup
        exact at_uniq ha hnd hx
      subst this
      exact ⟨hnone, ds, T, setRow_heap w b' _ _ T _ hg, hc⟩
    · rcases ha.other _ hx with h1 | h1
      · cases h1; exact absurd rfl hb
      · exact (h.obj b' x h1).keep e (by simpa using hb)
  · rw [ha.keys]; exact h.nodup
where at_uniq : ∀ {b : Nat} {x y z : AObj} {H H' : Heap}, Heap.At b x y H H' → H'.keys.Nodup → (b, z) ∈ H' → z = y
  | b, x, y, z, _, _, .here, hn, hz => by
    rcases List.mem_cons.1 hz with h | h
    · cases h; rfl
    · simp only [Heap.keys, List.map_cons, List.nodup_cons] at hn
      exact absurd (Heap.mem_keys h) hn.1
  | b, x, y, z, _, _, .there (p := p) h, hn, hz => by
    simp only [Heap.keys, List.map_cons, List.nodup_cons] at hn
    rcases List.mem_cons.1 hz with h1 | h1
    · subst h1
      have hk := Heap.mem_keys h.mem
      rw [← h.keys] at hk
      exact absurd hk hn.1
    · exact at_uniq h hn.2 h1

/-! append -/
/-- the flat cells of a slice -/
theorem sl_cells {M : Mem} {o : Own} {s size : Nat} {xs : List AV} {ad : Option Addr} {cap : Nat} (hs : s = size ∨ s = 0) (h : rep M (.sl o s xs) (.slice ad xs.length cap)) :
    ∃ vs, vs.length = xs.length * size ∧ repC M (xs.flatMap AV.cells) vs ∧ ∀ {P : Program} {H : Heap} {w w1 : World}, Inv M H w → w1.heap = w.heap → (Builtin.firstCells size xs.length (.slice ad xs.length cap)).run P w1 = .ok vs.toArray w1 := by
  simp only [rep] at h
  obtain ⟨a', cap', e1, k1, k2, k3, ⟨k4, k5⟩, k6, k7⟩ := h
  simp only [Value.slice.injEq] at e1
  obtain ⟨rfl, _, rfl⟩ := e1
  by_cases h0 : xs = []
  · subst h0
    refine ⟨[], by simp, by simp [repC], fun {P H w w1} hI hw => ?_⟩
    cases ad with
    | none => rfl
    | some a => simp [Builtin.firstCells, loadCells, loadCellsFrom]
  · have hpos : 0 < xs.length := List.length_pos_iff.2 h0
    have hs' : s = size := by
      rcases hs with h | h
      · exact h
      · exact absurd (k4 h) h0
    subst hs'
    obtain ⟨b, off, rfl, hat⟩ := k7 hpos
    rw [atE.flat] at hat
    obtain ⟨vs, h1, h2⟩ := hat.vals
    have hl : vs.length = xs.length * s := by
      rw [h1.length]
      exact flat_len k5
    refine ⟨vs, hl, h1, fun {P H w w1} hI hw => ?_⟩
    refine run_firstCells_some (P := P) w1 s xs.length ⟨b, off, none⟩ xs.length cap vs hl fun j u hj => ?_
    rw [Addr.add_lit]
    have := hI.mem _ _ _ (h2 j u hj)
    simpa [World.cell?, hw] using this
where flat_len : ∀ {xs : List AV} {s : Nat}, (∀ y ∈ xs, y.cells.length = s) → (xs.flatMap AV.cells).length = xs.length * s
  | [], s, _ => by simp
  | x :: xs, s, h => by
    rw [List.flatMap_cons, List.length_append, h x (by simp), flat_len (fun y hy => h y (by simp [hy])), List.length_cons, Nat.succ_mul]
    omega

section
variable {P : Program} {w : World}
theorem run_app_grow {t u ty e : TypeId} {i : TypeInfo} {z : Value} {ad : Option Addr} {n cap m : Nat} {x : Value} {olds news : List Value} {d : TypeDesc} {ats : Array TypeId} (h0 : ats[0]? = some t) (h1 : ats[1]? = some u) (ht : P.underlying t = some (.slice e)) (hu : P.underlying u = some d) (hd : (∃ e', d = .slice e') ∨ d = .string)
    (hi : P.info? e = some i) (hz : i.zero = some z) (hlen : ∀ w1, (Builtin.lenOf x).run P w1 = .ok m w1)
    (hfo : ∀ w1 : World, w1.heap = w.heap → (Builtin.firstCells i.size n (.slice ad n cap)).run P w1 = .ok olds.toArray w1) (hfn : ∀ w1 : World, w1.heap = w.heap → (Builtin.firstCells i.size m x).run P w1 = .ok news.toArray w1)
    (hb : (n + m) * i.bytes ≤ 140737488355328) (hm : n + m ≤ maxLen) (hc : cap < n + m) :
    (Builtin.append_ ats ty #[.slice ad n cap, x]).run P w = .ok (.slice (some ⟨w.heap.size, 0, none⟩) (n + m) (grownCap w (n + m) cap e)) (w.drew.alloc (.cells (olds.toArray ++ news.toArray ++ Builtin.zeroCells z.cells (grownCap w (n + m) cap e - (n + m))) e)) := by
  have hfo' := hfo w.drew rfl
  have hfn' := hfn w.drew rfl
  have hroom : ¬ n + m ≤ cap := by omega
  have h63' : ¬ (9223372036854775807 < ((n : Int) + (m : Int))) := by simp only [maxLen] at hm; omega
  have hfit := growslice_fits (need := n + m) (old := cap) (bytes := i.bytes) (by omega) hb
  have h48' : ¬ (281474976710656 < Builtin.nextslicecap (n + m) cap * i.bytes) := by omega
  rcases hd with ⟨e', rfl⟩ | rfl <;> simp [Builtin.append_, h0, h1, run_underlying ht, run_underlying hu, sizeOf, typeInfo, zeroValue, hi, hz, hlen, hroom, h63', h48', Question.forced, hfo', hfn', newRow, grownCap, -Array.append_assoc]
theorem run_app_room {t u ty e : TypeId} {i : TypeInfo} {ad : Option Addr} {n cap m : Nat} {x : Value} {news : List Value} {d : TypeDesc} {w' : World} {ats : Array TypeId} (h0 : ats[0]? = some t) (h1 : ats[1]? = some u) (ht : P.underlying t = some (.slice e)) (hu : P.underlying u = some d) (hd : (∃ e', d = .slice e') ∨ d = .string)
    (hi : P.info? e = some i) (hlen : ∀ w1, (Builtin.lenOf x).run P w1 = .ok m w1) (hfn : (Builtin.firstCells i.size m x).run P w = .ok news.toArray w) (hc : n + m ≤ cap)
    (hst : ∀ a, ad = some a → (storeCells (a.add (n * i.size)) news).run P w = .ok () w') (hno : ad = none → w' = w) :
    (Builtin.append_ ats ty #[.slice ad n cap, x]).run P w = .ok (.slice ad (n + m) cap) w' := by
  cases ad with
  | none =>
    rw [hno rfl]
    rcases hd with ⟨e', rfl⟩ | rfl <;> simp [Builtin.append_, h0, h1, run_underlying ht, run_underlying hu, sizeOf, typeInfo, hi, hlen, hc, hfn]
  | some a =>
    have := hst a rfl
    rcases hd with ⟨e', rfl⟩ | rfl <;> simp [Builtin.append_, h0, h1, run_underlying ht, run_underlying hu, sizeOf, typeInfo, hi, hlen, hc, hfn, this]
end

/-- a row that grows into a new block -/
theorem inv_grow {M : Mem} {H : Heap} {w : World} (h : Inv M H w) {s cap : Nat} {xs : List AV} {vs : List Value} {rest : Array Value} {T : TypeId} (hl : vs.length = xs.length * s) (hr : rest.size = cap * s - xs.length * s) (hs : 0 < s) (hx : ∀ y ∈ xs, y.cells.length = s) (hc : repC M (xs.flatMap AV.cells) vs) (h1 : xs.length ≤ cap) (h2 : cap ≤ maxLen) :
    ∃ M' c, c.b ∉ H.keys ∧ w.heap.size ≤ c.b ∧ Evo [] M w M' (w.drew.alloc (.cells (vs.toArray ++ rest) T)) ∧ Inv M' ((c.b, .cap c) :: H) (w.drew.alloc (.cells (vs.toArray ++ rest) T)) ∧ rep M' (.sl (.own c) s xs) (.slice (some ⟨w.heap.size, 0, none⟩) xs.length cap) := by
  let M' : Mem := fun b o => if b = w.heap.size ∧ o < vs.length then vs[o]? else M b o
  have hle : xs.length * s ≤ cap * s := Nat.mul_le_mul_right _ h1
  have hM : M.le M' := fun b o v hv => by
    have := h.lt hv
    show (if _ then _ else _) = _
    rw [if_neg (by omega)]; exact hv
  have e : Evo [] M w M' (w.drew.alloc (.cells (vs.toArray ++ rest) T)) := by
    refine ⟨rfl, rfl, rfl, by simp, fun k hk _ => (by first | exact heap_alloc_old w.drew _ hk | exact heap_alloc_old w.drew _ _ hk), hM, fun b o v hv => ?_⟩
    have hv' : (if b = w.heap.size ∧ o < vs.length then vs[o]? else M b o) = some v := hv
    split at hv'
    · right; right; omega
    · exact Or.inl hv'
  have hk : w.heap.size ∉ H.keys := fun hb => by have := h.key_lt hb; omega
  have hnew : ∀ o, (w.drew.alloc (.cells (vs.toArray ++ rest) T)).cell? ⟨w.heap.size, o, none⟩ = (vs.toArray ++ rest)[o]? := fun o => World.cell?_alloc_new w.drew _ T o
  have hat : atL M' (xs.flatMap AV.cells) w.heap.size 0 := atL.of_vals (repC.mono hM _ _ hc) fun j c hj => by
    show (if _ then _ else _) = _
    rw [if_pos ⟨rfl, by have := (List.getElem?_eq_some_iff.1 hj).1; omega⟩, Nat.zero_add, hj]
  refine ⟨M', ⟨w.heap.size, xs.length * s, cap * s⟩, hk, Nat.le_refl _, e, ⟨fun b o v hv => ?_, fun b x hx => ?_, ?_⟩, ?_⟩
  · have hv' : (if b = w.heap.size ∧ o < vs.length then vs[o]? else M b o) = some v := hv
    split at hv'
    · rename_i hb
      obtain ⟨rfl, hb⟩ := hb
      rw [hnew, Array.getElem?_append_left (by simpa using hb)]
      simpa using hv'
    · exact (World.cell?_alloc_lt w.drew (.cells (vs.toArray ++ rest) T) ⟨b, o, none⟩ (h.lt hv')).trans (h.mem b o v hv')
  · rcases List.mem_cons.1 hx with hx | hx
    · cases hx
      refine ⟨rfl, fun o ho => ?_, vs.toArray ++ rest, T, (0, 0), heap_alloc_new w.drew _, ?_, by simp⟩
      · show (if _ then _ else _) = _
        rw [if_neg (by simp only at ho; omega)]
        cases hv : M w.heap.size o with
        | none => rfl
        | some v => have := h.lt hv; omega
      · simp only [Array.size_append, List.size_toArray, hl, hr]; omega
    · exact (h.obj b x hx).keep e (by simp)
  · simp only [Heap.keys, List.map_cons, List.nodup_cons]
    exact ⟨hk, h.nodup⟩
  · simp only [rep]
    exact ⟨_, cap, rfl, h1, h2, (fun h => by cases h), ⟨fun h => by omega, hx⟩, ⟨0, rfl, by simp, by simp⟩, fun _ => ⟨w.heap.size, 0, rfl, atE.flat.2 hat⟩⟩

/-- a row that grows in its room -/
theorem inv_room {M : Mem} {H H0 : Heap} {w : World} (h : Inv M H w) {c0 : Cap} (hrem : Heap.Rem (c0.b, .cap c0) H H0) {s cap off : Nat} {xs ys : List AV} {news : List Value} (hs : 0 < s) (hxs : rep M (.sl (.own c0) s xs) (.slice (some ⟨c0.b, off, none⟩) xs.length cap)) (hy : ∀ y ∈ ys, y.cells.length = s) (hn : news.length = ys.length * s) (hc : repC M (ys.flatMap AV.cells) news) (hr : xs.length + ys.length ≤ cap) :
    ∃ (cur : Array Value) (T : TypeId) (fr : Nat × Nat), w.heap[c0.b]? = some (.cells cur T fr) ∧ (∀ j, j < cur.size → (decide (fr.1 ≤ j) && decide (j < fr.2)) = false) ∧ off + xs.length * s + news.length ≤ cur.size ∧
    ∃ M', let c : Cap := ⟨c0.b, c0.hi + news.length, c0.lim⟩
      let w' := w.setRow c0.b (cur.toList.take (off + xs.length * s) ++ news ++ cur.toList.drop (off + xs.length * s + news.length)).toArray
      c.b ∉ H0.keys ∧ Evo [c0.b] M w M' w' ∧ Inv M' ((c.b, .cap c) :: H0) w' ∧ rep M' (.sl (.own c) s (xs ++ ys)) (.slice (some ⟨c0.b, off, none⟩) (xs.length + ys.length) cap) := by
  have hin : (c0.b, AObj.cap c0) ∈ H := hrem.perm.mem_iff.2 (by simp)
  obtain ⟨_, hnone, cur, T, fr, hg, hlim, hfr⟩ := h.obj _ _ hin
  have hx := hxs
  simp only [rep] at hx
  obtain ⟨a', cap', e1, k1, k2, k3, ⟨k4, k5⟩, k6, k7⟩ := hx
  simp only [Value.slice.injEq] at e1
  obtain ⟨rfl, _, rfl⟩ := e1
  obtain ⟨off', e2, hhi, hlm⟩ := k6
  simp only [Option.some.injEq, Addr.mk.injEq, true_and, and_true] at e2
  subst e2
  have hmul : (xs.length + ys.length) * s = xs.length * s + ys.length * s := Nat.add_mul _ _ _
  have hle : (xs.length + ys.length) * s ≤ cap * s := Nat.mul_le_mul_right _ hr
  have hfit : off + xs.length * s + news.length ≤ cur.size := by omega
  refine ⟨cur, T, fr, hg, hfr, hfit, ?_⟩
  have hcl : cur.toList.length = cur.size := Array.length_toList
  let M' : Mem := fun b o => if b = c0.b ∧ c0.hi ≤ o ∧ o < c0.hi + news.length then news[o - c0.hi]? else M b o
  have hM : M.le M' := fun b o v hv => by
    show (if _ then _ else _) = _
    rw [if_neg ?_]
    · exact hv
    · rintro ⟨rfl, h1, _⟩
      rw [hnone o h1] at hv; cases hv
  have hn2 : (Heap.keys H).Nodup := h.nodup
  have hp : (Heap.keys H).Perm (c0.b :: H0.keys) := hrem.perm.map _
  have hnd := hp.nodup_iff.1 hn2
  rw [List.nodup_cons] at hnd
  have e : Evo [c0.b] M w M' (w.setRow c0.b (cur.toList.take (off + xs.length * s) ++ news ++ cur.toList.drop (off + xs.length * s + news.length)).toArray) := evo_row _ hM fun b o v hv => by
    have hv' : (if b = c0.b ∧ c0.hi ≤ o ∧ o < c0.hi + news.length then news[o - c0.hi]? else M b o) = some v := hv
    split at hv'
    · rename_i hb; exact Or.inr hb.1
    · exact Or.inl hv'
  have hlen : (cur.toList.take (off + xs.length * s)).length = c0.hi := by rw [List.length_take, hcl]; omega
  refine ⟨M', hnd.1, e, ⟨fun b o v hv => ?_, fun b x hx => ?_, ?_⟩, ?_⟩
  · have hv' : (if b = c0.b ∧ c0.hi ≤ o ∧ o < c0.hi + news.length then news[o - c0.hi]? else M b o) = some v := hv
    split at hv'
    · rename_i hb
      obtain ⟨rfl, hb1, hb2⟩ := hb
      rw [cell_setRow_same w c0.b o cur _ T fr hg]
      simp only [List.getElem?_toArray]
      rw [List.append_assoc, List.getElem?_append_right (by omega), hlen, List.getElem?_append_left (by omega)]
      exact hv'
    · rename_i hb
      have hold := h.mem b o v hv'
      by_cases hbb : b = c0.b
      · subst hbb
        have hlt : o < c0.hi := by
          rcases Nat.lt_or_ge o c0.hi with h1 | h1
          · exact h1
          · rw [hnone o h1] at hv'; cases hv'
        rw [cell_setRow_same w c0.b o cur _ T fr hg]
        simp only [List.getElem?_toArray]
        rw [List.append_assoc, List.getElem?_append_left (by omega), List.getElem?_take, if_pos (by omega)]
        simpa [World.cell?, hg] using hold
      · exact (cell_setRow_other w c0.b _ ⟨b, o, none⟩ hbb).trans hold
  · rcases List.mem_cons.1 hx with hx | hx
    · cases hx
      refine ⟨rfl, fun o ho => ?_, _, T, fr, setRow_heap w c0.b cur _ T fr hg, ?_, ?_⟩
      · show (if _ then _ else _) = _
        have ho' : c0.hi + news.length ≤ o := ho
        rw [if_neg (by omega)]
        exact hnone o (by omega)
      · simp only [List.size_toArray, List.length_append, List.length_take, List.length_drop, hcl]; omega
      · intro o ho
        apply hfr
        simp only [List.size_toArray, List.length_append, List.length_take, List.length_drop, hcl] at ho
        omega
    · have hbn : b ≠ c0.b := fun e => by subst e; exact hnd.1 (Heap.mem_keys hx)
      exact (h.obj b x (hrem.perm.mem_iff.2 (List.mem_cons_of_mem _ hx))).keep e (by simpa using hbn)
  · simp only [Heap.keys, List.map_cons, List.nodup_cons]
    exact hnd
  · simp only [rep]
    refine ⟨_, cap, by rw [List.length_append], by rw [List.length_append]; omega, k2, (fun h => by cases h), ⟨fun h => by omega, ?_⟩, ⟨off, rfl, ?_, hlm⟩, fun _ => ⟨c0.b, off, rfl, ?_⟩⟩
    · intro y hy'
      rcases List.mem_append.1 hy' with h1 | h1
      · exact k5 y h1
      · exact hy y h1
    · show c0.hi + news.length = _
      rw [List.length_append]; omega
    · rw [atE.flat, List.flatMap_append, atE.flat.atL.append]
      refine ⟨?_, ?_⟩
      · by_cases h0 : 0 < xs.length
        · obtain ⟨b, o, e3, h4⟩ := k7 h0
          cases e3
          exact atL.mono hM _ _ _ (atE.flat.1 h4)
        · have : xs = [] := List.eq_nil_of_length_eq_zero (by omega)
          subst this
          simp [atL]
      · rw [sl_cells.flat_len k5]
        refine atL.of_vals (repC.mono hM _ _ hc) fun j c hj => ?_
        have hj' := (List.getElem?_eq_some_iff.1 hj).1
        show (if _ then _ else _) = _
        rw [if_pos ⟨rfl, by omega, by omega⟩]
        rw [show off + xs.length * s + j - c0.hi = j by omega]
        exact hj
end Go.Proofs.YtahdkhklngjmoaaGreatDoor

/-
  The abstract machine: frames and worlds that stand for a state; each operation, in memory. No condition.
-/
namespace Go.Proofs.YtahdkhklngjmoaaGreatDoor
open Go.RowKit

/-- where a call began -/
structure Base where
  K : List Nat
  M : Mem
  w : World
  gh : GW w ∧ nG ≤ w.heap.size ∧ ∀ k ∈ K, nG ≤ k
  df : List Deferred
/-- the mark of a range over a function on its frame -/
def markOf (D : Nat) : Deferred := { target := .collected D, args := #[] }
/-- nothing waits for the frame's end but marks of ranges, no call behind these, and what waited at the base -/
def Marked (df : List Deferred) (n : Nat) (ks : List Nat) (w : World) (ds : List Deferred) : Prop := ∃ Ds : List Nat, ds = Ds.map markOf ++ df ∧ Ds.Nodup ∧ ∀ D ∈ Ds, w.heap[D]? = some (.deferred (some [])) ∧ n ≤ D ∧ D ∉ ks
theorem Marked.nil {df : List Deferred} {n : Nat} {ks : List Nat} {w : World} : Marked df n ks w df := ⟨[], rfl, List.nodup_nil, fun _ h => by cases h⟩
theorem Marked.step {df : List Deferred} {n : Nat} {ks ks' K : List Nat} {M M' : Mem} {w w' : World} {ds : List Deferred} (h : Marked df n ks w ds) (e : Evo K M w M' w') (hK : ∀ k ∈ K, k ∈ ks) (hk : ∀ k ∈ ks', k ∈ ks ∨ w.heap.size ≤ k) : Marked df n ks' w' ds := by
  obtain ⟨Ds, h1, h2, h3⟩ := h
  refine ⟨Ds, h1, h2, fun D hD => ?_⟩
  obtain ⟨k1, k2, k3⟩ := h3 D hD
  have hlt := (Array.getElem?_eq_some_iff.1 k1).1
  refine ⟨(e.block D hlt fun h => k3 (hK D h)).trans k1, k2, fun h => ?_⟩
  rcases hk D h with h | h
  · exact k3 h
  · omega
theorem Marked.sub {df : List Deferred} {n : Nat} {ks ks' : List Nat} {w : World} {ds : List Deferred} (h : Marked df n ks w ds) (hk : ∀ k ∈ ks', k ∈ ks) : Marked df n ks' w ds := by
  obtain ⟨Ds, h1, h2, h3⟩ := h
  exact ⟨Ds, h1, h2, fun D hD => ⟨(h3 D hD).1, (h3 D hD).2.1, fun h => (h3 D hD).2.2 (hk D h)⟩⟩
structure ConcAt (B : Base) (N : Nat) (M : Mem) (lm : Nat → Nat) (s : St) (a : Act) (w : World) : Prop where
  evo : Evo B.K B.M B.w M w
  keys : ∀ b ∈ Heap.keys (lheap lm s.L ++ s.H), b ∈ B.K ∨ B.w.heap.size ≤ b
  inv : Inv M (lheap lm s.L ++ s.H) w
  size : a.tmps.size = N
  defers : Marked B.df B.w.heap.size (Heap.keys (lheap lm s.L ++ s.H)) w a.defers
  env : ∀ i, repX M lm (s.e.get i) (a.tmps.getD i undef)
theorem ConcAt.gh {B : Base} {N : Nat} {M : Mem} {lm : Nat → Nat} {s : St} {a : Act} {w : World} (hc : ConcAt B N M lm s a w) : GH w s.H := by
  refine ⟨B.gh.1.keep fun k hk => hc.evo.block k (Nat.lt_of_lt_of_le hk B.gh.2.1) fun h => by have := B.gh.2.2 k h; omega, Nat.le_trans B.gh.2.1 hc.evo.size, fun b hb => ?_⟩
  rcases hc.keys b (by rw [Heap.keys_append]; exact List.mem_append.2 (Or.inr hb)) with h | h
  · exact B.gh.2.2 b h
  · exact Nat.le_trans B.gh.2.1 h
/-- this frame, in this world, stands for this state -/
def Conc (B : Base) (N : Nat) (s : St) (a : Act) (w : World) : Prop := ∃ M lm, ConcAt B N M lm s a w

def dstOk (N : Nat) (o : Oper) : Bool :=
  match o.dst with
  | some d => Nat.blt d N
  | none => true

theorem env_put {M : Mem} {lm : Nat → Nat} {e : Env} {a : Act} {N : Nat} (he : ∀ i, repX M lm (e.get i) (a.tmps.getD i undef)) (hs : a.tmps.size = N) {dst : Option Tmp} (hd : match dst with | some d => Nat.blt d N = true | none => True) {t : T} {u : Value} (ht : repX M lm t u) :
    (∀ i, repX M lm ((e.put dst t).get i) ((a.put dst u).tmps.getD i undef)) ∧ (a.put dst u).tmps.size = N ∧ (a.put dst u).defers = a.defers := by
  cases dst with
  | none => exact ⟨he, hs, rfl⟩
  | some d =>
    refine ⟨fun i => ?_, by simp [Act.put, hs], rfl⟩
    show repX M lm (bif Nat.beq d i then t else e.get i) _
    have hd' : d < a.tmps.size := by rw [hs]; simpa using hd
    cases hb : Nat.beq d i with
    | true =>
      have := beq_true hb
      subst this
      simpa [Act.put, hd'] using ht
    | false =>
      have hne : d ≠ i := fun e => by rw [e, Nat.beq_refl] at hb; cases hb
      simpa [Act.put, Array.getElem?_setIfInBounds_ne hne] using he i

theorem ConcAt.ev {B : Base} {N : Nat} {M : Mem} {lm : Nat → Nat} {s : St} {a : Act} {w : World} (h : ConcAt B N M lm s a w) (x : Operand) : repX M lm (s.e.ev x) (a.eval x) := ev_rep h.env x

/-- behind a step that turns objects of the heap alone -/
theorem ConcAt.next {B : Base} {N : Nat} {M M' : Mem} {lm : Nat → Nat} {s : St} {a : Act} {w w' : World} (h : ConcAt B N M lm s a w) {H' : Heap} (e : Evo s.H.keys M w M' w') (hI : Inv M' H' w') (hk : ∀ b ∈ H'.keys, b ∈ s.H.keys ∨ w.heap.size ≤ b)
    {dst : Option Tmp} (hd : match dst with | some d => Nat.blt d N = true | none => True) {t : T} {u : Value} (ht : repX M' lm t u) : ConcAt B N M' lm ⟨s.e.put dst t, s.L, H'⟩ (a.put dst u) w' := by
  have hin : ∀ b ∈ s.H.keys, b ∈ Heap.keys (lheap lm s.L ++ s.H) := fun b hb => by rw [Heap.keys_append]; exact List.mem_append.2 (Or.inr hb)
  have hsw : Inv M (s.H ++ lheap lm s.L) w := h.inv.swap
  have hfr := (hsw.frame hI e hk).swap
  have base : ∀ b, b ∈ s.H.keys ∨ w.heap.size ≤ b → b ∈ B.K ∨ B.w.heap.size ≤ b := fun b hb => by
    rcases hb with hb | hb
    · exact h.keys b (hin b hb)
    · exact Or.inr (Nat.le_trans h.evo.size hb)
  obtain ⟨p1, p2, p3⟩ := env_put (fun i => (h.env i).mono e.sub) h.size hd ht
  have hks : ∀ b ∈ Heap.keys (lheap lm s.L ++ H'), b ∈ Heap.keys (lheap lm s.L ++ s.H) ∨ w.heap.size ≤ b := fun b hb => by
    rw [Heap.keys_append] at hb ⊢
    rcases List.mem_append.1 hb with hb | hb
    · exact Or.inl (List.mem_append.2 (Or.inl hb))
    · exact (hk b hb).imp (fun h => List.mem_append.2 (Or.inr h)) id
  refine ⟨h.evo.trans e fun b hb => h.keys b (hin b hb), fun b hb => ?_, hfr, p2, by rw [p3]; exact h.defers.step e hin hks, p1⟩
  rw [Heap.keys_append] at hb
  rcases List.mem_append.1 hb with hb | hb
  · exact h.keys b (by rw [Heap.keys_append]; exact List.mem_append.2 (Or.inl hb))
  · exact base b (hk b hb)
theorem ConcAt.right {B : Base} {N : Nat} {M : Mem} {lm : Nat → Nat} {s : St} {a : Act} {w : World} (h : ConcAt B N M lm s a w) : Inv M s.H w := h.inv.sub (List.sublist_append_right _ _)

section
variable {P : Program} {tab : Tab} {B : Base} {N : Nat} {s : St} {a : Act} {w : World} {M : Mem} {lm : Nat → Nat}

theorem wp_value {o : Oper} {K : Act → World → Prop} {u : Value} {w' : World} (h : (execOp a.eval o).run P w = .ok (.value u) w') (k : K (a.put o.dst u) w') : o.wp P a w K (fun _ _ _ => False) := by
  unfold Oper.wp; rw [h]; exact k
theorem wp_skip' {o : Oper} {K : Act → World → Prop} {w' : World} (h : (execOp a.eval o).run P w = .ok .skip w') (k : K (a.put o.dst undef) w') : o.wp P a w K (fun _ _ _ => False) := by
  unfold Oper.wp; rw [h]; exact k
theorem dst_ok {o : Oper} (h : dstOk N o = true) : match o.dst with | some d => Nat.blt d N = true | none => True := by
  unfold dstOk at h; split at h <;> simp_all

theorem quiet_sound (hP : TabOk P tab) {R : Heap} (hR : ∀ p ∈ R, p ∈ s.H) {o : Oper} (hd : dstOk N o = true) {K : St → Prop} (h : (ares tab o.op s.e.ev s.L R).run fun t => K (s.put o.dst t)) (hc : ConcAt B N M lm s a w) :
    o.wp P a w (fun a' w' => ∃ s', Conc B N s' a' w' ∧ K s') (fun _ _ _ => False) := by
  obtain ⟨t, h1, h2⟩ := Rs.split h
  obtain ⟨u, w', M', hr, he, hI, ht⟩ := ares_sound (P := P) (lm := lm) hP hc.inv (fun p hp => List.mem_append.2 (Or.inl hp)) (fun p hp => List.mem_append.2 (Or.inr (hR p hp))) hc.ev o h1
  refine wp_value hr ⟨_, ⟨M', lm, ?_⟩, h2⟩
  exact hc.next (he.mono (by simp)) (hI.sub (List.sublist_append_right _ _)) (fun b hb => Or.inl hb) (dst_ok hd) ht

/-- a new variable -/
theorem var_sound {esc : Nat → Bool} {o : Oper} (hd : dstOk N o = true) {cs : List AV} {vs : List Value} {T0 : TypeId} {K : St → Prop} (h : newVarK esc s o.dst cs K) (hc : ConcAt B N M lm s a w) (hv : repC M cs vs) (hr : (execOp a.eval o).run P w = .ok (.value (.pointer (some ⟨w.heap.size, 0, none⟩))) (w.alloc (.cells vs.toArray T0))) :
    o.wp P a w (fun a' w' => ∃ s', Conc B N s' a' w' ∧ K s') (fun _ _ _ => False) := by
  unfold newVarK at h
  cases ho : o.dst with
  | none => rw [ho] at h; exact h.elim
  | some d =>
    rw [ho] at h
    simp only at h
    have hd' := dst_ok hd
    cases he : esc d with
    | true =>
      rw [he] at h
      simp only [cond_true] at h
      obtain ⟨e1, e2, e3⟩ := inv_var hc.right hv T0
      refine wp_value hr ⟨_, ⟨M, lm, ?_⟩, h w.heap.size e3⟩
      have := hc.next (e1.mono (by simp)) e2 (fun b hb => by
        simp only [Heap.keys, List.map_cons, List.mem_cons] at hb
        rcases hb with rfl | hb
        · exact Or.inr (Nat.le_refl _)
        · exact Or.inl hb) hd' (t := .g (.ptr w.heap.size 0)) (u := .pointer (some ⟨w.heap.size, 0, none⟩)) (by simp [repX, rep])
      rw [ho] at this ⊢
      exact this
    | false =>
      rw [he] at h
      simp only [cond_false] at h
      cases hf : (s.e.free d && (s.L.get d).isNone) with
      | false => rw [hf] at h; exact h.elim
      | true =>
        rw [hf] at h
        simp only [cond_true] at h
        rw [Bool.and_eq_true] at hf
        obtain ⟨e1, e2, e3⟩ := inv_var hc.inv hv T0
        let lm' : Nat → Nat := fun k => if k = d then w.heap.size else lm k
        have hl : lheap lm' s.L = lheap lm s.L := lheap_congr fun k hk => by
          show (if k = d then _ else _) = _
          rw [if_neg]
          rintro rfl
          rw [Option.isNone_iff_eq_none] at hf
          rw [hf.2] at hk
          cases hk
        have henv : ∀ i, repX M lm' (s.e.get i) (a.tmps.getD i undef) := fun i => by
          have := hc.env i
          cases ht : s.e.get i with
          | lp k off =>
            rw [ht] at this
            show _ = Value.pointer (some ⟨if k = d then _ else _, off, none⟩)
            rw [if_neg (fun e => by subst e; exact free_ne hf.1 i off ht)]
            exact this
          | g x => rw [ht] at this; exact this
          | undef => rw [ht] at this; exact this
          | junk => trivial
        obtain ⟨p1, p2, p3⟩ := env_put henv hc.size hd' (t := .lp d 0) (u := .pointer (some ⟨w.heap.size, 0, none⟩)) (by
          show _ = Value.pointer (some ⟨if d = d then _ else _, 0, none⟩)
          rw [if_pos rfl])
        refine wp_value hr ⟨_, ⟨M, lm', ?_⟩, h⟩
        refine ⟨hc.evo.trans e1 (by simp), fun b hb => ?_, ?_, ?_, ?_, ?_⟩
        · have hb' : b = w.heap.size ∨ b ∈ Heap.keys (lheap lm s.L ++ s.H) := by
            have e4 : lheap lm' ((d, cs) :: s.L) ++ s.H = (lm' d, .cells cs) :: (lheap lm' s.L ++ s.H) := rfl
            simp only at hb
            rw [e4, hl] at hb
            simp only [Heap.keys, List.map_cons, List.mem_cons] at hb
            refine hb.imp (fun h => ?_) id
            rw [h]; show (if d = d then _ else _) = _; rw [if_pos rfl]
          rcases hb' with rfl | hb'
          · exact Or.inr hc.evo.size
          · exact hc.keys b hb'
        · have e4 : lheap lm' ((d, cs) :: s.L) ++ s.H = (lm' d, .cells cs) :: (lheap lm' s.L ++ s.H) := rfl
          show Inv M (lheap lm' ((d, cs) :: s.L) ++ s.H) _
          have e5 : lm' d = w.heap.size := by show (if d = d then _ else _) = _; rw [if_pos rfl]
          rw [e4, hl, e5]
          exact e2
        · exact p2
        · rw [p3]
          refine hc.defers.step e1 (by simp) fun b hb => ?_
          have e4 : lheap lm' ((d, cs) :: s.L) ++ s.H = (lm' d, .cells cs) :: (lheap lm' s.L ++ s.H) := rfl
          simp only at hb
          rw [e4, hl] at hb
          simp only [Heap.keys, List.map_cons, List.mem_cons] at hb
          refine hb.symm.imp id (fun h => ?_)
          rw [h]; show _ ≤ (if d = d then _ else _); rw [if_pos rfl]
          exact Nat.le_refl _
        · rw [ho] at p1 ⊢
          exact p1
where
  lheap_congr : ∀ {lm lm' : Nat → Nat} {L : Loc}, (∀ k, (L.get k).isSome = true → lm' k = lm k) → lheap lm' L = lheap lm L
    | _, _, [], _ => rfl
    | lm, lm', (k, x) :: r, h => by
      have h1 : lm' k = lm k := h k (by simp [Loc.get])
      have h2 : lheap lm' r = lheap lm r := lheap_congr fun j hj => h j (by
        simp only [Loc.get]
        cases Nat.beq k j <;> simp [hj])
      show (lm' k, AObj.cells x) :: lheap lm' r = (lm k, AObj.cells x) :: lheap lm r
      rw [h1, h2]
  free_ne : ∀ {e : Env} {d : Nat}, e.free d = true → ∀ i off, e.get i = .lp d off → False
    | [], d, _, i, off, h => by cases h
    | (k, t) :: r, d, hf, i, off, h => by
      simp only [Env.get] at h
      cases hb : Nat.beq k i with
      | true =>
        rw [hb] at h
        simp only [cond_true] at h
        subst h
        simp [Env.free] at hf
      | false =>
        rw [hb] at h
        refine free_ne (e := r) (d := d) ?_ i off h
        cases t with
        | lp k' off' =>
          simp only [Env.free] at hf
          cases hc : Nat.beq k' d with
          | true => rw [hc] at hf; cases hf
          | false => rw [hc] at hf; exact hf
        | g x => exact hf
        | undef => exact hf
        | junk => exact hf
end
end Go.Proofs.YtahdkhklngjmoaaGreatDoor

/-
  The abstract machine: maps. No condition.
-/
namespace Go.Proofs.YtahdkhklngjmoaaGreatDoor
open Go.RowKit

theorem inv_alloc {M : Mem} {H : Heap} {w : World} (h : Inv M H w) (o : Obj) (y : AObj) (hy : (∀ q, M w.heap.size q = none) → (w.alloc o).heap[w.heap.size]? = some o → objOk M (w.alloc o) w.heap.size y) :
    Evo [] M w M (w.alloc o) ∧ Inv M ((w.heap.size, y) :: H) (w.alloc o) ∧ w.heap.size ∉ H.keys := by
  have e : Evo [] M w M (w.alloc o) := ⟨rfl, rfl, rfl, by simp, fun k hk _ => (by first | exact heap_alloc_old w _ hk | exact heap_alloc_old w _ _ hk), Mem.le.refl M, fun _ _ _ h => Or.inl h⟩
  have hk : w.heap.size ∉ H.keys := fun hb => by have := h.key_lt hb; omega
  refine ⟨e, ⟨fun b o' v hv => ?_, fun b x hx => ?_, ?_⟩, hk⟩
  · exact (World.cell?_alloc_lt w o ⟨b, o', none⟩ (h.lt hv)).trans (h.mem b o' v hv)
  · rcases List.mem_cons.1 hx with hx | hx
    · cases hx
      refine hy (fun q => ?_) (heap_alloc_new w _)
      cases hv : M w.heap.size q with
      | none => rfl
      | some v => have := h.lt hv; omega
    · exact (h.obj b x hx).keep e (by simp)
  · simp only [Heap.keys, List.map_cons, List.nodup_cons]
    exact ⟨hk, h.nodup⟩
theorem inv_put {M : Mem} {H H' : Heap} {w : World} (h : Inv M H w) {b : Nat} {x y : AObj} {o' : Obj} (ha : Heap.At b x y H H') (hn : ∀ q, M b q = none) (hy : (w.putObj b o').heap[b]? = some o' → objOk M (w.putObj b o') b y) :
    Evo [b] M w M (w.putObj b o') ∧ Inv M H' (w.putObj b o') := by
  have hne : ∀ k, k ≠ b → (w.putObj b o').heap[k]? = w.heap[k]? := fun k hk => World.putObj_heap_other hk
  have e : Evo [b] M w M (w.putObj b o') := ⟨rfl, rfl, rfl, by simp, fun k _ hk => hne k (by simpa using hk), Mem.le.refl M, fun _ _ _ h => Or.inl h⟩
  have hlt : b < w.heap.size := h.key_lt (Heap.mem_keys ha.mem)
  refine ⟨e, ⟨fun b' o v hv => ?_, fun b' z hz => ?_, ?_⟩⟩
  · have hbb : b' ≠ b := fun e => by subst e; rw [hn o] at hv; cases hv
    have hcv := h.mem b' o v hv
    rw [← hcv]
    simp only [World.cell?, hne b' hbb]
  · by_cases hb : b' = b
    · subst hb
      obtain rfl : z = y := inv_store.at_uniq ha (by rw [ha.keys]; exact h.nodup) hz
      exact hy (World.putObj_heap_same hlt)
    · rcases ha.other _ hz with h1 | h1
      · cases h1; exact absurd rfl hb
      · exact (h.obj b' z h1).keep e (by simpa using hb)
  · rw [ha.keys]; exact h.nodup

theorem KeyOk.val {M : Mem} {kd : TK} {k : AV} {u : Value} (h : KeyOk kd k) (hr : rep M k u) : u = keyVal k := by
  unfold KeyOk at h
  split at h
  · simp only [rep] at hr; exact hr.1
  · simp only [rep] at hr; exact hr.1
  · exact h.elim
theorem KeyOk.is {P : Program} {tab : Tab} (hP : TabOk P tab) {kt : TypeId} {k : AV} (h : KeyOk (tab.kind kt) k) : ∃ d, P.underlying kt = some d ∧ ∀ k, KeyOk (tab.kind kt) k → MapKept.IsKey d (keyVal k) := by
  unfold KeyOk at h
  split at h
  · rename_i kd q j n hk
    refine ⟨_, und_int hP hk, fun q hq => ?_⟩
    rw [hk] at hq
    unfold KeyOk at hq
    split at hq
    · rename_i h1; cases h1; subst hq; exact rfl
    · rename_i h1; cases h1
    · exact hq.elim
  · rename_i kd q l hk
    refine ⟨_, und_string hP hk, fun q hq => ?_⟩
    rw [hk] at hq
    unfold KeyOk at hq
    split at hq
    · rename_i h1; cases h1
    · trivial
    · exact hq.elim
  · exact h.elim
theorem keyEq_iff {kd : TK} {a b : AV} (ha : KeyOk kd a) (hb : KeyOk kd b) : keyEq a b = true ↔ keyVal a = keyVal b := by
  unfold KeyOk at ha
  split at ha
  · rename_i k j n
    subst ha
    unfold KeyOk at hb
    split at hb
    · rename_i h1; cases h1
      subst hb
      simp [keyEq, keyVal]
    · rename_i h1; cases h1
    · exact hb.elim
  · unfold KeyOk at hb
    split at hb
    · rename_i h1; cases h1
    · simp only [keyEq, keyVal, decide_eq_true_eq, Value.string.injEq]
      constructor
      · rintro rfl; rfl
      · intro h
        have : (ByteArray.mk _).data = (ByteArray.mk _).data := congrArg ByteArray.data h
        simpa using this
    · exact hb.elim
  · exact ha.elim

/-- a key is sought -/
theorem find_sound {tab : Tab} {M : Mem} {kt : TypeId} {d : TypeDesc} {k : AV} (hk : KeyOk (tab.kind kt) k) (hd : ∀ k, KeyOk (tab.kind kt) k → MapKept.IsKey d (keyVal k)) : ∀ (es : List (Nat × AV × AV)) (ms : List MapEntry) (i : Nat), (∀ p ∈ es, KeyOk (tab.kind kt) p.2.1) → repE M es ms →
    (mpFind k es = none ∧ Instr.findNow d (keyVal k) ms i = some none) ∨
    ∃ es1 n q x es2 ms1 vx ms2, es = es1 ++ (n, q, x) :: es2 ∧ ms = ms1 ++ ⟨keyVal k, vx, n⟩ :: ms2 ∧ repE M es1 ms1 ∧ repE M es2 ms2 ∧ rep M q (keyVal k) ∧ rep M x vx ∧ ms1.length = es1.length ∧ mpFind k es = some (n, x) ∧ (∀ y, mpSet k y es = es1 ++ (n, q, y) :: es2) ∧ mpDel k es = es1 ++ es2 ∧ Instr.findNow d (keyVal k) ms i = some (some (i + es1.length, vx))
  | [], ms, i, _, h => by
    simp only [repE] at h
    subst h
    exact Or.inl ⟨rfl, rfl⟩
  | (n, q, x) :: es, ms, i, ho, h => by
    simp only [repE] at h
    obtain ⟨vk, vx, ms', rfl, h1, h2, h3⟩ := h
    have hq : KeyOk (tab.kind kt) q := ho (n, q, x) (by simp)
    have hv := hq.val h1
    subst hv
    obtain ⟨r, hr, hiff⟩ := MapKept.sameNow_of_keys (hd k hk) (hd q hq)
    cases hb : keyEq k q with
    | true =>
      have he := (keyEq_iff hk hq).1 hb
      have hrt : r = true := hiff.2 he
      subst hrt
      right
      refine ⟨[], n, q, x, es, [], vx, ms', rfl, by rw [he]; rfl, rfl, h3, by rw [he]; exact h1, h2, rfl, ?_, fun y => ?_, ?_, ?_⟩
      · simp only [mpFind, hb, cond_true]
      · simp only [mpSet, hb, cond_true, List.nil_append]
      · simp only [mpDel, hb, cond_true, List.nil_append]
      · simp only [Instr.findNow, hr, List.length_nil, Nat.add_zero]
    | false =>
      have hrf : r = false := by
        cases r with
        | false => rfl
        | true => rw [(keyEq_iff hk hq).2 (hiff.1 rfl)] at hb; cases hb
      subst hrf
      rcases find_sound hk hd es ms' (i + 1) (fun p hp => ho p (List.mem_cons_of_mem _ hp)) h3 with ⟨g1, g2⟩ | ⟨es1, n', q', x', es2, ms1, vx', ms2, rfl, rfl, g1, g2, g3, g4, g5, g6, g7, g8, g9⟩
      · left
        refine ⟨?_, ?_⟩
        · simp only [mpFind, hb, cond_false]; exact g1
        · simp only [Instr.findNow, hr]; exact g2
      · right
        refine ⟨(n, q, x) :: es1, n', q', x', es2, ⟨keyVal q, vx, n⟩ :: ms1, vx', ms2, rfl, rfl, ?_, g2, g3, g4, by simp [g5], ?_, fun y => ?_, ?_, ?_⟩
        · exact ⟨_, _, _, rfl, h1, h2, g1⟩
        · simp only [mpFind, hb, cond_false]; exact g6
        · simp only [mpSet, hb, cond_false, g7, List.cons_append]
        · simp only [mpDel, hb, cond_false, g8, List.cons_append]
        · simp only [Instr.findNow, hr]
          rw [g9]
          simp only [List.length_cons]
          rw [show i + 1 + es1.length = i + (es1.length + 1) by omega]
/-- a key is sought among keys that are structs -/
theorem ask_sound {P : Program} {M : Mem} {kt : TypeId} {S : AV → Prop} (hS : KeyLaw P kt S) {k : AV} (hk : S k) : ∀ (es : List (Nat × AV × AV)) (ms : List MapEntry) (i : Nat), (∀ p ∈ es, S p.2.1) → repE M es ms →
    (mpFind k es = none ∧ ∀ w, (Instr.findAsking kt (keyVal k) ms i).run P w = .ok none w) ∨
    ∃ es1 n q x es2 ms1 vx ms2, es = es1 ++ (n, q, x) :: es2 ∧ ms = ms1 ++ ⟨keyVal k, vx, n⟩ :: ms2 ∧ repE M es1 ms1 ∧ repE M es2 ms2 ∧ rep M q (keyVal k) ∧ rep M x vx ∧ ms1.length = es1.length ∧ mpFind k es = some (n, x) ∧ (∀ y, mpSet k y es = es1 ++ (n, q, y) :: es2) ∧ mpDel k es = es1 ++ es2 ∧ ∀ w, (Instr.findAsking kt (keyVal k) ms i).run P w = .ok (some (i + es1.length, vx)) w
  | [], ms, i, _, h => by
    simp only [repE] at h
    subst h
    exact Or.inl ⟨rfl, fun w => rfl⟩
  | (n, q, x) :: es, ms, i, ho, h => by
    simp only [repE] at h
    obtain ⟨vk, vx, ms', rfl, h1, h2, h3⟩ := h
    have hq : S q := ho (n, q, x) (by simp)
    have hv := hS.val q hq _ _ h1
    subst hv
    have heq := fun w => hS.eq k q hk hq w
    cases hb : keyEq k q with
    | true =>
      have he := hS.inj k q hk hq hb
      right
      refine ⟨[], n, q, x, es, [], vx, ms', rfl, by rw [he]; rfl, rfl, h3, by rw [he]; exact h1, h2, rfl, ?_, fun y => ?_, ?_, fun w => ?_⟩
      · simp only [mpFind, hb, cond_true]
      · simp only [mpSet, hb, cond_true, List.nil_append]
      · simp only [mpDel, hb, cond_true, List.nil_append]
      · simp only [Instr.findAsking, Sem.run_bind, heq w, hb, Result.andThen_ok, if_true, Sem.run_pure, List.length_nil, Nat.add_zero]
    | false =>
      rcases ask_sound hS hk es ms' (i + 1) (fun p hp => ho p (List.mem_cons_of_mem _ hp)) h3 with ⟨g1, g2⟩ | ⟨es1, n', q', x', es2, ms1, vx', ms2, rfl, rfl, g1, g2, g3, g4, g5, g6, g7, g8, g9⟩
      · left
        refine ⟨?_, fun w => ?_⟩
        · simp only [mpFind, hb, cond_false]; exact g1
        · simp only [Instr.findAsking, Sem.run_bind, heq w, hb, Result.andThen_ok, Bool.false_eq_true, if_false]; exact g2 w
      · right
        refine ⟨(n, q, x) :: es1, n', q', x', es2, ⟨keyVal q, vx, n⟩ :: ms1, vx', ms2, rfl, rfl, ?_, g2, g3, g4, by simp [g5], ?_, fun y => ?_, ?_, fun w => ?_⟩
        · exact ⟨_, _, _, rfl, h1, h2, g1⟩
        · simp only [mpFind, hb, cond_false]; exact g6
        · simp only [mpSet, hb, cond_false, g7, List.cons_append]
        · simp only [mpDel, hb, cond_false, g8, List.cons_append]
        · simp only [Instr.findAsking, Sem.run_bind, heq w, hb, Result.andThen_ok, Bool.false_eq_true, if_false]
          rw [g9]
          simp only [List.length_cons]
          rw [show i + 1 + es1.length = i + (es1.length + 1) by omega]
theorem findNow_struct {fs : Array Field} {k : Value} : ∀ (ms : List MapEntry) (i : Nat), Instr.findNow (.struct fs) k ms i = some none ∧ ms = [] ∨ Instr.findNow (.struct fs) k ms i = none
  | [], _ => Or.inl ⟨rfl, rfl⟩
  | m :: ms, i => Or.inr (by simp [Instr.findNow, Instr.sameNow])
/-- a key is sought -/
theorem key_sound {P : Program} {tab : Tab} {M : Mem} (hP : TabOk P tab) {kt : TypeId} {k : AV} {es : List (Nat × AV × AV)} {ms : List MapEntry} (hk : KeysP P kt (tab.kind kt) k es) (hr : repE M es ms) {u : Value} (hu : rep M k u) :
    u = keyVal k ∧ (∀ e w, (Instr.checkKey e 10000 kt (keyVal k)).run P w = .ok () w) ∧ (∀ w, (Instr.keyThatStays (keyVal k) (keyVal k)).run P w = .ok (keyVal k) w) ∧
    ((mpFind k es = none ∧ ∀ w, (Instr.findKey kt (keyVal k) ms).run P w = .ok none w) ∨
    ∃ es1 n q x es2 ms1 vx ms2, es = es1 ++ (n, q, x) :: es2 ∧ ms = ms1 ++ ⟨keyVal k, vx, n⟩ :: ms2 ∧ repE M es1 ms1 ∧ repE M es2 ms2 ∧ rep M q (keyVal k) ∧ rep M x vx ∧ ms1.length = es1.length ∧ mpFind k es = some (n, x) ∧ (∀ y, mpSet k y es = es1 ++ (n, q, y) :: es2) ∧ mpDel k es = es1 ++ es2 ∧ ∀ w, (Instr.findKey kt (keyVal k) ms).run P w = .ok (some (0 + es1.length, vx)) w) := by
  by_cases hs : ∃ fs, tab.kind kt = .struct fs
  · obtain ⟨fs, hs⟩ := hs
    rw [hs] at hk
    obtain ⟨S, hS, h1, h2⟩ := hk
    obtain ⟨gs, hgs⟩ := hS.und
    refine ⟨hS.val k h1 _ _ hu, fun e w => hS.check k h1 e w, fun w => ?_, ?_⟩
    · simp [Instr.keyThatStays, hS.bits k h1]
    · have key : ∀ (i : Nat) (r : Option (Nat × Value)), i = 0 → (∀ w, (Instr.findAsking kt (keyVal k) ms i).run P w = .ok r w) → ∀ w, (Instr.findKey kt (keyVal k) ms).run P w = .ok r w := by
        intro i r hi hr w
        subst hi
        simp only [Instr.findKey, Sem.run_bind, run_underlying hgs, Result.andThen_ok]
        rcases findNow_struct (fs := gs) (k := keyVal k) ms 0 with ⟨e1, e2⟩ | e1
        · rw [e1]
          have := hr w
          rw [e2] at this
          exact this
        · rw [e1]
          exact hr w
      rcases ask_sound hS h1 es ms 0 h2 hr with ⟨g1, g2⟩ | ⟨es1, n', q', x', es2, ms1, vx', ms2, e1, e2, g1, g2, g3, g4, g5, g6, g7, g8, g9⟩
      · exact Or.inl ⟨g1, key 0 _ rfl g2⟩
      · exact Or.inr ⟨es1, n', q', x', es2, ms1, vx', ms2, e1, e2, g1, g2, g3, g4, g5, g6, g7, g8, key 0 _ rfl g9⟩
  · have hk' : KeysOk (tab.kind kt) k es := by
      unfold KeysP at hk
      split at hk
      · rename_i fs h; exact absurd ⟨fs, h⟩ hs
      · exact hk
    obtain ⟨d, k1, k2⟩ := hk'.1.is hP
    have g6 := k2 k hk'.1
    refine ⟨hk'.1.val hu, fun e w => MapKept.run_checkKey k1 g6 e _, fun w => MapKept.run_keyThatStays g6, ?_⟩
    rcases find_sound hk'.1 k2 es ms 0 hk'.2 hr with ⟨g1, g2⟩ | ⟨es1, n', q', x', es2, ms1, vx', ms2, e1, e2, g1, g2, g3, g4, g5, g6, g7, g8, g9⟩
    · exact Or.inl ⟨g1, fun w => MapKept.run_findKey k1 g2⟩
    · exact Or.inr ⟨es1, n', q', x', es2, ms1, vx', ms2, e1, e2, g1, g2, g3, g4, g5, g6, g7, g8, fun w => MapKept.run_findKey k1 g9⟩
theorem repE.append {M : Mem} : ∀ {es es' : List (Nat × AV × AV)} {ms ms' : List MapEntry}, repE M es ms → repE M es' ms' → repE M (es ++ es') (ms ++ ms')
  | [], _, _, _, h, k => by simp only [repE] at h; subst h; exact k
  | (_, _, _) :: _, _, _, _, ⟨vk, vx, ms1, e, h1, h2, h3⟩, k => by
    subst e
    exact ⟨vk, vx, _, rfl, h1, h2, repE.append h3 k⟩
theorem repE.length {M : Mem} : ∀ {es : List (Nat × AV × AV)} {ms : List MapEntry}, repE M es ms → ms.length = es.length
  | [], _, h => by simp only [repE] at h; subst h; rfl
  | (_, _, _) :: _, _, ⟨vk, vx, ms1, e, h1, h2, h3⟩ => by
    subst e
    simp only [List.length_cons, repE.length h3]
theorem repE.borns {M : Mem} : ∀ {es : List (Nat × AV × AV)} {ms : List MapEntry}, repE M es ms → ms.map (·.born) = es.map (·.1)
  | [], _, h => by simp only [repE] at h; subst h; rfl
  | (_, _, _) :: _, _, ⟨vk, vx, ms1, e, h1, h2, h3⟩ => by
    subst e
    simp only [List.map_cons, repE.borns h3]
theorem repE.get {M : Mem} : ∀ {es : List (Nat × AV × AV)} {ms : List MapEntry}, repE M es ms → ∀ e ∈ ms, ∃ p ∈ es, p.1 = e.born ∧ rep M p.2.1 e.key ∧ rep M p.2.2 e.val
  | [], _, h, e, he => by simp only [repE] at h; subst h; cases he
  | (n, k, x) :: es, _, ⟨vk, vx, ms1, e', h1, h2, h3⟩, e, he => by
    subst e'
    rcases List.mem_cons.1 he with rfl | he
    · exact ⟨(n, k, x), by simp, rfl, h1, h2⟩
    · obtain ⟨p, g1, g2⟩ := repE.get h3 e he
      exact ⟨p, List.mem_cons_of_mem _ g1, g2⟩
theorem repE.of {M : Mem} : ∀ {es : List (Nat × AV × AV)} {ms : List MapEntry}, repE M es ms → ∀ p ∈ es, ∃ e ∈ ms, p.1 = e.born ∧ rep M p.2.1 e.key ∧ rep M p.2.2 e.val
  | [], _, h, p, hp => by cases hp
  | (n, k, x) :: es, _, ⟨vk, vx, ms1, e', h1, h2, h3⟩, p, hp => by
    subst e'
    rcases List.mem_cons.1 hp with rfl | hp
    · exact ⟨⟨vk, vx, n⟩, by simp, rfl, h1, h2⟩
    · obtain ⟨e, g1, g2⟩ := repE.of h3 p hp
      exact ⟨e, List.mem_cons_of_mem _ g1, g2⟩
theorem modify_mid {α : Type} (l1 l2 : List α) (x : α) (f : α → α) {n : Nat} (h : n = l1.length) : (l1 ++ x :: l2).toArray.modify n f = (l1 ++ f x :: l2).toArray := by
  subst h
  apply Array.ext'
  simp only [Array.toList_modify]
  induction l1 with
  | nil => simp
  | cons y l1 ih => simpa using ih
theorem get_mid {α : Type} (l1 l2 : List α) (x : α) {n : Nat} (h : n = l1.length) : (l1 ++ x :: l2).toArray[n]? = some x := by
  subst h
  simp
theorem erase_mid {α : Type} (l1 l2 : List α) (x : α) {n : Nat} (h : n = l1.length) : (l1 ++ x :: l2).toArray.eraseIdxIfInBounds n = (l1 ++ l2).toArray := by
  subst h
  unfold Array.eraseIdxIfInBounds
  rw [dif_pos (by simp)]
  apply Array.ext'
  simp only [Array.toList_eraseIdx]
  induction l1 with
  | nil => simp
  | cons y l1 ih => simpa using ih
theorem store_list {M : Mem} {n : Int} {x : AV} {u : Value} (hx : rep M x u) : ∀ (es es' : List (Nat × AV × AV)) (ms : List MapEntry), repE M es ms → mpStore n x es = some es' →
    ∃ i ms1 e ms2, ms = ms1 ++ e :: ms2 ∧ ms1.length = i ∧ ms.toArray.findIdx? (fun e => decide ((e.born : Int) = n)) = some i ∧ repE M es' (ms1 ++ { e with val := u } :: ms2)
  | [], _, _, _, h => by cases h
  | (m, q, y) :: r, es', ms, hr, h => by
    simp only [repE] at hr
    obtain ⟨vk, vx, ms', rfl, h1, h2, h3⟩ := hr
    simp only [mpStore] at h
    cases hb : decide ((m : Int) = n) with
    | true =>
      rw [hb] at h
      cases h
      refine ⟨0, [], ⟨vk, vx, m⟩, ms', rfl, rfl, ?_, vk, u, ms', rfl, h1, hx, h3⟩
      simp only [List.findIdx?_toArray, List.findIdx?_cons, hb, if_true]
    | false =>
      rw [hb] at h
      simp only [cond_false, Option.map_eq_some_iff] at h
      obtain ⟨r', hr', rfl⟩ := h
      obtain ⟨i, ms1, e, ms2, rfl, g1, g2, g3⟩ := store_list hx r r' ms' h3 hr'
      refine ⟨i + 1, ⟨vk, vx, m⟩ :: ms1, e, ms2, rfl, by simp [g1], ?_, vk, vx, _, rfl, h1, h2, g3⟩
      simp only [List.findIdx?_toArray] at g2
      simp only [List.findIdx?_toArray, List.findIdx?_cons, hb, g2]
      rfl

section
variable {P : Program} {tab : Tab} {B : Base} {N : Nat} {s : St} {a : Act} {w : World} {M : Mem} {lm : Nat → Nat}
theorem rep_many {x : AV} {u : Value} (h : rep M x u) (h1 : u.oneCell' = true) : ∀ n : Nat, repC M (List.replicate n x) (List.replicate n u)
  | 0 => by simp only [List.replicate_zero, repC]
  | n + 1 => by
    simp only [List.replicate_succ, repC]
    exact ⟨_, _, rfl, ⟨h1, h⟩, rep_many h h1 n⟩
theorem fin_value {o : Oper} (hd : dstOk N o = true) {K : St → Prop} (hc : ConcAt B N M lm s a w) {u : Value} {w' : World} {x : AV} {H' : Heap} (hr : (execOp a.eval o).run P w = .ok (.value u) w') (e : Evo s.H.keys M w M w') (hI : Inv M H' w') (hk : ∀ b ∈ H'.keys, b ∈ s.H.keys ∨ w.heap.size ≤ b) (hx : rep M x u) (h : K ⟨s.e.put o.dst (.g x), s.L, H'⟩) :
    o.wp P a w (fun a' w' => ∃ s', Conc B N s' a' w' ∧ K s') (fun _ _ _ => False) :=
  wp_value hr ⟨_, ⟨M, lm, hc.next e hI hk (dst_ok hd) (t := .g x) hx⟩, h⟩
theorem fin_skip {o : Oper} (hd : dstOk N o = true) {K : St → Prop} (hc : ConcAt B N M lm s a w) {w' : World} {H' : Heap} (hr : (execOp a.eval o).run P w = .ok .skip w') (e : Evo s.H.keys M w M w') (hI : Inv M H' w') (hk : ∀ b ∈ H'.keys, b ∈ s.H.keys ∨ w.heap.size ≤ b) (h : K ⟨s.e.put o.dst .undef, s.L, H'⟩) :
    o.wp P a w (fun a' w' => ∃ s', Conc B N s' a' w' ∧ K s') (fun _ _ _ => False) :=
  wp_skip' hr ⟨_, ⟨M, lm, hc.next e hI hk (dst_ok hd) (t := .undef) (u := undef) rfl⟩, h⟩
theorem und_map (hP : TabOk P tab) {t k e : TypeId} (h : tab.kind t = .map k e) : P.underlying t = some (.map k e) := by
  obtain ⟨d, h1, h2⟩ := und_of hP h (by simp)
  cases d <;> simp [TK.of] at h2
  · obtain ⟨rfl, rfl⟩ := h2; exact h1
  · split at h2 <;> cases h2
  · split at h2 <;> cases h2

theorem noMem_le (M : Mem) : noMem.le M := fun _ _ v h => by
  have h : (none : Option Value) = some v := h
  cases h
theorem mpDel_none {k : AV} : ∀ {es : List (Nat × AV × AV)}, mpFind k es = none → mpDel k es = es
  | [], _ => rfl
  | (n, q, x) :: r, h => by
    simp only [mpFind] at h
    simp only [mpDel]
    cases hb : keyEq k q with
    | true => rw [hb] at h; cases h
    | false => rw [hb] at h; simp only [cond_false] at h ⊢; rw [mpDel_none h]
theorem one_arg {args : Array Operand} {ρ : Operand → T} {x : T} (ha : args.toList.map ρ = [x]) : ∃ x0, args = #[x0] ∧ ρ x0 = x := by
  obtain ⟨l⟩ := args
  match l, ha with
  | [x0], ha =>
    simp only [List.map_cons, List.map_nil, List.cons.injEq, and_true] at ha
    exact ⟨x0, rfl, ha⟩

theorem lit_cells {M : Mem} {v : Value} (h : litOk v = true) : repC M (lit v).cells v.cells.toList :=
  rep.cells (rep_lit (M := M) h) (by
    intro xs hx
    unfold lit at hx
    split at hx
    · cases hx
    · unfold lit1 at hx
      split at hx <;> cases hx)
theorem made_many {size : Nat} (z : Array Value) (hz : z.size = size) (_ : 0 < size) : ∀ m : Nat, madeCells z (m * size) = ((List.replicate m z.toList).flatten).toArray := by
  intro m
  apply Array.ext_getElem?
  intro i
  have hlen : ((List.replicate m z.toList).flatten).length = m * size := by simp [hz]
  have hsz := size_madeCells z (m * size)
  by_cases hi : i < m * size
  · have h1 : (madeCells z (m * size))[i]? = some z[i % z.size]! := by
      unfold madeCells
      rw [Array.getElem?_map, Array.getElem?_range, if_pos hi]
      rfl
    rw [h1, List.getElem?_toArray]
    have key : ∀ (m i : Nat), i < m * size → ((List.replicate m z.toList).flatten)[i]? = some z[i % z.size]! := by
      intro m
      induction m with
      | zero => intro i hi; omega
      | succ m ih =>
        intro i hi
        rw [List.replicate_succ, List.flatten_cons]
        by_cases h : i < size
        · rw [List.getElem?_append_left (by simpa [hz] using h), hz, Nat.mod_eq_of_lt h, getElem!_pos z i (by omega)]
          simp [hz, h]
        · rw [List.getElem?_append_right (by simp [hz]; omega)]
          have e1 : i % z.size = (i - size) % z.size := by
            rw [hz]
            conv => lhs; rw [show i = (i - size) + size by omega]
            rw [Nat.add_mod_right]
          rw [e1]
          have := ih (i - size) (by rw [Nat.succ_mul] at hi; omega)
          simpa [hz] using this
    exact (key m i hi).symm
  · rw [Array.getElem?_eq_none (by omega), List.getElem?_toArray, List.getElem?_eq_none (by omega)]
theorem rep_flat {M : Mem} {xs : List AV} {cs : List Value} (h : repC M xs cs) : ∀ m : Nat, repC M (List.replicate m xs).flatten (List.replicate m cs).flatten
  | 0 => by simp [repC]
  | m + 1 => by
    rw [List.replicate_succ, List.replicate_succ, List.flatten_cons, List.flatten_cons]
    exact h.append (rep_flat h m)

/-- an operation of maps, in memory -/
theorem map_sound (hP : TabOk P tab) {o : Oper} (hd : dstOk N o = true) {K : St → Prop} (h : mapK P tab o.op s.e.ev s.H fun x H' => K ⟨s.e.put o.dst (outT x), s.L, H'⟩) (hc : ConcAt B N M lm s a w) :
    o.wp P a w (fun a' w' => ∃ s', Conc B N s' a' w' ∧ K s') (fun _ _ _ => False) := by
  have one : ∀ {b : Nat} {x : AObj}, (b, x) ∈ s.H → ∀ {k : Nat}, k ∈ [b] → k ∈ s.H.keys := fun hb k hk => by
    rw [List.mem_singleton.1 hk]; exact Heap.mem_keys hb
  have same : ∀ b ∈ s.H.keys, b ∈ s.H.keys ∨ w.heap.size ≤ b := fun b hb => Or.inl hb
  have keysOf : ∀ {b : Nat} {x y : AObj} {H' : Heap}, Heap.At b x y s.H H' → ∀ k ∈ H'.keys, k ∈ s.H.keys ∨ w.heap.size ≤ k := fun ha k hk => by rw [ha.keys] at hk; exact Or.inl hk
  have mpv : ∀ {m : Operand} {b : Nat}, s.e.ev m = .g (.mp b) → a.eval m = .map (some b) := fun {m b} hm => by
    have := hc.ev m
    rw [hm] at this
    simpa only [repX, rep] using this
  have gv : ∀ {m : Operand} {x : AV}, s.e.ev m = .g x → rep M x (a.eval m) := fun {m b} hm => by
    have := hc.ev m
    rw [hm] at this
    exact this
  have getM : ∀ {b : Nat} {ms : List MapEntry} {clk : Nat}, w.heap[b]? = some (.map ms.toArray clk) → ∀ es, ms.toArray = es → (getObj b).run P w = .ok (.map es clk) w := fun hb es he => by rw [← he]; exact MapKept.run_getObj_map hb
  have setM : ∀ {b : Nat} {es : Array MapEntry} {clk : Nat} (o : Obj), w.heap[b]? = some (.map es clk) → (setObj b o).run P w = .ok () (w.putObj b o) := fun o hb => MapKept.run_setObj_map o hb
  -- a key in a map
  have look : ∀ {b clk : Nat} {es : List (Nat × AV × AV)} {kt et : TypeId} {k : AV} {ko : Operand}, (b, .mp es clk) ∈ s.H → KeysP P kt (tab.kind kt) k es → s.e.ev ko = .g k →
      ∃ ms, ∃ _ : Unit, w.heap[b]? = some (.map ms.toArray clk) ∧ (∀ q, M b q = none) ∧ repE M es ms ∧ a.eval ko = keyVal k ∧ rep M k (keyVal k) ∧ (∀ e w, (Instr.checkKey e 10000 kt (keyVal k)).run P w = .ok () w) ∧ (∀ w, (Instr.keyThatStays (keyVal k) (keyVal k)).run P w = .ok (keyVal k) w) ∧ ((mpFind k es = none ∧ ∀ w, (Instr.findKey kt (keyVal k) ms).run P w = .ok none w) ∨
    ∃ es1 n q x es2 ms1 vx ms2, es = es1 ++ (n, q, x) :: es2 ∧ ms = ms1 ++ ⟨keyVal k, vx, n⟩ :: ms2 ∧ repE M es1 ms1 ∧ repE M es2 ms2 ∧ rep M q (keyVal k) ∧ rep M x vx ∧ ms1.length = es1.length ∧ mpFind k es = some (n, x) ∧ (∀ y, mpSet k y es = es1 ++ (n, q, y) :: es2) ∧ mpDel k es = es1 ++ es2 ∧ ∀ w, (Instr.findKey kt (keyVal k) ms).run P w = .ok (some (0 + es1.length, vx)) w) := by
    intro b clk es kt et k ko hb hk hko
    obtain ⟨h1, ms, h2, h3⟩ := hc.right.obj _ _ hb
    have hkv := gv hko
    obtain ⟨hkw, k1, k2, k3⟩ := key_sound hP hk h3 hkv
    rw [hkw] at hkv
    exact ⟨ms, (), h2, h1, h3, hkw, hkv, k1, k2, k3⟩
  have upd : ∀ {t : TypeId} {m k x : Operand}, (o.op = .mapUpdate t m k x ∨ o.op = .insert t m k x) → mapK P tab (.mapUpdate t m k x) s.e.ev s.H (fun x H' => K ⟨s.e.put o.dst (outT x), s.L, H'⟩) → o.wp P a w (fun a' w' => ∃ s', Conc B N s' a' w' ∧ K s') (fun _ _ _ => False) := by
    intro t m k x ho h
    simp only [mapK] at h
    split at h
    · rename_i kt et b kk xx hk hm hkk hx
      obtain ⟨es, clk, es', clk', H', h1, h2, h3, h4⟩ := h
      obtain ⟨ms, d, g1, g2, g3, g4, g5, g6, g7, g8⟩ := look (et := et) h1.mem h2 hkk
      have hxv := gv hx
      have fin : ∀ ms', repE M es' ms' → (Instr.mapUpdate t (.map (some b)) (keyVal kk) (a.eval x)).run P w = .ok () (w.putObj b (.map ms'.toArray clk')) → o.wp P a w (fun a' w' => ∃ s', Conc B N s' a' w' ∧ K s') (fun _ _ _ => False) := by
        intro ms' hr hrun
        obtain ⟨e1, e2⟩ := inv_put (y := .mp es' clk') (o' := .map ms'.toArray clk') hc.right h1 g2 fun hh => ⟨g2, ms', hh, hr⟩
        refine fin_skip hd hc ?_ (e1.mono fun b hb => one h1.mem hb) e2 (keysOf h1) h4
        rcases ho with ho | ho
        · unfold execOp
          simp only [ho, mpv hm, g4, Sem.run_bind, hrun, Result.andThen_ok]
          rfl
        · unfold execOp
          simp only [ho, mpv hm, g4, Sem.run_bind, hrun, Result.andThen_ok]
          rfl
      rcases g8 with ⟨k1, k2⟩ | ⟨es1, n, q, y, es2, ms1, vx, ms2, rfl, rfl, k1, k2, k3, k4, k5, k6, k7, k8, k9⟩
      · unfold mpPut at h3
        rw [k1] at h3
        cases h3
        refine fin (ms ++ [⟨keyVal kk, a.eval x, clk⟩]) (g3.append ⟨_, _, _, rfl, g5, hxv, rfl⟩) ?_
        simp only [Instr.mapUpdate, Sem.run_bind, run_underlying (und_map hP hk), Result.andThen_ok, MapKept.run_getObj_map g1, g6, k2, setM _ g1]
        simp
      · unfold mpPut at h3
        rw [k6] at h3
        simp only [k7] at h3
        cases h3
        refine fin (ms1 ++ ⟨keyVal kk, a.eval x, n⟩ :: ms2) (k1.append ⟨_, _, _, rfl, k3, hxv, k2⟩) ?_
        simp only [Instr.mapUpdate, Sem.run_bind, run_underlying (und_map hP hk), Result.andThen_ok, MapKept.run_getObj_map g1, g6, k9, get_mid ms1 ms2 _ (show 0 + es1.length = ms1.length by omega), Option.map_some, Option.getD_some, g7, setM _ g1, modify_mid ms1 ms2 _ _ (show 0 + es1.length = ms1.length by omega)]
    · exact h.elim
  obtain ⟨hop, hops⟩ : ∃ op, op = o.op := ⟨_, rfl⟩
  rw [← hops] at h
  cases hop with
  | makeSlice t l c =>
    simp only [mapK] at h
    split at h
    · rename_i el kl ln kc cn hk hl hcn
      split at h
      · rename_i ie hie
        obtain ⟨n, m, rfl, rfl, k3, k4, k5, k6, k7, k8⟩ := h
        have ok := hP.get hie
        obtain ⟨f, i1, i2, i3, i4⟩ := ok.info
        have hlv := gv hl
        have hcv := gv hcn
        simp only [rep] at hlv hcv
        have h1 : ie.bytes * m ≤ 140737488355328 := by rw [Nat.mul_comm]; exact Nat.le_trans (Nat.mul_le_mul_left m (Nat.le_succ ie.bytes)) k7
        have h2 : m ≤ 140737488355328 := Nat.le_trans (Nat.le_mul_of_pos_right m (Nat.succ_pos _)) k7
        have hb : (f.bytes : Int) * (m : Int) ≤ 281474976710656 := by
          rw [i3]
          have : ((ie.bytes * m : Nat) : Int) ≤ 281474976710656 := by omega
          rwa [Int.natCast_mul] at this
        have hrun := run_make (P := P) w t el f ie.zero (und_slice hP hk) i1 i4 kl kc (n : Int) (m : Int) (by omega) (by omega) hb (by omega)
        simp only [Int.toNat_natCast] at hrun
        have hcells : madeCells ie.zero.cells (m * f.size) = ((List.replicate m ie.zero.cells.toList).flatten).toArray := by
          rw [i2]; exact made_many _ k6 k5 m
        rw [hcells] at hrun
        obtain ⟨e1, e2, e3⟩ := inv_var hc.right (xs := (List.replicate m (lit ie.zero).cells).flatten) (cs := (List.replicate m ie.zero.cells.toList).flatten) (rep_flat (lit_cells k4) m) el
        refine fin_value hd hc ?_ (e1.mono (by simp)) e2 (fun b hb => ?_) (x := .v (.slice (some ⟨w.heap.size, 0, none⟩) n m)) (u := .slice (some ⟨w.heap.size, 0, none⟩) n m) (by simp only [rep]; exact ⟨trivial, rfl⟩) (k8 _ e3)
        · unfold execOp
          simp only [← hops, hlv.1, hcv.1, Sem.run_bind, hrun, Result.andThen_ok]
          rfl
        · rcases List.mem_cons.1 hb with rfl | hb
          · exact Or.inr (Nat.le_refl _)
          · exact Or.inl hb
      · exact h.elim
    · exact h.elim
  | buildSlice t len parts =>
    simp only [mapK] at h
    split at h
    · rename_i el hk
      split at h
      · rename_i ie hie
        split at h
        · rename_i xs hxs
          obtain ⟨k1, k2, k3, k4, k5⟩ := h
          have ok := hP.get hie
          obtain ⟨f, i1, i2, i3, i4⟩ := ok.info
          obtain ⟨s1, s2, s3, s4, s5⟩ := elemsA_sound (fun x => hc.ev x) hxs
          have hlen : (parts.toList.map fun p => a.eval p.2).length = len := by rw [List.length_map]; omega
          have hrun : (Instr.buildSlice t len (parts.map fun (i, x) => (i, a.eval x))).run P w = .ok (.slice (some ⟨w.heap.size, 0, none⟩) len len) (w.alloc (.cells ((parts.toList.map fun p => a.eval p.2).flatMap fun v => v.cells.toList).toArray el)) := by
            have hl2 : (parts.map fun (i, x) => (i, a.eval x)).toList = ((parts.toList.map fun p => a.eval p.2).zipIdx 0).map fun x => (x.2, x.1) := by
              rw [Array.toList_map]; exact s1
            refine run_buildSlice w t el len _ _ f ie.zero (und_slice hP hk) i1 i4 (by rw [i2]; omega) (by rw [i2]; have := Nat.mul_pos k2 k4; omega) ?_
            rw [hl2, i2]
            exact Go.Great.fill_whole k4 _ _ s2 (by simp [hlen])
          obtain ⟨e1, e2, e3⟩ := inv_var hc.right (xs := xs.flatMap AV.cells) (cs := (parts.toList.map fun p => a.eval p.2).flatMap fun v => v.cells.toList) s5 el
          refine fin_value hd hc ?_ (e1.mono (by simp)) e2 (fun b hb => ?_) (x := .v (.slice (some ⟨w.heap.size, 0, none⟩) len len)) (u := .slice (some ⟨w.heap.size, 0, none⟩) len len) (by simp only [rep]; exact ⟨trivial, rfl⟩) (k5 _ e3)
          · unfold execOp
            simp only [← hops, Sem.run_bind, hrun, Result.andThen_ok]
            rfl
          · rcases List.mem_cons.1 hb with rfl | hb
            · exact Or.inr (Nat.le_refl _)
            · exact Or.inl hb
        · exact h.elim
      · exact h.elim
    · exact h.elim
  | makeMap t r =>
    cases r with
    | some r => exact h.elim
    | none =>
      obtain ⟨e1, e2, e3⟩ := inv_alloc hc.right (.map #[] 0) (.mp [] 0) fun h1 h2 => ⟨h1, [], h2, rfl⟩
      refine fin_value hd hc ?_ (e1.mono (by simp)) e2 (fun b hb => ?_) (x := .mp w.heap.size) (u := .map (some w.heap.size)) (by simp [rep]) (h _ e3)
      · unfold execOp
        simp only [← hops, Option.map_none, Instr.makeMap, newObj, Sem.run_bind]
        rfl
      · rcases List.mem_cons.1 hb with rfl | hb
        · exact Or.inr (Nat.le_refl _)
        · exact Or.inl hb
  | lookup t m k ok =>
    simp only [mapK] at h
    split at h
    · rename_i kt et b kk hk hm hkk
      split at h
      · rename_i ie hie
        obtain ⟨es, clk, f, hz, h1, h2, rfl, h4⟩ := h
        obtain ⟨ms, d, g1, g2, g3, g4, g5, g6, g7, g8⟩ := look (et := et) h1 h2 hkk
        have fin : ∀ (v : AV) (u : Value) (q : Bool), rep M v u → (Instr.lookup t (.map (some b)) (keyVal kk) ok).run P w = .ok (if ok then .tuple #[u, .bool q] else u) w → K ⟨s.e.put o.dst (.g (bif ok then .tup [v, .b q] else v)), s.L, s.H⟩ → o.wp P a w (fun a' w' => ∃ s', Conc B N s' a' w' ∧ K s') (fun _ _ _ => False) := by
          intro v u q hr hrun hK
          refine fin_value hd hc (u := if ok then .tuple #[u, .bool q] else u) ?_ (Evo.refl _ _ _) hc.right same ?_ hK
          · unfold execOp
            simp only [← hops, mpv hm, g4, Sem.run_bind, hrun, Result.andThen_ok]
            rfl
          · cases ok with
            | true =>
              simp only [cond_true, if_true, rep, repT]
              exact ⟨[u, .bool q], rfl, _, _, rfl, hr, _, _, rfl, ⟨rfl, rfl⟩, rfl⟩
            | false => exact hr
        rcases g8 with ⟨k1, k2⟩ | ⟨es1, n, q, y, es2, ms1, vx, ms2, rfl, rfl, k1, k2, k3, k4, k5, k6, k7, k8, k9⟩
        · rw [k1] at h4
          refine fin _ ie.zero false (rep_lit (M := M) hz) ?_ h4
          simp only [Instr.lookup, Sem.run_bind, run_underlying (und_map hP hk), Result.andThen_ok, MapKept.run_getObj_map g1, Sem.run_pure, g6, k2, (hP.get hie).zero w]
        · rw [k6] at h4
          refine fin _ vx true k4 ?_ h4
          simp only [Instr.lookup, Sem.run_bind, run_underlying (und_map hP hk), Result.andThen_ok, MapKept.run_getObj_map g1, Sem.run_pure, g6, k9]
      · exact h.elim
    · exact h.elim
  | mapUpdate t m k x => exact upd (Or.inl hops.symm) h
  | insert t m k x => exact upd (Or.inr hops.symm) h
  | mapEntry t m k =>
    simp only [mapK] at h
    split at h
    · rename_i kt et b kk hk hm hkk
      split at h
      · rename_i ie hie
        obtain ⟨es, clk, es', clk', x, n, H', hz, h1, h2, h3, h4⟩ := h
        obtain ⟨ms, d, g1, g2, g3, g4, g5, g6, g7, g8⟩ := look (et := et) h1.mem h2 hkk
        have fin : ∀ ms' u, repE M es' ms' → rep M x u → (Instr.mapEntry t (.map (some b)) (keyVal kk)).run P w = .ok (.tuple #[u, goInt n]) (w.putObj b (.map ms'.toArray clk')) → o.wp P a w (fun a' w' => ∃ s', Conc B N s' a' w' ∧ K s') (fun _ _ _ => False) := by
          intro ms' u hr hu hrun
          obtain ⟨e1, e2⟩ := inv_put (y := .mp es' clk') (o' := .map ms'.toArray clk') hc.right h1 g2 fun hh => ⟨g2, ms', hh, hr⟩
          refine fin_value hd hc (u := .tuple #[u, goInt n]) ?_ (e1.mono fun b hb => one h1.mem hb) e2 (keysOf h1) ?_ h4
          · unfold execOp
            simp only [← hops, mpv hm, g4, Sem.run_bind, hrun, Result.andThen_ok]
            rfl
          · simp only [rep, repT]
            exact ⟨[u, goInt n], rfl, u, _, rfl, hu, _, _, rfl, ⟨rfl, rfl⟩, rfl⟩
        rcases g8 with ⟨k1, k2⟩ | ⟨es1, n', q, y, es2, ms1, vx, ms2, rfl, rfl, k1, k2, k3, k4, k5, k6, k7, k8, k9⟩
        · unfold mpEnt at h3
          rw [k1] at h3
          cases h3
          refine fin (ms ++ [⟨keyVal kk, ie.zero, clk⟩]) ie.zero (g3.append ⟨_, _, _, rfl, g5, rep_lit (M := M) hz, rfl⟩) (rep_lit (M := M) hz) ?_
          simp only [Instr.mapEntry, Sem.run_bind, run_underlying (und_map hP hk), Result.andThen_ok, MapKept.run_getObj_map g1, g6, k2, (hP.get hie).zero w, setM _ g1]
          simp
        · unfold mpEnt at h3
          rw [k6] at h3
          cases h3
          refine fin (ms1 ++ ⟨keyVal kk, vx, n⟩ :: ms2) vx (k1.append ⟨_, _, _, rfl, k3, k4, k2⟩) k4 ?_
          simp only [Instr.mapEntry, Sem.run_bind, run_underlying (und_map hP hk), Result.andThen_ok, MapKept.run_getObj_map g1, g6, k9, get_mid ms1 ms2 _ (show 0 + es1.length = ms1.length by omega), Option.map_some, Option.getD_some, g7, setM _ g1, modify_mid ms1 ms2 _ _ (show 0 + es1.length = ms1.length by omega)]
          rfl
      · exact h.elim
    · exact h.elim
  | entryStore t m n x =>
    simp only [mapK] at h
    split at h
    · rename_i b j nn xx hm hn hx
      obtain ⟨es, clk, es', H', h1, h2, h3⟩ := h
      obtain ⟨g2, ms, g1, g3⟩ := hc.right.obj _ _ h1.mem
      have hnv := gv hn
      simp only [rep] at hnv
      obtain ⟨i, ms1, e, ms2, rfl, k1, k2, k3⟩ := store_list (gv hx) es es' ms g3 h2
      obtain ⟨e1, e2⟩ := inv_put (y := .mp es' clk) (o' := .map (ms1 ++ { e with val := a.eval x } :: ms2).toArray clk) hc.right h1 g2 fun hh => ⟨g2, _, hh, k3⟩
      refine fin_skip hd hc ?_ (e1.mono fun b hb => one h1.mem hb) e2 (keysOf h1) h3
      have hrun : (Instr.entryStore t (.map (some b)) (.int j nn) (a.eval x)).run P w = .ok () (w.putObj b (.map (ms1 ++ { e with val := a.eval x } :: ms2).toArray clk)) := by
        have hfi : (ms1 ++ e :: ms2).toArray.findIdx? (fun e => (e.born : Int) == nn) = some i := by
          rw [← k2]
          congr 1
        simp only [Instr.entryStore, Sem.run_bind, MapKept.run_getObj_map g1, Result.andThen_ok, asInt, asIntOf, Sem.run_pure, hfi, setM _ g1, modify_mid ms1 ms2 _ _ k1.symm]
      unfold execOp
      simp only [← hops, mpv hm, hnv.1, Sem.run_bind, hrun, Result.andThen_ok]
      rfl
    · exact h.elim
  | range t m =>
    simp only [mapK] at h
    split at h
    · rename_i kt et b hk hm
      obtain ⟨es, clk, h1, h2⟩ := h
      obtain ⟨g2, ms, g1, g3⟩ := hc.right.obj _ _ h1
      obtain ⟨e1, e2, e3⟩ := inv_alloc hc.right (.mapIter (some b) clk #[] clk) (itO b clk [] clk) fun k1 k2 => ⟨k1, noMem_le M, k2⟩
      refine fin_value hd hc ?_ (e1.mono (by simp)) e2 (fun b hb => ?_) (x := .ptr w.heap.size 0) (u := .pointer (some ⟨w.heap.size, 0, none⟩)) (by simp [rep]) (h2 _ e3)
      · unfold execOp
        simp only [← hops, mpv hm, Instr.range, Sem.run_bind, run_underlying (und_map hP hk), Result.andThen_ok, MapKept.run_getObj_map g1, Sem.run_pure, newObj]
        rfl
      · rcases List.mem_cons.1 hb with rfl | hb
        · exact Or.inr (Nat.le_refl _)
        · exact Or.inl hb
    · exact h.elim
  | next it q =>
    cases q with
    | true => exact h.elim
    | false =>
      simp only [mapK] at h
      split at h
      · rename_i i hi
        obtain ⟨b, clk, seen, es, h1, h2, h3, h4, h5⟩ := h
        obtain ⟨g2, ms, g1, g3⟩ := hc.right.obj _ _ h2
        obtain ⟨f1, f2, f3⟩ := hc.right.obj _ _ h1
        have hiv := gv hi
        simp only [rep] at hiv
        have hold : ∀ x ∈ ms.toArray.toList, x.born < clk := fun x hx => by
          obtain ⟨p, hp, e, _⟩ := g3.get x (by simpa using hx)
          rw [← e]
          exact h3 p hp
        rcases run_next_at (P := P) w o.type i b clk clk seen.toArray ms.toArray clk f3 g1 hold (Nat.le_refl _) with ⟨k1, k2⟩ | ⟨e, k1, w1, k2, k3⟩
        · have hall : ∀ p ∈ es, p.1 ∈ seen := fun p hp => by
            obtain ⟨e, he, e1, _⟩ := g3.of p hp
            have : leftOf ms.toArray seen.toArray = #[] := Array.eq_empty_of_size_eq_zero k1
            unfold leftOf at this
            rw [Array.filter_eq_empty_iff] at this
            have := this e (by simpa using he)
            rw [e1]
            simpa using this
          refine fin_value hd hc ?_ (Evo.refl _ _ _) hc.right same (x := .tup [.b false]) (u := .tuple #[.bool false]) (by simp only [rep, repT]; exact ⟨[.bool false], rfl, _, _, rfl, ⟨rfl, rfl⟩, rfl⟩) (h4 hall)
          unfold execOp
          simp only [← hops, hiv, Sem.run_bind, k2, Result.andThen_ok]
          rfl
        · have he : e ∈ ms ∧ e.born ∉ seen := by
            unfold leftOf at k1
            simpa using k1
          obtain ⟨p, hp, e1, e2, e3⟩ := g3.get e he.1
          obtain ⟨H', k4, k5⟩ := h5 p hp (by rw [e1]; exact he.2)
          have hcd : Inv M s.H w1 ∧ Evo [] M w M w1 := by
            rcases k2 with rfl | rfl
            · exact ⟨hc.right, Evo.refl _ _ _⟩
            · exact ⟨hc.right.drew, (Evo.refl [] M w).drew⟩
          have hsz : w.heap.size ≤ w1.heap.size := hcd.2.size
          have hse : (seen.toArray.push e.born) = (seen ++ [p.1]).toArray := by rw [e1]; simp
          obtain ⟨d1, d2⟩ := inv_put (y := itO b clk (seen ++ [p.1]) clk) (o' := .mapIter (some b) clk (seen.toArray.push e.born) clk) hcd.1 k4 f1 fun hh => ⟨f1, noMem_le M, by rw [← hse]; exact hh⟩
          refine fin_value hd hc ?_ ((hcd.2.mono (fun _ h => by cases h)).trans d1 fun k hk => Or.inl (one h1 hk)) d2 (keysOf k4) (x := .tup [.b true, p.2.1, p.2.2]) ?_ k5 (u := .tuple #[.bool true, e.key, e.val])
          · unfold execOp
            simp only [← hops, hiv, Sem.run_bind, k3, Result.andThen_ok]
            rfl
          · simp only [rep, repT]
            exact ⟨[.bool true, e.key, e.val], rfl, _, _, rfl, ⟨rfl, rfl⟩, _, _, rfl, e2, _, _, rfl, e3, rfl⟩
      · exact h.elim
  | entry it =>
    simp only [mapK] at h
    split at h
    · rename_i i hi
      obtain ⟨b, clk, seen, es, p, h1, h2, h3, h4, h5⟩ := h
      obtain ⟨g2, ms, g1, g3⟩ := hc.right.obj _ _ h2
      obtain ⟨f1, f2, f3⟩ := hc.right.obj _ _ h1
      have hiv := gv hi
      simp only [rep] at hiv
      obtain ⟨e, he, e1, e2, e3⟩ := g3.of p h3
      have f3' : w.heap[i]? = some (.mapIter (some b) clk (seen.toArray.push e.born) clk) := by
        rw [f3, ← e1]
        simp
      have hrun := run_entry_at (P := P) w i b clk seen.toArray ms.toArray clk e f3' g1 (by simpa using he) (by
        have := g3.borns
        dsimp only at this ⊢
        rw [this]
        exact h4)
      refine fin_value hd hc ?_ (Evo.refl _ _ _) hc.right same (x := .tup [p.2.1, p.2.2]) ?_ h5 (u := .tuple #[e.key, e.val])
      · unfold execOp
        simp only [← hops, hiv, Sem.run_bind, hrun, Result.andThen_ok]
        rfl
      · simp only [rep, repT]
        exact ⟨[e.key, e.val], rfl, _, _, rfl, e2, _, _, rfl, e3, rfl⟩
    · exact h.elim
  | call c =>
    obtain ⟨callee, args, ats⟩ := c
    simp only [mapK] at h
    split at h
    · rename_i b hargs
      obtain ⟨x0, ha, hx⟩ : ∃ x0, args = #[x0] ∧ s.e.ev x0 = .g (.mp b) := one_arg hargs
      subst ha
      split at h
      · rename_i t hty
        split at h
        · rename_i kt et hk
          obtain ⟨es, clk, h1, h2⟩ := h
          obtain ⟨g2, ms, g1, g3⟩ := hc.right.obj _ _ h1
          refine fin_value hd hc ?_ (Evo.refl _ _ _) hc.right same (x := .i es.length) (u := goInt es.length) (show rep M _ _ from rep_int) h2
          have hrun : (Builtin.len_ ats o.type #[.map (some b)]).run P w = .ok (goInt es.length) w := by
            simp [Builtin.len_, hty, run_underlying (und_map hP hk), MapKept.run_getObj_map g1, g3.length, Result.andThen]
          unfold execOp
          simp only [← hops, resolve, pure_bind, invoke, builtin]
          rw [show (#[x0].map a.eval : Array Value) = #[.map (some b)] by simp [mpv hx]]
          simp only [Sem.run_bind, hrun, Result.andThen_ok]
          rfl
        · exact h.elim
      · exact h.elim
    · rename_i b kk hargs
      obtain ⟨x0, y0, ha, hx, hy⟩ := two_args hargs
      subst ha
      split at h
      · rename_i t hty
        split at h
        · rename_i kt et hk
          obtain ⟨es, clk, H', h1, h2, h3⟩ := h
          obtain ⟨ms, d, g1, g2, g3, g4, g5, g6, g7, g8⟩ := look (et := et) h1.mem h2 hy
          have fin : ∀ ms', repE M (mpDel kk es) ms' → (Builtin.delete_ ats o.type #[.map (some b), keyVal kk]).run P w = .ok (.tuple #[]) (w.putObj b (.map ms'.toArray clk)) → o.wp P a w (fun a' w' => ∃ s', Conc B N s' a' w' ∧ K s') (fun _ _ _ => False) := by
            intro ms' hr hrun
            obtain ⟨e1, e2⟩ := inv_put (y := .mp (mpDel kk es) clk) (o' := .map ms'.toArray clk) hc.right h1 g2 fun hh => ⟨g2, ms', hh, hr⟩
            refine fin_value hd hc (u := .tuple #[]) ?_ (e1.mono fun b hb => one h1.mem hb) e2 (keysOf h1) (x := .tup []) (by simp only [rep, repT]; exact ⟨[], rfl, rfl⟩) h3
            unfold execOp
            simp only [← hops, resolve, pure_bind, invoke, builtin]
            rw [show (#[x0, y0].map a.eval : Array Value) = #[.map (some b), keyVal kk] by simp [mpv hx, g4]]
            simp only [Sem.run_bind, hrun, Result.andThen_ok]
            rfl
          rcases g8 with ⟨k1, k2⟩ | ⟨es1, n', q, y, es2, ms1, vx, ms2, rfl, rfl, k1, k2, k3, k4, k5, k6, k7, k8, k9⟩
          · refine fin ms (by rw [mpDel_none k1]; exact g3) ?_
            simp [Builtin.delete_, hty, run_underlying (und_map hP hk), MapKept.run_getObj_map g1, g6, k2, setM _ g1, Result.andThen]
          · refine fin (ms1 ++ ms2) (by rw [k8]; exact k1.append k2) ?_
            have he := erase_mid ms1 ms2 ⟨keyVal kk, vx, n'⟩ (show 0 + es1.length = ms1.length by omega)
            simp only [Builtin.delete_, hty, Sem.run_bind, run_underlying (und_map hP hk), MapKept.run_getObj_map g1, g6, k9, Result.andThen_ok, he, setM _ g1, List.getElem?_toArray, List.getElem?_cons_zero, List.getElem?_cons_succ]
            rfl
        · exact h.elim
      · exact h.elim
    · rename_i b off n cap hargs
      obtain ⟨x0, ha, hx⟩ := one_arg hargs
      subst ha
      split at h
      · rename_i t hty
        split at h
        · rename_i el hk
          split at h
          · rename_i ie hie
            obtain ⟨h0, hn, cs, H', h1, h2, h3⟩ := h
            have ok := hP.get hie
            obtain ⟨f, i1, i2, i3, i4⟩ := ok.info
            obtain ⟨hnone, vs, T0, hg, hrep⟩ := hc.right.obj _ _ h1.mem
            have hvl := hrep.length
            obtain ⟨hz1, hzr⟩ := rep_lit1 (M := M) h0
            have hzc : ie.zero.cells = #[ie.zero] := by
              generalize ie.zero = u at hz1
              cases u <;> first | rfl | (simp [Value.oneCell'] at hz1)
            have hrow : repC M (cs.take off ++ List.replicate n (lit1 ie.zero) ++ cs.drop (off + n)) (vs.take off ++ List.replicate n ie.zero ++ vs.drop (off + n)) := ((hrep.take off).append (rep_many hzr hz1 n)).append (hrep.drop (off + n))
            obtain ⟨e1, e2⟩ := inv_store hc.right h1 hrow
            have hst := run_storeCells_free (P := P) b off T0 (0, 0) (List.replicate n ie.zero) 0 vs.toArray w hg (by simp) (by simpa [hvl] using h2) (fun v hv => by rw [List.eq_of_mem_replicate hv]; exact hz1)
            simp only [Nat.add_zero, List.length_replicate] at hst
            have hzcs : (Builtin.zeroCells ie.zero.cells n).toList = List.replicate n ie.zero := by
              rw [hzc]
              simp [Builtin.zeroCells]
              apply List.ext_getElem
              · simp
              · intro i h1 h2
                simp [Nat.mod_one]
            have hxv : a.eval x0 = .slice (some ⟨b, off, none⟩) n cap := by
              have := gv hx
              simp only [rep] at this
              exact this.1
            refine fin_value hd hc (u := .tuple #[]) ?_ (e1.mono fun b hb => one h1.mem hb) e2 (keysOf h1) (x := .tup []) (by simp only [rep, repT]; exact ⟨[], rfl, rfl⟩) h3
            unfold execOp
            simp only [← hops, resolve, pure_bind, invoke, builtin]
            obtain ⟨m, rfl⟩ : ∃ m, n = m + 1 := ⟨n - 1, by omega⟩
            rw [show (#[x0].map a.eval : Array Value) = #[.slice (some ⟨b, off, none⟩) (m + 1) cap] by simp [hxv]]
            simp only [List.append_assoc] at hst ⊢
            simp [Builtin.clear_, hty, run_underlying (und_slice hP hk), TIok.zero ok, hzcs, hst]
          · exact h.elim
        · exact h.elim
      · exact h.elim
    · exact h.elim
  | _ => exact h.elim
end
end Go.Proofs.YtahdkhklngjmoaaGreatDoor

/-
  The abstract machine: the operations that turn something. No condition.
-/
namespace Go.Proofs.YtahdkhklngjmoaaGreatDoor
open Go.RowKit

section
variable {P : Program} {tab : Tab} {B : Base} {N : Nat} {s : St} {a : Act} {w : World} {M : Mem} {lm : Nat → Nat}

theorem loc_mem : ∀ {L : Loc} {k : Nat} {cs : List AV} (ys : List AV), L.get k = some cs → Heap.At (lm k) (.cells cs) (.cells ys) (lheap lm L) (lheap lm (L.set k ys))
  | [], k, cs, ys, h => by cases h
  | (j, x) :: r, k, cs, ys, h => by
    simp only [Loc.get] at h
    simp only [Loc.set]
    cases hj : Nat.beq j k with
    | true =>
      rw [hj] at h
      cases h
      have := beq_true hj
      subst this
      exact .here
    | false =>
      rw [hj] at h
      exact .there (loc_mem ys h)
theorem At.append {b : Nat} {x y : AObj} {H H' : Heap} (h : Heap.At b x y H H') (R : Heap) : Heap.At b x y (H ++ R) (H' ++ R) := by
  induction h with
  | here => exact .here
  | there _ ih => exact .there ih
theorem At.after {b : Nat} {x y : AObj} {H H' : Heap} (h : Heap.At b x y H H') : ∀ (R : Heap), Heap.At b x y (R ++ H) (R ++ H')
  | [] => h
  | _ :: R => .there (At.after h R)

theorem put_rep {M : Mem} {xs ys : List AV} {cs ds : List Value} {off : Nat} (h : repC M xs cs) (k : repC M ys ds) : repC M (putCells xs off ys) (cs.take off ++ ds ++ cs.drop (off + ds.length)) := by
  unfold putCells
  rw [k.length]
  exact ((h.take _).append k).append (h.drop _)

theorem run_storeVar (hP : TabOk P tab) {t : TypeId} {i : TI} (hi : tab.get t = some i) {b off : Nat} {cs : List Value} {T0 : TypeId} {u : Value} (hu : u.cells.size = i.size) (h1 : ∀ c ∈ u.cells.toList, c.oneCell' = true) (hg : w.heap[b]? = some (.cells cs.toArray T0 (0, 0))) (hl : off + i.size ≤ cs.length) :
    (Instr.storeAt t (.pointer (some ⟨b, off, none⟩)) u).run P w = .ok () (w.setRow b (cs.take off ++ u.cells.toList ++ cs.drop (off + u.cells.toList.length)).toArray) := by
  have ok := hP.get hi
  have := run_storeCells_free (P := P) b off T0 (0, 0) u.cells.toList 0 cs.toArray w hg (fun j _ => by simp) (by simp [hu]; omega) h1
  simp only [Nat.add_zero] at this
  unfold Instr.storeAt Instr.sureAddr storeVar
  simp only [Sem.run_bind, Sem.run_pure, Result.andThen_ok, ok.sizeOf]
  rw [if_neg (by simp [hu])]
  exact this

theorem store_sound (hP : TabOk P tab) {o : Oper} (hd : dstOk N o = true) {t : TypeId} {ad x : Operand} {K : St → Prop} (ho : o.op = .store t ad x) (h : storeK tab s o.dst t (s.e.ev ad) (s.e.ev x) K) (hc : ConcAt B N M lm s a w) :
    o.wp P a w (fun a' w' => ∃ s', Conc B N s' a' w' ∧ K s') (fun _ _ _ => False) := by
  have hx := hc.ev x
  have hA := hc.ev ad
  unfold storeK at h
  split at h
  · rename_i g i hx' hi
    rw [hx'] at hx
    cases hb : (noTup g && Nat.beq g.cells.length i.size) with
    | false => rw [hb] at h; exact h.elim
    | true =>
      rw [hb] at h
      simp only [cond_true] at h
      rw [Bool.and_eq_true] at hb
      have hcl := rep.cells hx (noTup_ne hb.1)
      have hlen := hcl.length
      have hsz := beq_true hb.2
      have hu : (a.eval x).cells.size = i.size := by rw [← hsz, ← hlen, Array.length_toList]
      have run : ∀ {b off : Nat} {cs : List Value} {T0 : TypeId}, a.eval ad = .pointer (some ⟨b, off, none⟩) → w.heap[b]? = some (.cells cs.toArray T0 (0, 0)) → off + i.size ≤ cs.length →
          (execOp a.eval o).run P w = .ok .skip (w.setRow b (cs.take off ++ (a.eval x).cells.toList ++ cs.drop (off + (a.eval x).cells.toList.length)).toArray) := by
        intro b off cs T0 e1 e2 e3
        have := run_storeVar (P := P) hP hi hu hcl.one e2 e3
        unfold execOp
        simp only [ho, Sem.run_bind, e1, this, Result.andThen_ok]
        rfl
      split at h
      · rename_i k off hA'
        rw [hA'] at hA
        split at h
        · rename_i cs hk
          cases hle : Nat.ble (off + i.size) cs.length with
          | false => rw [hle] at h; exact h.elim
          | true =>
            rw [hle] at h
            simp only [cond_true] at h
            have hat := At.append (loc_mem (lm := lm) (putCells cs off g.cells) hk) s.H
            obtain ⟨_, vs, T0, hg, hv⟩ := hc.inv.obj _ _ hat.mem
            have hr := run hA hg (by rw [hv.length]; exact Nat.le_of_ble_eq_true hle)
            obtain ⟨e1, e2⟩ := inv_store hc.inv hat (put_rep (off := off) hv hcl)
            have hkk := hat.keys
            refine wp_skip' hr ⟨_, ⟨M, lm, ?_⟩, h⟩
            obtain ⟨p1, p2, p3⟩ := env_put (fun i => hc.env i) hc.size (dst_ok hd) (t := .undef) (u := undef) rfl
            have hin1 : ∀ b ∈ [lm k], b ∈ Heap.keys (lheap lm s.L ++ s.H) := fun b hb => by
              have : b = lm k := by simpa using hb
              subst this
              exact Heap.mem_keys hat.mem
            refine ⟨hc.evo.trans e1 fun b hb => ?_, fun b hb => ?_, e2, p2, (by rw [p3]; exact hc.defers.step e1 hin1 (fun b hb => Or.inl (by rw [← hkk]; exact hb))), p1⟩
            · have : b = lm k := by simpa using hb
              subst this
              exact hc.keys _ (Heap.mem_keys hat.mem)
            · exact hc.keys b (by rw [← hkk]; exact hb)
        · exact h.elim
      · rename_i b off hA'
        rw [hA'] at hA
        simp only [repX, rep] at hA
        obtain ⟨cs, H', hat, hle, h⟩ := h
        obtain ⟨_, vs, T0, hg, hv⟩ := hc.right.obj _ _ hat.mem
        have hr := run hA hg (by rw [hv.length]; exact hle)
        obtain ⟨e1, e2⟩ := inv_store hc.right hat (put_rep (off := off) hv hcl)
        refine wp_skip' hr ⟨_, ⟨M, lm, ?_⟩, h⟩
        refine hc.next (e1.mono fun b' hb' => ?_) e2 (fun b' hb' => Or.inl (by rw [← hat.keys]; exact hb')) (dst_ok hd) (t := .undef) (u := undef) rfl
        have : b' = b := by simpa using hb'
        subst this
        exact Heap.mem_keys hat.mem
      · exact h.elim
  · exact h.elim

theorem repT.append {M : Mem} : ∀ {xs ys : List AV} {cs ds : List Value}, repT M xs cs → repT M ys ds → repT M (xs ++ ys) (cs ++ ds)
  | [], ys, cs, ds, h, k => by simp only [repT] at h; subst h; simpa using k
  | x :: xs, ys, cs, ds, h, k => by
    simp only [repT] at h
    obtain ⟨c, cs', rfl, h1, h⟩ := h
    simp only [List.cons_append, repT]
    exact ⟨c, _, rfl, h1, repT.append h k⟩

theorem bytes_rep : ∀ {M : Mem} {l : List UInt8}, repC M (l.map byteV) (l.map fun c => Value.int .u8 c.toNat)
  | M, [] => by simp [repC]
  | M, c :: l => by
    simp only [List.map_cons, repC]
    exact ⟨_, _, rfl, ⟨rfl, rep_int⟩, bytes_rep⟩
/-- what is put behind, in memory -/
theorem src_sound (hP : TabOk P tab) {x : Operand} {t1 : TypeId} {size : Nat} {ys : List AV} {y : AV} (hxv : repX M lm (.g y) (a.eval x)) (hy : srcA tab t1 size y = some ys) (hI : Inv M s.H w) :
    ∃ d, P.underlying t1 = some d ∧ ((∃ e', d = .slice e') ∨ d = .string) ∧ ∃ news : List Value, news.length = ys.length * size ∧ repC M (ys.flatMap AV.cells) news ∧ (∀ y ∈ ys, y.cells.length = size) ∧
      (∀ w1, (Builtin.lenOf (a.eval x)).run P w1 = .ok ys.length w1) ∧ ∀ w1 : World, w1.heap = w.heap → (Builtin.firstCells size ys.length (a.eval x)).run P w1 = .ok news.toArray w1 := by
  unfold srcA at hy
  split at hy
  · rename_i e' o' s' ys' hk'
    cases hw' : wOk s' size with
    | false => rw [hw'] at hy; cases hy
    | true =>
      rw [hw'] at hy
      cases hy
      have hs' : s' = size ∨ s' = 0 := by
        unfold wOk at hw'
        rw [Bool.or_eq_true] at hw'
        exact hw'.imp beq_true beq_true
      have hxr : rep M (.sl o' s' ys) (a.eval x) := hxv
      simp only [repX, rep] at hxv
      obtain ⟨ad', cap', hv', _, _, _, q4, _⟩ := hxv
      rw [hv'] at hxr
      obtain ⟨news, g1, g2, g3⟩ := sl_cells hs' hxr
      refine ⟨_, und_slice hP hk', Or.inl ⟨_, rfl⟩, news, g1, g2, fun y hy => ?_, fun w1 => by rw [hv']; rfl, fun w1 hw1 => by rw [hv']; exact g3 hI hw1⟩
      rcases hs' with e | e
      · rw [← e]; exact q4.2 y hy
      · rw [q4.1 e] at hy; cases hy
  · rename_i l hk'
    cases hw' : Nat.beq size 1 with
    | false => rw [hw'] at hy; cases hy
    | true =>
      rw [hw'] at hy
      cases hy
      have h1 := beq_true hw'
      simp only [repX, rep] at hxv
      have hsz : (ByteArray.mk l.toArray).size = l.length := by simp [ByteArray.size]
      refine ⟨_, und_string hP hk', Or.inr rfl, l.map fun c => Value.int .u8 c.toNat, by simp [h1], ?_, ?_, fun w1 => by rw [hxv.1]; simp [Builtin.lenOf, hsz], fun w1 _ => ?_⟩
      · have e1 : (l.map byteV).flatMap AV.cells = l.map byteV := by
          rw [List.flatMap_map]
          show l.flatMap (fun c => [byteV c]) = _
          rw [← List.map_eq_flatMap]
        rw [e1]
        exact bytes_rep
      · intro y hy
        obtain ⟨c, _, rfl⟩ := List.mem_map.1 hy
        rw [h1]; rfl
      · rw [hxv.1]
        simp only [Builtin.firstCells, List.length_map]
        have e1 : (ByteArray.mk l.toArray).extract 0 l.length = ⟨l.toArray⟩ := by
          rw [← hsz]; simp
        rw [e1]
        simp only [Sem.run_pure]
        congr 1
        apply Array.ext'
        simp
  · cases hy
/-- an append of nothing -/
theorem app_none (hP : TabOk P tab) {o : Oper} (hd : dstOk N o = true) {sx x : Operand} {ats : Array TypeId} {t0 t1 el : TypeId} {ie : TI} {sl : AV} {y : AV} {K : St → Prop} (ho : o.op = .call ⟨.builtin .append, #[sx, x], ats⟩)
    (ha0 : ats[0]? = some t0) (ha1 : ats[1]? = some t1) (hk : tab.kind t0 = .slice el) (hie : tab.get el = some ie) (hsx : s.e.ev sx = .g sl) (hx : s.e.ev x = .g y) (hy : srcA tab t1 ie.size y = some []) (hsl : ∀ u, rep M sl u → ∃ ad n cap, u = .slice ad n cap ∧ n ≤ cap)
    (h : K (s.put o.dst (.g sl))) (hc : ConcAt B N M lm s a w) :
    o.wp P a w (fun a' w' => ∃ s', Conc B N s' a' w' ∧ K s') (fun _ _ _ => False) := by
  have ok := hP.get hie
  obtain ⟨f, i1, i2, i3, i4⟩ := ok.info
  have hus := und_slice hP hk
  have hsv := hc.ev sx
  rw [hsx] at hsv
  have hsr : rep M sl (a.eval sx) := hsv
  have hxv := hc.ev x
  rw [hx] at hxv
  obtain ⟨ad, n, cap, hv, k1⟩ := hsl _ hsr
  rw [hv] at hsr
  obtain ⟨d, hud, hdd, news, hn1, hn2, hn3, hn4, hn5⟩ := src_sound hP hxv hy hc.right
  have hrun : execOp a.eval o = (do pure (.value (← Builtin.append_ ats o.type #[.slice ad n cap, a.eval x]))) := by
    unfold execOp
    simp only [ho, resolve, pure_bind, invoke, builtin]
    rw [← hv]
    simp
  have hn5' : ∀ w1 : World, w1.heap = w.heap → (Builtin.firstCells f.size ([] : List AV).length (a.eval x)).run P w1 = .ok news.toArray w1 := fun w1 hw1 => by rw [i2]; exact hn5 w1 hw1
  have hnews : news = [] := List.eq_nil_of_length_eq_zero (by simpa using hn1)
  subst hnews
  have hr := run_app_room (P := P) (w := w) (w' := w) (ty := o.type) (ad := ad) (n := n) (cap := cap) ha0 ha1 hus hud hdd i1 hn4 (hn5' w rfl) (by simpa using k1) (fun _ _ => rfl) (fun _ => rfl)
  have hr2 : (execOp a.eval o).run P w = .ok (.value (.slice ad n cap)) w := by
    rw [hrun, Sem.run_bind, hr]; rfl
  refine wp_value hr2 ⟨_, ⟨M, lm, ?_⟩, h⟩
  exact hc.next (Evo.refl _ _ _) hc.right (fun b hb => Or.inl hb) (dst_ok hd) (t := .g sl) hsr
/-- where an append may put elements in place -/
theorem app_sound (hP : TabOk P tab) {o : Oper} (hd : dstOk N o = true) {sx x : Operand} {ats : Array TypeId} {t0 t1 el : TypeId} {ie : TI} {ow : Own} {wd : Nat} {xs ys : List AV} {y : AV} {K : St → Prop} (ho : o.op = .call ⟨.builtin .append, #[sx, x], ats⟩)
    (ha0 : ats[0]? = some t0) (ha1 : ats[1]? = some t1) (hk : tab.kind t0 = .slice el) (hie : tab.get el = some ie) (hw : wOk wd ie.size = true) (hz : 0 < ie.size) (hz0 : ie.zero.cells.size = ie.size) (hsx : s.e.ev sx = .g (.sl ow wd xs)) (hx : s.e.ev x = .g y) (hy : srcA tab t1 ie.size y = some ys)
    (h : appK s o.dst ow wd ie.size ie.bytes xs ys K) (hc : ConcAt B N M lm s a w) :
    o.wp P a w (fun a' w' => ∃ s', Conc B N s' a' w' ∧ K s') (fun _ _ _ => False) := by
  have ok := hP.get hie
  obtain ⟨f, i1, i2, i3, i4⟩ := ok.info
  have hus := und_slice hP hk
  have hsv := hc.ev sx
  rw [hsx] at hsv
  have hxv := hc.ev x
  rw [hx] at hxv
  have hs : wd = ie.size ∨ wd = 0 := by
    unfold wOk at hw
    rw [Bool.or_eq_true] at hw
    exact hw.imp beq_true beq_true
  have hsr : rep M (.sl ow wd xs) (a.eval sx) := hsv
  simp only [repX, rep] at hsv
  obtain ⟨ad, cap, hv, k1, k2, k3, k4, k5, k6⟩ := hsv
  rw [hv] at hsr
  obtain ⟨olds, ho1, ho2, ho3⟩ := sl_cells hs hsr
  -- what is put behind
  obtain ⟨d, hud, hdd, news, hn1, hn2, hn3, hn4, hn5⟩ := src_sound hP hxv hy hc.right
  have hrun : execOp a.eval o = (do pure (.value (← Builtin.append_ ats o.type #[.slice ad xs.length cap, a.eval x]))) := by
    unfold execOp
    simp only [ho, resolve, pure_bind, invoke, builtin]
    rw [← hv]
    simp
  obtain ⟨hbd, h⟩ := h
  obtain ⟨hb1, hb2⟩ := app_room hbd
  have hb1' : (xs.length + ys.length) * f.bytes ≤ 140737488355328 := by rw [i3]; exact hb1
  have hmx : xs.length + ys.length ≤ maxLen := by simp only [maxLen]; omega
  have ho3' : ∀ w1 : World, w1.heap = w.heap → (Builtin.firstCells f.size xs.length (.slice ad xs.length cap)).run P w1 = .ok olds.toArray w1 := fun w1 hw1 => by rw [i2]; exact ho3 hc.inv hw1
  have hn5' : ∀ w1 : World, w1.heap = w.heap → (Builtin.firstCells f.size ys.length (a.eval x)).run P w1 = .ok news.toArray w1 := fun w1 hw1 => by rw [i2]; exact hn5 w1 hw1
  have hwx : ∀ y ∈ xs, y.cells.length = ie.size := fun y hy => by
    rcases hs with e | e
    · rw [← e]; exact k4.2 y hy
    · rw [k4.1 e] at hy; cases hy
  have hflat : repC M ((xs ++ ys).flatMap AV.cells) (olds ++ news) := by rw [List.flatMap_append]; exact ho2.append hn2
  have hlen2 : (olds ++ news).length = (xs ++ ys).length * ie.size := by rw [List.length_append, List.length_append, ho1, hn1, Nat.add_mul]
  have hwide : ∀ y ∈ xs ++ ys, y.cells.length = ie.size := fun y hy => (List.mem_append.1 hy).elim (hwx y) (hn3 y)
  -- into a new block
  have grow : ∀ {H0 : Heap}, cap < xs.length + ys.length → H0.Sublist s.H → (∀ c : Cap, c.b ∉ H0.keys → K ⟨s.e.put o.dst (.g (.sl (.own c) ie.size (xs ++ ys))), s.L, (c.b, .cap c) :: H0⟩) →
      o.wp P a w (fun a' w' => ∃ s', Conc B N s' a' w' ∧ K s') (fun _ _ _ => False) := by
    intro H0 hcap hsub hK
    have hr := run_app_grow (P := P) (w := w) (ty := o.type) ha0 ha1 hus hud hdd i1 i4 hn4 ho3' hn5' hb1' hmx hcap
    have hge := grownCap_ge w (xs.length + ys.length) cap el
    have hgm := grownCap_le_maxLen w (xs.length + ys.length) cap el hmx
    have hlx : (xs ++ ys).length = xs.length + ys.length := List.length_append
    obtain ⟨M', c, g1, g2, g3, g4, g5⟩ := inv_grow (T := el) (hc.right.sub hsub) (s := ie.size) (cap := grownCap w (xs.length + ys.length) cap el) (xs := xs ++ ys) (vs := olds ++ news) (rest := Builtin.zeroCells ie.zero.cells (grownCap w (xs.length + ys.length) cap el - (xs.length + ys.length))) hlen2 (by
      rw [size_zeroCells, hz0, hlx, ← Nat.sub_mul]) hz hwide hflat (by rw [hlx]; exact hge) hgm
    have hr2 : (execOp a.eval o).run P w = .ok (.value (.slice (some ⟨w.heap.size, 0, none⟩) (xs.length + ys.length) (grownCap w (xs.length + ys.length) cap el))) (w.drew.alloc (.cells ((olds ++ news).toArray ++ Builtin.zeroCells ie.zero.cells (grownCap w (xs.length + ys.length) cap el - (xs.length + ys.length))) el)) := by
      have e1 : (olds ++ news).toArray = olds.toArray ++ news.toArray := by simp
      rw [hrun, Sem.run_bind, hr, e1]; rfl
    refine wp_value hr2 ⟨_, ⟨M', lm, ?_⟩, hK c g1⟩
    refine hc.next (g3.mono (by simp)) g4 (fun b hb => ?_) (dst_ok hd) (t := .g (.sl (.own c) ie.size (xs ++ ys))) (by rw [hlx] at g5; exact g5)
    simp only [Heap.keys, List.map_cons, List.mem_cons] at hb
    rcases hb with rfl | hb
    · exact Or.inr g2
    · exact Or.inl ((hsub.map _).subset hb)
  cases ys with
  | nil =>
    have hnews : news = [] := List.eq_nil_of_length_eq_zero (by simpa using hn1)
    subst hnews
    have hr := run_app_room (P := P) (w := w) (w' := w) (ty := o.type) (ad := ad) (n := xs.length) (cap := cap) ha0 ha1 hus hud hdd i1 hn4 (hn5' w rfl) (by simpa using k1) (fun _ _ => rfl) (fun _ => rfl)
    have hr2 : (execOp a.eval o).run P w = .ok (.value (.slice ad xs.length cap)) w := by
      rw [hrun, Sem.run_bind, hr]; rfl
    refine wp_value hr2 ⟨_, ⟨M, lm, ?_⟩, h⟩
    exact hc.next (Evo.refl _ _ _) hc.right (fun b hb => Or.inl hb) (dst_ok hd) (t := .g (.sl ow wd xs)) hsr
  | cons y0 ys0 =>
    have hpos : 0 < (y0 :: ys0).length := by simp
    cases ow with
    | no => exact h.elim
    | full =>
      have k5' : cap = xs.length := k5
      exact grow (by omega) (List.Sublist.refl _) h
    | own c0 =>
      cases hwd : Nat.beq wd ie.size with
      | false => have h' : (bif Nat.beq wd ie.size then _ else False) := h; rw [hwd] at h'; exact h'.elim
      | true =>
        have h' : (bif Nat.beq wd ie.size then (∃ H0, Heap.Rem (c0.b, .cap c0) s.H H0 ∧ ∀ c : Cap, c.b ∉ H0.keys → K ⟨s.e.put o.dst (.g (.sl (.own c) ie.size (xs ++ y0 :: ys0))), s.L, (c.b, .cap c) :: H0⟩) else False) := h
        rw [hwd] at h'
        simp only [cond_true] at h'
        obtain ⟨H0, hrem, hK⟩ := h'
        by_cases hcap : xs.length + (y0 :: ys0).length ≤ cap
        · obtain ⟨off, rfl, q1, q2⟩ := k5
          have hwe := beq_true hwd
          subst hwe
          obtain ⟨cur, T0, fr, r1, r2, r3, M', r4, r5, r6, r7⟩ := inv_room hc.right hrem hz hsr hn3 hn1 hn2 hcap
          have hst := run_storeCells_free (P := P) c0.b (off + xs.length * ie.size) T0 fr news 0 cur w r1 r2 (by simpa using r3) hn2.one
          simp only [Nat.add_zero] at hst
          have hr := run_app_room (P := P) (w := w) (ty := o.type) (ad := some ⟨c0.b, off, none⟩) (n := xs.length) (cap := cap) ha0 ha1 hus hud hdd i1 hn4 (hn5' w rfl) hcap (w' := w.setRow c0.b (cur.toList.take (off + xs.length * ie.size) ++ news ++ cur.toList.drop (off + xs.length * ie.size + news.length)).toArray)
            (fun ad had => by cases had; rw [i2, Addr.add_lit]; exact hst) (fun h => by cases h)
          have hr2 : (execOp a.eval o).run P w = .ok (.value (.slice (some ⟨c0.b, off, none⟩) (xs.length + (y0 :: ys0).length) cap)) (w.setRow c0.b (cur.toList.take (off + xs.length * ie.size) ++ news ++ cur.toList.drop (off + xs.length * ie.size + news.length)).toArray) := by
            rw [hrun, Sem.run_bind, hr]; rfl
          have hin : c0.b ∈ s.H.keys := Heap.mem_keys (x := .cap c0) (hrem.perm.mem_iff.2 List.mem_cons_self)
          refine wp_value hr2 ⟨_, ⟨M', lm, ?_⟩, hK ⟨c0.b, c0.hi + news.length, c0.lim⟩ r4⟩
          refine hc.next (r5.mono fun b hb => ?_) r6 (fun b hb => Or.inl ?_) (dst_ok hd) (t := .g (.sl (.own _) ie.size (xs ++ y0 :: ys0))) r7
          · have : b = c0.b := by simpa using hb
            subst this; exact hin
          · simp only [Heap.keys, List.map_cons, List.mem_cons] at hb
            rcases hb with rfl | hb
            · exact hin
            · have hp : (Heap.keys s.H).Perm (c0.b :: H0.keys) := hrem.perm.map _
              exact hp.mem_iff.2 (List.mem_cons_of_mem _ hb)
        · exact grow (by omega) (rem_sub hrem) hK
where
  rem_sub : ∀ {p : Nat × AObj} {H H0 : Heap}, Heap.Rem p H H0 → H0.Sublist H
    | _, _, _, .here => List.sublist_cons_self _ _
    | _, _, _, .there h => (rem_sub h).cons_cons _

theorem ones_rep {M : Mem} : ∀ {l : List Value}, (∀ c ∈ l, c.oneCell' = true) → repC M (l.map AV.v) l
  | [], _ => by simp only [List.map_nil, repC]
  | c :: l, h => by
    simp only [List.map_cons, repC]
    exact ⟨c, l, rfl, ⟨h c (by simp), by simp [rep, h c (by simp)]⟩, ones_rep fun d hd => h d (by simp [hd])⟩
theorem zero_ones {z : Value} (h : litOk z = true) : ∀ c ∈ z.cells.toList, c.oneCell' = true := by
  intro c hc
  unfold litOk at h
  split at h
  · rename_i cs
    exact (rep_lit1 (M := fun _ _ => none) (List.all_eq_true.1 h c hc)).1
  · have h2 := (rep_lit1 (M := fun _ _ => none) h).1
    have : z.cells = #[z] := by cases z <;> first | rfl | (simp [Value.oneCell'] at h2)
    rw [this] at hc
    simp at hc
    subst hc
    exact h2
theorem zeros_ones {z : Value} (h : litOk z = true) (hz : 0 < z.cells.size) (n : Nat) : ∀ c ∈ (Builtin.zeroCells z.cells n).toList, c.oneCell' = true := by
  intro c hc
  simp only [Builtin.zeroCells, Array.toList_map, List.mem_map] at hc
  obtain ⟨i, _, rfl⟩ := hc
  have hlt : i % z.cells.size < z.cells.size := Nat.mod_lt _ hz
  rw [getElem!_pos z.cells _ hlt]
  exact zero_ones h _ (by simp)
/-- an append to a slice without room, into memory that may turn -/
theorem appH_sound (hP : TabOk P tab) {o : Oper} (hd : dstOk N o = true) {sx x : Operand} {ats : Array TypeId} {t0 t1 el : TypeId} {ie : TI} {ow : Own} {wd : Nat} {xs ys : List AV} {y : AV} {K : St → Prop} (ho : o.op = .call ⟨.builtin .append, #[sx, x], ats⟩)
    (ha0 : ats[0]? = some t0) (ha1 : ats[1]? = some t1) (hk : tab.kind t0 = .slice el) (hie : tab.get el = some ie) (hw : wOk wd ie.size = true) (hz : 0 < ie.size) (hz0 : ie.zero.cells.size = ie.size) (hzl : litOk ie.zero = true) (hsx : s.e.ev sx = .g (.sl ow wd xs)) (hx : s.e.ev x = .g y) (hy : srcA tab t1 ie.size y = some ys)
    (h : appH s o.dst ow ie.size ie.bytes xs ys K) (hc : ConcAt B N M lm s a w) :
    o.wp P a w (fun a' w' => ∃ s', Conc B N s' a' w' ∧ K s') (fun _ _ _ => False) := by
  have ok := hP.get hie
  obtain ⟨f, i1, i2, i3, i4⟩ := ok.info
  have hus := und_slice hP hk
  have hsv := hc.ev sx
  rw [hsx] at hsv
  have hxv := hc.ev x
  rw [hx] at hxv
  have hs : wd = ie.size ∨ wd = 0 := by
    unfold wOk at hw
    rw [Bool.or_eq_true] at hw
    exact hw.imp beq_true beq_true
  have hsr : rep M (.sl ow wd xs) (a.eval sx) := hsv
  simp only [repX, rep] at hsv
  obtain ⟨ad, cap, hv, k1, k2, k3, k4, k5, k6⟩ := hsv
  rw [hv] at hsr
  obtain ⟨olds, ho1, ho2, ho3⟩ := sl_cells hs hsr
  obtain ⟨d, hud, hdd, news, hn1, hn2, hn3, hn4, hn5⟩ := src_sound hP hxv hy hc.right
  have hrun : execOp a.eval o = (do pure (.value (← Builtin.append_ ats o.type #[.slice ad xs.length cap, a.eval x]))) := by
    unfold execOp
    simp only [ho, resolve, pure_bind, invoke, builtin]
    rw [← hv]
    simp
  obtain ⟨hbd, hne, rfl, h⟩ := h
  have k5' : cap = xs.length := k5
  have hpos : 0 < ys.length := List.length_pos_iff.2 hne
  have hb1 : (xs.length + ys.length) * ie.bytes ≤ 140737488355328 := Nat.le_trans (Nat.mul_le_mul_left _ (Nat.le_succ _)) hbd
  have hb2 : xs.length + ys.length ≤ 140737488355328 := Nat.le_trans (Nat.le_mul_of_pos_right _ (Nat.succ_pos _)) hbd
  have hb1' : (xs.length + ys.length) * f.bytes ≤ 140737488355328 := by rw [i3]; exact hb1
  have hmx : xs.length + ys.length ≤ maxLen := by simp only [maxLen]; omega
  have ho3' : ∀ w1 : World, w1.heap = w.heap → (Builtin.firstCells f.size xs.length (.slice ad xs.length cap)).run P w1 = .ok olds.toArray w1 := fun w1 hw1 => by rw [i2]; exact ho3 hc.inv hw1
  have hn5' : ∀ w1 : World, w1.heap = w.heap → (Builtin.firstCells f.size ys.length (a.eval x)).run P w1 = .ok news.toArray w1 := fun w1 hw1 => by rw [i2]; exact hn5 w1 hw1
  have hflat : repC M ((xs ++ ys).flatMap AV.cells) (olds ++ news) := by rw [List.flatMap_append]; exact ho2.append hn2
  have hr := run_app_grow (P := P) (w := w) (ty := o.type) ha0 ha1 hus hud hdd i1 i4 hn4 ho3' hn5' hb1' hmx (by omega)
  have hge := grownCap_ge w (xs.length + ys.length) cap el
  have hgm := grownCap_le_maxLen w (xs.length + ys.length) cap el hmx
  generalize hG : grownCap w (xs.length + ys.length) cap el = G at hr hge hgm
  generalize hZ : (Builtin.zeroCells ie.zero.cells (G - (xs.length + ys.length))).toList = zs at *
  have hzs : ∀ c ∈ zs, c.oneCell' = true := by rw [← hZ]; exact zeros_ones hzl (by omega) _
  have hzl2 : zs.length = (G - (xs.length + ys.length)) * ie.size := by rw [← hZ, Array.length_toList, size_zeroCells, hz0]
  obtain ⟨e1, e2, e3⟩ := inv_var (hc.right.drew) (hflat.append (ones_rep hzs)) el
  have hr2 : (execOp a.eval o).run P w = .ok (.value (.slice (some ⟨w.heap.size, 0, none⟩) (xs.length + ys.length) G)) (w.drew.alloc (.cells (olds ++ news ++ zs).toArray el)) := by
    have e4 : (olds ++ news ++ zs).toArray = olds.toArray ++ news.toArray ++ Builtin.zeroCells ie.zero.cells (G - (xs.length + ys.length)) := by rw [← hZ]; simp
    rw [hrun, Sem.run_bind, hr, e4]; rfl
  refine wp_value hr2 ⟨_, ⟨M, lm, ?_⟩, h w.heap.size G (zs.map AV.v) e3 hge hgm (by rw [List.length_map]; exact hzl2)⟩
  refine hc.next (((Evo.refl ([] : List Nat) M w).drew.trans e1 (fun _ hb => by cases hb)).mono (by simp)) e2 (fun b hb => ?_) (dst_ok hd) (t := .g (.v (.slice (some ⟨w.heap.size, 0, none⟩) (xs.length + ys.length) G))) (by simp [repX, rep, Value.oneCell'])
  simp only [Heap.keys, List.map_cons, List.mem_cons] at hb
  rcases hb with rfl | hb
  · exact Or.inr (Nat.le_refl _)
  · exact Or.inl hb
/-- an append to a slice of memory that may turn -/
theorem appS_sound (hP : TabOk P tab) {o : Oper} (hd : dstOk N o = true) {sx x : Operand} {ats : Array TypeId} {t0 t1 el : TypeId} {ie : TI} {b n cap : Nat} {ys : List AV} {y : AV} {K : St → Prop} (ho : o.op = .call ⟨.builtin .append, #[sx, x], ats⟩)
    (ha0 : ats[0]? = some t0) (ha1 : ats[1]? = some t1) (hk : tab.kind t0 = .slice el) (hie : tab.get el = some ie) (hz : 0 < ie.size) (hz0 : ie.zero.cells.size = ie.size) (hzl : litOk ie.zero = true) (hsx : s.e.ev sx = .g (.v (.slice (some ⟨b, 0, none⟩) n cap))) (hx : s.e.ev x = .g y) (hy : srcA tab t1 ie.size y = some ys)
    (h : appS s o.dst b n cap ie.size ie.bytes ys K) (hc : ConcAt B N M lm s a w) :
    o.wp P a w (fun a' w' => ∃ s', Conc B N s' a' w' ∧ K s') (fun _ _ _ => False) := by
  have ok := hP.get hie
  obtain ⟨f, i1, i2, i3, i4⟩ := ok.info
  have hus := und_slice hP hk
  have hsv := hc.ev sx
  rw [hsx] at hsv
  simp only [repX, rep] at hsv
  have hv := hsv.1
  have hxv := hc.ev x
  rw [hx] at hxv
  obtain ⟨d, hud, hdd, news, hn1, hn2, hn3, hn4, hn5⟩ := src_sound hP hxv hy hc.right
  have hrun : execOp a.eval o = (do pure (.value (← Builtin.append_ ats o.type #[.slice (some ⟨b, 0, none⟩) n cap, a.eval x]))) := by
    unfold execOp
    simp only [ho, resolve, pure_bind, invoke, builtin]
    rw [← hv]
    simp
  obtain ⟨hbd, hne, cs, H0, hrem, hnc, hcm, hcl, h⟩ := h
  have hpos : 0 < ys.length := List.length_pos_iff.2 hne
  have hp := hrem.perm
  have hI := hc.right.perm hp
  obtain ⟨hnone, vs, T0, hg, hrep⟩ := hI.obj b (.cells cs) (by simp)
  have hvl := hrep.length
  have hnd := hI.nodup
  simp only [Heap.keys, List.map_cons, List.nodup_cons] at hnd
  have hin : b ∈ s.H.keys := (hp.map (·.1)).mem_iff.2 (by simp)
  have hkeys : ∀ c ∈ H0.keys, c ∈ s.H.keys := fun c hc => (hp.map (·.1)).mem_iff.2 (by simp only [List.map_cons, List.mem_cons]; exact Or.inr hc)
  have hns : n * ie.size ≤ cap * ie.size := Nat.mul_le_mul_right _ hnc
  have hb1 : (n + ys.length) * ie.bytes ≤ 140737488355328 := Nat.le_trans (Nat.mul_le_mul_left _ (Nat.le_succ _)) hbd
  have hb2 : n + ys.length ≤ 140737488355328 := Nat.le_trans (Nat.le_mul_of_pos_right _ (Nat.succ_pos _)) hbd
  have hb1' : (n + ys.length) * f.bytes ≤ 140737488355328 := by rw [i3]; exact hb1
  have hmx : n + ys.length ≤ maxLen := by simp only [maxLen]; omega
  have hmul : (n + ys.length) * ie.size = n * ie.size + ys.length * ie.size := Nat.add_mul _ _ _
  have hn5' : ∀ w1 : World, w1.heap = w.heap → (Builtin.firstCells f.size ys.length (a.eval x)).run P w1 = .ok news.toArray w1 := fun w1 hw1 => by rw [i2]; exact hn5 w1 hw1
  by_cases hroom : n + ys.length ≤ cap
  · have hle : (n + ys.length) * ie.size ≤ cap * ie.size := Nat.mul_le_mul_right _ hroom
    have hfit : n * ie.size + news.length ≤ vs.length := by rw [hvl, hn1]; omega
    have hst := run_storeCells_free (P := P) b (n * ie.size) T0 (0, 0) news 0 vs.toArray w hg (by simp) (by simpa using hfit) hn2.one
    simp only [Nat.add_zero] at hst
    have hr := run_app_room (P := P) (w := w) (ty := o.type) (ad := some ⟨b, 0, none⟩) (n := n) (cap := cap) ha0 ha1 hus hud hdd i1 hn4 (hn5' w rfl) hroom (w' := w.setRow b (vs.take (n * ie.size) ++ news ++ vs.drop (n * ie.size + news.length)).toArray)
      (fun ad had => by cases had; rw [i2, Addr.add_lit, Nat.zero_add]; exact hst) (fun h => by cases h)
    have hr2 : (execOp a.eval o).run P w = .ok (.value (.slice (some ⟨b, 0, none⟩) (n + ys.length) cap)) (w.setRow b (vs.take (n * ie.size) ++ news ++ vs.drop (n * ie.size + news.length)).toArray) := by
      rw [hrun, Sem.run_bind, hr]; rfl
    have hrep2 : repC M (cs.take (n * ie.size) ++ ys.flatMap AV.cells ++ cs.drop (n * ie.size + news.length)) (vs.take (n * ie.size) ++ news ++ vs.drop (n * ie.size + news.length)) := ((hrep.take _).append hn2).append (hrep.drop _)
    obtain ⟨e1, e2⟩ := inv_store hI (Heap.At.here (b := b) (x := .cells cs) (y := .cells (cs.take (n * ie.size) ++ ys.flatMap AV.cells ++ cs.drop (n * ie.size + news.length))) (H := H0)) hrep2
    refine wp_value hr2 ⟨_, ⟨M, lm, ?_⟩, h b cap (cs.drop (n * ie.size + news.length)) hnd.1 hroom hcm (by rw [List.length_drop]; omega)⟩
    refine hc.next (e1.mono (by simpa using hin)) e2 (fun c hc => Or.inl ?_) (dst_ok hd) (t := .g (.v (.slice (some ⟨b, 0, none⟩) (n + ys.length) cap))) (by simp [repX, rep, Value.oneCell'])
    simp only [Heap.keys, List.map_cons, List.mem_cons] at hc
    rcases hc with rfl | hc
    · exact hin
    · exact hkeys c hc
  · have hol : (vs.take (n * ie.size)).length = n * ie.size := by rw [List.length_take]; omega
    have ho3' : ∀ w1 : World, w1.heap = w.heap → (Builtin.firstCells f.size n (.slice (some ⟨b, 0, none⟩) n cap)).run P w1 = .ok (vs.take (n * ie.size)).toArray w1 := fun w1 hw1 => by
      rw [i2]
      refine run_firstCells_some (P := P) w1 ie.size n ⟨b, 0, none⟩ n cap (vs.take (n * ie.size)) hol fun j u hj => ?_
      rw [Addr.add_lit, Nat.zero_add]
      have hj' : vs[j]? = some u := by
        rw [List.getElem?_take] at hj
        split at hj
        · exact hj
        · cases hj
      simp only [World.cell?, hw1, hg]
      simpa using hj'
    have hr := run_app_grow (P := P) (w := w) (ty := o.type) ha0 ha1 hus hud hdd i1 i4 hn4 ho3' hn5' hb1' hmx (by omega)
    have hge := grownCap_ge w (n + ys.length) cap el
    have hgm := grownCap_le_maxLen w (n + ys.length) cap el hmx
    generalize hG : grownCap w (n + ys.length) cap el = G at hr hge hgm
    generalize hZ : (Builtin.zeroCells ie.zero.cells (G - (n + ys.length))).toList = zs at *
    have hzs : ∀ c ∈ zs, c.oneCell' = true := by rw [← hZ]; exact zeros_ones hzl (by omega) _
    have hzl2 : zs.length = (G - (n + ys.length)) * ie.size := by rw [← hZ, Array.length_toList, size_zeroCells, hz0]
    have hrep2 : repC M (cs.take (n * ie.size) ++ ys.flatMap AV.cells ++ zs.map AV.v) (vs.take (n * ie.size) ++ news ++ zs) := ((hrep.take _).append hn2).append (ones_rep hzs)
    obtain ⟨e1, e2, e3⟩ := inv_var ((hI.sub (List.sublist_cons_self _ _)).drew) hrep2 el
    have hr2 : (execOp a.eval o).run P w = .ok (.value (.slice (some ⟨w.heap.size, 0, none⟩) (n + ys.length) G)) (w.drew.alloc (.cells (vs.take (n * ie.size) ++ news ++ zs).toArray el)) := by
      have e4 : (vs.take (n * ie.size) ++ news ++ zs).toArray = (vs.take (n * ie.size)).toArray ++ news.toArray ++ Builtin.zeroCells ie.zero.cells (G - (n + ys.length)) := by rw [← hZ]; simp
      rw [hrun, Sem.run_bind, hr, e4]; rfl
    have hGs : G * ie.size ≤ (n + ys.length) * ie.size + (G - (n + ys.length)) * ie.size := by rw [← Nat.add_mul]; exact Nat.mul_le_mul_right _ (by omega)
    refine wp_value hr2 ⟨_, ⟨M, lm, ?_⟩, h w.heap.size G (zs.map AV.v) e3 hge hgm (by rw [List.length_map, hzl2]; exact hGs)⟩
    refine hc.next (((Evo.refl ([] : List Nat) M w).drew.trans e1 (fun _ hb => by cases hb)).mono (by simp)) e2 (fun c hc => ?_) (dst_ok hd) (t := .g (.v (.slice (some ⟨w.heap.size, 0, none⟩) (n + ys.length) G))) (by simp [repX, rep, Value.oneCell'])
    simp only [Heap.keys, List.map_cons, List.mem_cons] at hc
    rcases hc with rfl | hc
    · exact Or.inr (Nat.le_refl _)
    · exact Or.inl (hkeys c hc)

/-- behind a row's end a mark is laid -/
theorem inv_freeze {M : Mem} {H : Heap} {W : World} {c : Cap} {g : Nat} {C : Array Value} {T0 : TypeId} (h : Inv M ((c.b, .cap c) :: H) W) (hcb : c.b = g) (hg : W.heap[g]? = some (.cells C T0 (0, 0))) :
    Evo [g] M W M (W.freeze ⟨g, C.size, none⟩ 1) ∧ Inv M ((c.b, .cap c) :: H) (W.freeze ⟨g, C.size, none⟩ 1) := by
  subst hcb
  have hlt : c.b < W.heap.size := (Array.getElem?_eq_some_iff.1 hg).1
  have hv : W.heap[c.b] = .cells C T0 (0, 0) := (Array.getElem?_eq_some_iff.1 hg).2
  have hnew : (W.freeze ⟨c.b, C.size, none⟩ 1).heap[c.b]? = some (.cells C T0 (C.size, C.size + 1)) := by
    simp only [World.freeze, Nat.one_ne_zero, if_false]
    rw [Array.getElem?_eq_getElem (by simpa using hlt), Array.getElem_modify]
    simp [hv]
  have hold : ∀ k, k ≠ c.b → (W.freeze ⟨c.b, C.size, none⟩ 1).heap[k]? = W.heap[k]? := fun k hk => by
    simp only [World.freeze, Nat.one_ne_zero, if_false, Array.getElem?_modify]
    rw [if_neg (fun e => hk e.symm)]
  have hsz : (W.freeze ⟨c.b, C.size, none⟩ 1).heap.size = W.heap.size := by simp [World.freeze]
  have e : Evo [c.b] M W M (W.freeze ⟨c.b, C.size, none⟩ 1) := ⟨rfl, rfl, rfl, by rw [hsz]; exact Nat.le_refl _, fun k _ hk => hold k (by simpa using hk), Mem.le.refl M, fun _ _ _ h => Or.inl h⟩
  refine ⟨e, ⟨fun b o v hm => ?_, fun b x hx => ?_, h.nodup⟩⟩
  · have := h.mem b o v hm
    by_cases hb : b = c.b
    · subst hb
      simp only [World.cell?, hg] at this
      simp only [World.cell?, hnew]
      exact this
    · exact (World.cell?_of_block (w := W) (a := ⟨b, o, none⟩) (hold b hb)).trans this
  · rcases List.mem_cons.1 hx with hx | hx
    · cases hx
      obtain ⟨h1, h2, cs, T1, fr, h3, h4, h5⟩ := h.obj c.b (.cap c) (by simp)
      rw [hg] at h3
      cases h3
      exact ⟨h1, h2, C, T0, (C.size, C.size + 1), hnew, h4, fun o ho => by simp; omega⟩
    · have hne : b ≠ c.b := fun e => by
        subst e
        have := h.nodup
        simp only [Heap.keys, List.map_cons, List.nodup_cons] at this
        exact this.1 (Heap.mem_keys hx)
      exact (h.obj b x (List.mem_cons_of_mem _ hx)).keep e (by simpa using hne)

theorem conv_sound (hP : TabOk P tab) {o : Oper} (hd : dstOk N o = true) {src dst el : TypeId} {x : Operand} {l : List UInt8} {K : St → Prop} (ho : o.op = .convert src dst x) (hs : tab.kind src = .string) (hdk : tab.kind dst = .slice el) (hek : tab.kind el = .int .u8) (hx : s.e.ev x = .g (.str l))
    (h : ∀ c : Cap, c.b ∉ s.H.keys → K ⟨s.e.put o.dst (.g (.sl (.own c) 1 (l.map byteV))), s.L, (c.b, .cap c) :: s.H⟩) (hc : ConcAt B N M lm s a w) :
    o.wp P a w (fun a' w' => ∃ s', Conc B N s' a' w' ∧ K s') (fun _ _ _ => False) := by
  have hxv := hc.ev x
  rw [hx] at hxv
  simp only [repX, rep] at hxv
  have hsz : (ByteArray.mk l.toArray).size = l.length := by simp [ByteArray.size]
  have hge := grownCap_ge w l.length 0 el
  have hgm := grownCap_le_maxLen w l.length 0 el (by simp only [maxLen]; omega)
  obtain ⟨M', c, g1, g2, g3, g4, g5⟩ := inv_grow (T := el) hc.right (s := 1) (cap := grownCap w l.length 0 el) (xs := l.map byteV) (vs := l.map fun c => Value.int .u8 c.toNat) (rest := Array.replicate (grownCap w l.length 0 el - l.length) (.int .u8 0)) (by simp) (by simp) (by omega) (fun y hy => by
    obtain ⟨c, _, rfl⟩ := List.mem_map.1 hy; rfl) (by
      have e1 : (l.map byteV).flatMap AV.cells = l.map byteV := by
        rw [List.flatMap_map]
        show l.flatMap (fun c => [byteV c]) = _
        rw [← List.map_eq_flatMap]
      rw [e1]
      exact bytes_rep) (by simpa using hge) hgm
  have hg : (w.drew.alloc (.cells ((l.map fun c => Value.int .u8 c.toNat).toArray ++ Array.replicate (grownCap w l.length 0 el - l.length) (.int .u8 0)) el)).heap[w.heap.size]? = some (.cells ((l.map fun c => Value.int .u8 c.toNat).toArray ++ Array.replicate (grownCap w l.length 0 el - l.length) (.int .u8 0)) el (0, 0)) := heap_alloc_new w.drew _
  have hcb : c.b = w.heap.size := by
    simp only [rep] at g5
    obtain ⟨_, _, e1, _, _, _, _, ⟨off, e2, _⟩, _⟩ := g5
    cases e1
    simp only [Option.some.injEq, Addr.mk.injEq] at e2
    exact e2.1.symm
  generalize hW : w.drew.alloc (.cells ((l.map fun c => Value.int .u8 c.toNat).toArray ++ Array.replicate (grownCap w l.length 0 el - l.length) (.int .u8 0)) el) = W at *
  generalize hC : (l.map fun c => Value.int .u8 c.toNat).toArray ++ Array.replicate (grownCap w l.length 0 el - l.length) (.int .u8 0) = C at *
  obtain ⟨f1, f2⟩ := inv_freeze g4 (c := c) hcb hg
  have hr : (execOp a.eval o).run P w = .ok (.value (.slice (some ⟨w.heap.size, 0, none⟩) l.length (grownCap w l.length 0 el))) (W.freeze ⟨w.heap.size, C.size, none⟩ 1) := by
    have hsh : W.shape? w.heap.size = some (el, C.size) := by simp [World.shape?, hg]
    unfold execOp
    simp only [ho, hxv.1]
    unfold convert
    simp only [Sem.run_bind, run_underlying (und_string hP hs), run_underlying (und_slice hP hdk), run_underlying (und_int hP hek), Result.andThen_ok]
    unfold Conv.stringToBytes markStringish
    have hcap : (Question.appendCap l.length 0 el).cut (w.tape w.drawn (Question.appendCap l.length 0 el)) = grownCap w l.length 0 el := rfl
    have hmap : (ByteArray.mk l.toArray).data.map (fun b : UInt8 => Value.int .u8 (b.toNat : Int)) = (l.map fun c => Value.int .u8 c.toNat).toArray := by simp
    simp only [Sem.run_bind, run_choose_drew, Question.forced, Bool.false_eq_true, if_false, Result.andThen_ok, hsz, hcap, hmap, newRow, run_newObj_alloc, Sem.run_pure, hC]
    rw [show w.drew.heap.size = w.heap.size from rfl, hW]
    simp [hsh]
  refine wp_value hr ⟨_, ⟨M', lm, ?_⟩, h c g1⟩
  refine hc.next ((g3.trans f1 (fun b hb => Or.inr ?_)).mono (by simp)) f2 (fun b hb => ?_) (dst_ok hd) (t := .g (.sl (.own c) 1 (l.map byteV))) (by rw [List.length_map] at g5; exact g5)
  · have : b = w.heap.size := by simpa using hb
    omega
  · simp only [Heap.keys, List.map_cons, List.mem_cons] at hb
    rcases hb with rfl | hb
    · exact Or.inr g2
    · exact Or.inl hb

theorem aop_sound0 {G : Pr} (hP : TabOk G.p tab) {esc : Nat → Bool} {R : Heap} (hR : ∀ p ∈ R, p ∈ s.H) {o : Oper} (hd : dstOk N o = true) {K : St → Prop} (hnc : ∀ c f, o.op = .call c → c.callee ≠ .value f) (hnp : ∀ x, o.op ≠ .panic x) (h : aop G tab esc R o s K) (hc : ConcAt B N M lm s a w) :
    o.wp G.p a w (fun a' w' => ∃ s', Conc B N s' a' w' ∧ K s') (fun _ _ _ => False) := by
  unfold aop at h
  cases hm : mobile tab esc o with
  | true => rw [hm] at h; exact quiet_sound hP hR hd (Rs.mono (fun t ht => by rw [nowK_eq] at ht; exact ht) h) hc
  | false =>
    rw [hm] at h
    simp only [cond_false] at h
    cases hmp : mapOp tab o.op with
    | true => rw [hmp] at h; exact map_sound hP hd h hc
    | false =>
    rw [hmp] at h
    simp only [cond_false] at h
    split at h
    · rename_i T0 x ho
      split at h
      · rename_i g hx
        cases hn : noTup g with
        | false => rw [hn] at h; exact h.elim
        | true =>
          rw [hn] at h
          have hxv := hc.ev x
          rw [hx] at hxv
          refine var_sound (T0 := T0) hd h hc (rep.cells hxv (noTup_ne hn)) ?_
          unfold execOp
          simp only [ho, Instr.box, newVar, newRow]
          simp
      · exact h.elim
    · rename_i t ho
      split at h
      · rename_i i hi
        cases hn : litOk i.zero with
        | false => rw [hn] at h; exact h.elim
        | true =>
          rw [hn] at h
          have hz := rep_lit (M := M) hn
          have hcl := rep.cells hz (by
            intro xs hx
            unfold lit at hx
            split at hx
            · cases hx
            · unfold lit1 at hx
              split at hx <;> cases hx)
          refine var_sound (T0 := t) hd h hc hcl ?_
          have := (hP.get hi).zero w
          unfold execOp
          simp only [ho, Instr.alloc, newVar, newRow, Sem.run_bind, this, Result.andThen_ok]
          simp
      · exact h.elim
    · rename_i t ad x ho
      exact store_sound hP hd ho h hc
    · rename_i op t x y yt ho
      have hy : isNilSlice y = true := by
        unfold mobile at hm
        rw [ho] at hm
        have hm' : (!isNilSlice y) = false := hm
        simpa using hm'
      have hye : a.eval y = .slice none 0 0 := by
        unfold isNilSlice at hy
        split at hy
        · rfl
        · cases hy
      split at h
      · rename_i ow wd xs el hx hk
        have hxv := hc.ev x
        rw [hx] at hxv
        have hxr := hxv
        simp only [repX, rep] at hxv
        obtain ⟨ad, cap, hv, k1, k2, k3, k4, k5, k6⟩ := hxv
        have hu := und_slice hP hk
        have hq : (nilR op ad.isNone).run fun t => K (s.put o.dst t) := by
          cases xs with
          | nil => exact h ad.isNone
          | cons x0 xs0 =>
            obtain ⟨b, off, rfl, _⟩ := k6 (by simp)
            exact h
        obtain ⟨t', h1, h2⟩ := Rs.split hq
        obtain ⟨u, hrun, hrep⟩ := nil_sound (P := G.p) (lm := lm) (M := M) (t := t) (a := .slice ad xs.length cap) (b := .slice none 0 0) h1 (fun w => run_equal_slice_nil w t el ad xs.length cap hu) ⟨rfl, rfl⟩
        have hr : (execOp a.eval o).run G.p w = .ok (.value u) w := by
          unfold execOp
          simp only [ho, hv, hye, Sem.run_bind, guard_pure op t x y (.slice ad xs.length cap) (.slice none 0 0) ⟨by simp, by simp⟩, Result.andThen_ok, hrun]
          rfl
        refine wp_value hr ⟨_, ⟨M, lm, ?_⟩, h2⟩
        exact hc.next (Evo.refl _ _ _) hc.right (fun b hb => Or.inl hb) (dst_ok hd) hrep
      · rename_i ad n cap el hx hk
        have hxv := hc.ev x
        rw [hx] at hxv
        simp only [repX, rep] at hxv
        have hv := hxv.1
        have hu := und_slice hP hk
        obtain ⟨t', h1, h2⟩ := Rs.split h
        obtain ⟨u, hrun, hrep⟩ := nil_sound (P := G.p) (lm := lm) (M := M) (t := t) (a := .slice (some ad) n cap) (b := .slice none 0 0) h1 (fun w => run_equal_slice_nil w t el (some ad) n cap hu) ⟨rfl, rfl⟩
        have hr : (execOp a.eval o).run G.p w = .ok (.value u) w := by
          unfold execOp
          simp only [ho, hv, hye, Sem.run_bind, guard_pure op t x y (.slice (some ad) n cap) (.slice none 0 0) ⟨by simp, by simp⟩, Result.andThen_ok, hrun]
          rfl
        refine wp_value hr ⟨_, ⟨M, lm, ?_⟩, h2⟩
        exact hc.next (Evo.refl _ _ _) hc.right (fun b hb => Or.inl hb) (dst_ok hd) hrep
      · exact h.elim
    · rename_i src dst x ho
      have hs : tab.kind src = .string := by
        unfold mobile at hm
        rw [ho] at hm
        have hm' : (match tab.kind src with | .string => false | _ => true) = false := hm
        split at hm'
        · assumption
        · cases hm'
      split at h
      · rename_i l hdk hx
        have hxv := hc.ev x
        rw [hx] at hxv
        have hxr : rep M (.str l) (a.eval x) := hxv
        simp only [repX, rep] at hxv
        have hr : (execOp a.eval o).run G.p w = .ok (.value (a.eval x)) w := by
          unfold execOp
          simp only [ho, hxv.1]
          unfold convert
          simp only [Sem.run_bind, run_underlying (und_string hP hs), run_underlying (und_string hP hdk), Result.andThen_ok]
          rfl
        refine wp_value hr ⟨_, ⟨M, lm, ?_⟩, h⟩
        exact hc.next (Evo.refl _ _ _) hc.right (fun b hb => Or.inl hb) (dst_ok hd) (t := .g (.str l)) hxr
      · rename_i el l hdk hx
        split at h
        · rename_i ie hek hie
          cases hb : Nat.beq ie.size 1 with
          | false => rw [hb] at h; exact h.elim
          | true =>
            rw [hb] at h
            exact conv_sound hP hd ho hs hdk hek hx h hc
        · exact h.elim
      · exact h.elim
    · rename_i c ho
      obtain ⟨callee, args, ats⟩ := c
      split at h
      · rename_i hcal
        simp only at hcal
        subst hcal
        exact absurd rfl (hnc _ _ ho)
      · rename_i ow wd xs y hcal hargs
        simp only at hcal hargs
        subst hcal
        obtain ⟨x0, y0, ha, hx, hy⟩ := two_args hargs
        subst ha
        split at h
        · rename_i t0 t1 ha0 ha1
          split at h
          · rename_i el hk
            split at h
            · rename_i ie hie
              cases hb : (wOk wd ie.size && !Nat.beq ie.size 0 && Nat.beq ie.zero.cells.size ie.size) with
              | false => rw [hb] at h; exact h.elim
              | true =>
                rw [hb] at h
                simp only [cond_true] at h
                simp only [Bool.and_eq_true, Bool.not_eq_true'] at hb
                have hz : 0 < ie.size := by
                  rcases Nat.eq_zero_or_pos ie.size with h0 | h0
                  · rw [h0] at hb; exact absurd hb.1.2 (by decide)
                  · exact h0
                split at h
                · rename_i ys hys
                  cases he : hsite esc o.dst with
                  | false =>
                    rw [he] at h
                    exact app_sound hP hd ho ha0 ha1 hk hie hb.1.1 hz (beq_true hb.2) hx hy hys h hc
                  | true =>
                    rw [he] at h
                    simp only [cond_true] at h
                    cases hzl : litOk ie.zero with
                    | false => rw [hzl] at h; exact h.elim
                    | true =>
                      rw [hzl] at h
                      cases ys with
                      | nil => exact app_none hP hd ho ha0 ha1 hk hie hx hy hys (fun u hu => by
                          simp only [rep] at hu
                          obtain ⟨ad, cap, e, k1, _⟩ := hu
                          exact ⟨ad, _, cap, e, k1⟩) h hc
                      | cons y0 ys0 => exact appH_sound hP hd ho ha0 ha1 hk hie hb.1.1 hz (beq_true hb.2) hzl hx hy hys h hc
                · exact h.elim
            · exact h.elim
          · exact h.elim
        · exact h.elim
      · rename_i b n cap y hcal hargs
        simp only at hcal hargs
        subst hcal
        obtain ⟨x0, y0, ha, hx, hy⟩ := two_args hargs
        subst ha
        split at h
        · rename_i t0 t1 ha0 ha1
          split at h
          · rename_i el hk
            split at h
            · rename_i ie hie
              cases hb : (!Nat.beq ie.size 0 && Nat.beq ie.zero.cells.size ie.size && litOk ie.zero) with
              | false => rw [hb] at h; exact h.elim
              | true =>
                rw [hb] at h
                simp only [cond_true] at h
                simp only [Bool.and_eq_true, Bool.not_eq_true'] at hb
                have hz : 0 < ie.size := by
                  rcases Nat.eq_zero_or_pos ie.size with h0 | h0
                  · rw [h0] at hb; exact absurd hb.1.1 (by decide)
                  · exact h0
                split at h
                · rename_i ys hys
                  cases ys with
                  | nil => exact app_none hP hd ho ha0 ha1 hk hie hx hy hys (fun u hu => by
                      simp only [rep] at hu
                      exact ⟨_, _, _, hu.1, h.1⟩) h.2 hc
                  | cons y0 ys0 => exact appS_sound hP hd ho ha0 ha1 hk hie hz (beq_true hb.1.2) hb.2 hx hy hys h hc
                · exact h.elim
            · exact h.elim
          · exact h.elim
        · exact h.elim
      · exact h.elim
    · rename_i x ho
      exact absurd ho (hnp x)
    · exact h.elim
/-- a frame in a round of a loop, or in none -/
def Fr (ρ : Option Nat) : Fence := { Fence.wide with round := ρ }
theorem wpIn_of_wp {ρ : Option Nat} {n : Nat} {o : Oper} {K : Act → World → Prop} (hd : ∀ c, o.op ≠ .defer c) (h : o.wp P a w K (fun _ _ _ => False)) : o.wpIn (Fr ρ) n P a w K (fun _ _ _ => False) := by
  refine ⟨fun _ _ => trivial, ?_⟩
  rw [Oper.semAt_eq _ _ _ hd]
  unfold Oper.wp at h
  generalize (execOp a.eval o).run P w = r at *
  cases r with
  | ok x w' =>
    cases x with
    | value v => exact h
    | skip => exact h
    | defer d => exact h
    | enter f args =>
      refine ⟨fun hh => (by cases hh), ?_⟩
      have h2 : CallsIn Fence.wide (n - 1) P f args w' _ := callsIn_wide.2 h
      refine CallsIn.mono (show CallsIn (Fr ρ) (n - 1) P f args w' _ from h2) fun e w'' he => ?_
      cases e <;> exact he
    | row nm args => exact ⟨fun hh => (by cases hh), fun c cs _ => let ⟨v, w'', r, s⟩ := h c cs; ⟨v, w'', r, stepsIn_wide.2 s⟩⟩
    | _ => exact h.elim
  | halt x w' => cases x <;> exact h.elim
/-- where an operation panics: as it may -/
def PX (G : Pr) (B : Base) (N : Nat) (x : Exit) (a : Act) (w : World) : Prop := ∃ ch v s', x = .panic ch ∧ panV ch v ∧ Conc B N s' a w ∧ PR G v s'.e s'.H
theorem call_sound {G : Pr} {o : Oper} (hd : dstOk N o = true) {f : Operand} {args : Array Operand} {ats : Array TypeId} {K : St → Prop} (ho : o.op = .call ⟨.value f, args, ats⟩) (hny : ∀ l, s.e.ev f ≠ .g (.fn (.yield l) [])) (h : callK G s o.dst (s.e.ev f) (args.toList.map s.e.ev) K) (hc : ConcAt B N M lm s a w) {ρ : Option Nat} {n : Nat} :
    o.wpIn (Fr ρ) n G.p a w (fun a' w' => ∃ s', Conc B N s' a' w' ∧ K s') (PX G B N) := by
  have hf := hc.ev f
  have key : ∀ v w', (∃ M' r H', Evo s.H.keys M w M' w' ∧ Inv M' H' w' ∧ (∀ b ∈ H'.keys, b ∈ s.H.keys ∨ w.heap.size ≤ b) ∧ rep M' r v ∧ (Wf r → H'.keys.Nodup → K ⟨s.e.put o.dst (.g r), s.L, H'⟩)) → ∃ s', Conc B N s' (a.put o.dst v) w' ∧ K s' := by
    rintro v w' ⟨M', r, H', e1, e2, e3, e4, e5⟩
    exact ⟨_, ⟨M', lm, hc.next e1 e2 e3 (dst_ok hd) (t := .g r) e4⟩, e5 ⟨M', v, e4⟩ e2.nodup⟩
  have go : ∀ (fid : FuncId) (vs : List Value), execOp a.eval o = callFunc fid vs.toArray → CallX G.p ((callFunc fid vs.toArray).run G.p w) (fun v w' => ∃ M' r H', Evo s.H.keys M w M' w' ∧ Inv M' H' w' ∧ (∀ b ∈ H'.keys, b ∈ s.H.keys ∨ w.heap.size ≤ b) ∧ rep M' r v ∧ (Wf r → H'.keys.Nodup → K ⟨s.e.put o.dst (.g r), s.L, H'⟩)) (fun v w' => ∃ M' H', Evo s.H.keys M w M' w' ∧ Inv M' H' w' ∧ (∀ b ∈ H'.keys, b ∈ s.H.keys ∨ w.heap.size ≤ b) ∧ PR G v s.e H') →
      o.wpIn (Fr ρ) n G.p a w (fun a' w' => ∃ s', Conc B N s' a' w' ∧ K s') (PX G B N) := by
    intro fid vs hex hcall
    refine ⟨fun _ _ => trivial, ?_⟩
    rw [Oper.semAt_eq _ _ _ (by rw [ho]; intro c hc'; cases hc'), hex]
    unfold CallX at hcall
    split at hcall
    · rename_i v w' hr
      rw [hr]
      exact key v w' hcall
    · rename_i g gargs w' hr
      rw [hr]
      refine ⟨fun hh => (by cases hh), ?_⟩
      have h2 : CallsIn Fence.wide (n - 1) G.p g gargs w' _ := callsIn_wide.2 hcall
      refine CallsIn.mono (show CallsIn (Fr ρ) (n - 1) G.p g gargs w' _ from h2) fun e w'' he => ?_
      rcases he with ⟨v, rfl, hk⟩ | ⟨ch, v, rfl, hp, M', H', e1, e2, e3, e5⟩
      · exact key v w'' hk
      · exact ⟨ch, v, ⟨s.e, s.L, H'⟩, rfl, hp, ⟨M', lm, hc.next (dst := none) e1 e2 e3 trivial (t := .undef) (u := undef) rfl⟩, e5⟩
    · exact hcall.elim
  unfold callK at h
  split at h
  · rename_i fid caps xs hf' hargs
    rw [hf'] at hf
    simp only [repX, rep] at hf
    obtain ⟨cvs, hfv, hcaps⟩ := hf
    obtain ⟨ys, hle, hcon⟩ := h
    have hav := hle.repT (argsA_rep (ev := a.eval) (fun x => hc.ev x) hargs)
    refine go fid (args.toList.map a.eval ++ cvs) ?_ (hcon.run M w _ hc.gh hc.right (hav.append hcaps))
    have e1 : args.map a.eval ++ cvs.toArray = (args.toList.map a.eval ++ cvs).toArray := by
      apply Array.ext'; simp
    unfold execOp
    simp only [ho, resolve, hfv, Deferred.ofValue, pure_bind, invoke]
    rw [← e1]
    congr 1
    simp
  · rename_i l xs hf' hargs
    exact absurd hf' (hny l)
  · rename_i x xs hf' hargs
    rw [hf'] at hf
    simp only [repX, rep] at hf
    split at h
    · rename_i fid r hbo
      obtain ⟨ys, hle, hcon⟩ := h
      have hav := hle.repT (argsA_rep (ev := a.eval) (fun x => hc.ev x) hargs)
      obtain ⟨b, off, hx, rfl⟩ : ∃ b off, x = .func (.func fid) #[.pointer (some ⟨b, off, none⟩)] #[] ∧ r = .ptr b off := by
        unfold boundOf at hbo
        split at hbo
        · rename_i f' first cap
          split at hbo
          · rename_i b off h1 h2
            cases hbo
            refine ⟨b, off, ?_, rfl⟩
            congr 1
            · apply Array.ext'; simpa using h1
            · apply Array.ext'; simpa using h2
          · cases hbo
        · cases hbo
      have hfv : a.eval f = .func (.func fid) #[.pointer (some ⟨b, off, none⟩)] #[] := hf.1.trans hx
      refine go fid (.pointer (some ⟨b, off, none⟩) :: args.toList.map a.eval) ?_ (hcon.run M w _ hc.gh hc.right (by simp only [repT]; exact ⟨_, _, rfl, by simp only [rep], hav⟩))
      unfold execOp
      simp only [ho, resolve, hfv, Deferred.ofValue, pure_bind, invoke]
      congr 1
      apply Array.ext'
      simp
    · exact h.elim
  · exact h.elim
theorem Oper_wpIn_exit {F : Fence} {n : Nat} {P : Program} {o : Oper} {a : Act} {w : World} {K K' : Act → World → Prop} {Q Q' : Exit → Act → World → Prop} (h : ∀ a w, K a w → K' a w) (hq : ∀ x a w, Q x a w → Q' x a w) (hh : o.wpIn F n P a w K Q) : o.wpIn F n P a w K' Q' := by
  unfold Oper.wpIn at *
  refine ⟨hh.1, ?_⟩
  have hh := hh.2
  generalize (o.semAt F.round a.eval).run P w = r at *
  cases r with
  | ok x w' =>
    cases x <;> simp only [Oper.uponIn] at hh ⊢ <;>
      first
        | exact h _ _ hh
        | exact ⟨hh.1, CallsIn.mono hh.2 (fun e w'' he => by cases e <;> first | exact h _ _ he | exact hq _ _ _ he | (obtain ⟨a', w', h'⟩ := he; exact ⟨a', w', hq _ _ _ h'⟩))⟩
        | exact ⟨hh.1, RowsIn.mono hh.2 (fun _ _ he => h _ _ he)⟩
        | exact ⟨hh.1, RoundIn.mono hh.2 (fun e w'' he => by cases e <;> first | exact h _ _ he | exact hq _ _ _ he | (obtain ⟨a', w', h'⟩ := he; exact ⟨a', w', hq _ _ _ h'⟩))⟩
  | halt x w' => cases x <;> simp only [Oper.uponIn] at hh ⊢; exact hq _ _ _ hh
theorem aop_sound {G : Pr} (hP : TabOk G.p tab) {esc : Nat → Bool} {R : Heap} (hR : ∀ p ∈ R, p ∈ s.H) {o : Oper} (hd : dstOk N o = true) {K : St → Prop} (h : aop G tab esc R o s K) (hc : ConcAt B N M lm s a w) {ρ : Option Nat} {n : Nat} :
    o.wpIn (Fr ρ) n G.p a w (fun a' w' => ∃ s', Conc B N s' a' w' ∧ K s') (PX G B N) := by
  by_cases hy : ∃ c f l, o.op = .call c ∧ c.callee = .value f ∧ s.e.ev f = .g (.fn (.yield l) [])
  · obtain ⟨⟨callee, args, ats⟩, f, l, ho, hcal, hf'⟩ := hy
    simp only at hcal
    subst hcal
    have hcall : callK G s o.dst (s.e.ev f) (args.toList.map s.e.ev) K := by
      unfold aop at h
      have hm : mobile tab esc o = false := by unfold mobile; rw [ho]; rfl
      rw [hm] at h
      simp only [cond_false, ho] at h
      exact h
    unfold callK at hcall
    rw [hf'] at hcall
    split at hcall
    · rename_i hx _
      cases hx
    · rename_i l' xs hx hargs
      cases hx
      obtain ⟨ys, hle, hcon⟩ := hcall
      have hf := hc.ev f
      rw [hf'] at hf
      simp only [repX, rep] at hf
      obtain ⟨cvs, hfv, hcaps⟩ := hf
      simp only [repT] at hcaps
      subst hcaps
      have hav := hle.repT (argsA_rep (ev := a.eval) (fun x => hc.ev x) hargs)
      obtain ⟨fn, tmps, as', bo, hrun, hR'⟩ := hcon (n - 1) M w _ hc.gh hc.right hav
      have hex : execOp a.eval o = Instr.yield l (args.toList.map a.eval).toArray := by
        unfold execOp
        simp only [ho, resolve, hfv, Deferred.ofValue, pure_bind, invoke]
        congr 1
        apply Array.ext'
        simp
      refine ⟨fun _ _ => trivial, ?_⟩
      rw [Oper.semAt_eq _ _ _ (by rw [ho]; intro c hc'; cases hc'), hex, hrun]
      refine ⟨fun hh => (by cases hh), ?_⟩
      refine RoundIn.mono (show RoundIn (Fr ρ) (n - 1) G.p l fn tmps as' bo w _ from hR') fun e w' ⟨v, he, M', r, H', e1, e2, e3, e4, e5⟩ => ?_
      subst he
      exact ⟨_, ⟨M', lm, hc.next e1 e2 e3 (dst_ok hd) (t := .g r) e4⟩, e5 ⟨M', v, e4⟩ e2.nodup⟩
    · rename_i hx _
      cases hx
    · exact hcall.elim
  by_cases hcl : ∃ c f, o.op = .call c ∧ c.callee = .value f
  · obtain ⟨⟨callee, args, ats⟩, f, ho, hcal⟩ := hcl
    simp only at hcal
    subst hcal
    have hcall : callK G s o.dst (s.e.ev f) (args.toList.map s.e.ev) K := by
      unfold aop at h
      have hm : mobile tab esc o = false := by unfold mobile; rw [ho]; rfl
      rw [hm] at h
      simp only [cond_false, ho] at h
      exact h
    exact call_sound hd ho (fun l h3 => hy ⟨_, f, l, ho, rfl, h3⟩) hcall hc
  by_cases hpn : ∃ x, o.op = .panic x
  · obtain ⟨x, ho⟩ := hpn
    unfold aop at h
    have hm : mobile tab esc o = false := by unfold mobile; rw [ho]; rfl
    rw [hm] at h
    simp only [cond_false, ho] at h
    have hx := hc.ev x
    split at h
    · rename_i t v hx'
      rw [hx'] at hx
      simp only [repX, rep] at hx
      refine ⟨fun _ _ => trivial, ?_⟩
      rw [Oper.semAt_eq _ _ _ (by rw [ho]; intro c hc'; cases hc')]
      have hr : (execOp a.eval o).run G.p w = .halt (.panic (.iface t v)) w := by
        unfold execOp
        simp only [ho, hx.1]
        rfl
      rw [hr]
      exact ⟨_, _, s, rfl, ⟨[], rfl, nofun⟩, ⟨M, lm, hc⟩, h⟩
    · exact h.elim
  refine Oper_wpIn_exit (fun _ _ h => h) (fun _ _ _ h => h.elim) (wpIn_of_wp (fun c hc' => ?_) (aop_sound0 hP hR hd (fun c f h1 h2 => hcl ⟨c, f, h1, h2⟩) (fun x hx => hpn ⟨x, hx⟩) h hc))
  have hm : mobile tab esc o = true := by unfold mobile; rw [hc']; rfl
  unfold aop at h
  rw [hm, hc'] at h
  exact h.elim
end
end Go.Proofs.YtahdkhklngjmoaaGreatDoor

/-
  The abstract machine: regions in the order of the text. No condition.
-/
namespace Go.Proofs.YtahdkhklngjmoaaGreatDoor
open Go.RowKit

/-- is an operation wanted? -/
def aG (ops : Array Oper) (o : Oper) (e : Env) (yes no : Prop) : Prop :=
  match o.guard with
  | none => yes
  | some (j, want) => match (ops[j]?).bind (·.dst) with
    | some d => match e.get d with
      | .undef => no
      | .g (.v (.bool q)) => match want with
        | true => ifB q yes no
        | false => ifB q no yes
      | _ => False
    | none => no

theorem wanted_of {M : Mem} {lm : Nat → Nat} {ops : Array Oper} {o : Oper} {e : Env} {a : Act} {yes no : Prop} (he : ∀ i, repX M lm (e.get i) (a.tmps.getD i undef)) (h : aG ops o e yes no) :
    (Region.wanted o (yielded ops a.tmps) = true ∧ yes) ∨ (Region.wanted o (yielded ops a.tmps) = false ∧ no) := by
  unfold aG at h
  unfold Region.wanted
  split at h
  · rename_i hg; rw [hg]; exact Or.inl ⟨rfl, h⟩
  · rename_i j want hg
    rw [hg]
    simp only
    split at h
    · rename_i d hd
      have hed := he d
      split at h
      · rename_i ht
        rw [ht] at hed
        right
        refine ⟨?_, h⟩
        have hy : yielded ops a.tmps j = none := by
          unfold yielded
          rw [hd]
          simp only [repX] at hed
          rcases Nat.lt_or_ge d a.tmps.size with hlt | hge
          · have h2 : a.tmps[d] = undef := by simpa [hlt] using hed
            simp [hlt, h2, undef]
          · simp [Array.getElem?_eq_none hge]
        rw [hy]; rfl
      · rename_i q ht
        rw [ht] at hed
        simp only [repX, rep] at hed
        have hlt : d < a.tmps.size := by
          rcases Nat.lt_or_ge d a.tmps.size with hlt | hge
          · exact hlt
          · have := hed.1
            simp [Array.getElem?_eq_none hge, undef] at this
        have hy : yielded ops a.tmps j = some q := by
          unfold yielded
          rw [hd]
          have h2 : a.tmps[d] = .bool q := by simpa [hlt] using hed.1
          simp [hlt, h2]
        rw [hy]
        cases want <;> cases q <;> simp only [ifB] at h <;> simp [h]
      · exact h.elim
    · rename_i hd
      right
      refine ⟨?_, h⟩
      have hy : yielded ops a.tmps j = none := by unfold yielded; rw [hd]; rfl
      rw [hy]; rfl

/-- a region in the order of the text -/
def aText (P : Pr) (tab : Tab) (esc : Nat → Bool) (ops : Array Oper) : List Oper → St → (St → Prop) → Prop
  | [], s, K => K s
  | o :: r, s, K => aG ops o s.e (aop P tab esc s.H o s fun s' => aText P tab esc ops r s' K) (aText P tab esc ops r (s.put o.dst .undef) K)

section
variable {P : Pr} {tab : Tab} {B : Base} {N : Nat} {esc : Nat → Bool}

theorem Conc.skip {s : St} {a : Act} {w : World} (hc : Conc B N s a w) {o : Oper} (hd : dstOk N o = true) : Conc B N (s.put o.dst .undef) (a.put o.dst undef) w := by
  obtain ⟨M, lm, hc⟩ := hc
  obtain ⟨p1, p2, p3⟩ := env_put (fun i => hc.env i) hc.size (dst_ok hd) (t := .undef) (u := undef) rfl
  exact ⟨M, lm, hc.evo, hc.keys, hc.inv, p2, by rw [p3]; exact hc.defers, p1⟩
theorem Conc.drew {s : St} {a : Act} {w : World} (hc : Conc B N s a w) : Conc B N s a w.drew := by
  obtain ⟨M, lm, hc⟩ := hc
  exact ⟨M, lm, hc.evo.drew, hc.keys, hc.inv.drew, hc.size, hc.defers, hc.env⟩

theorem text_sound {ρ : Option Nat} {n : Nat} (hP : TabOk P tab) {ops : Array Oper} {Q : Exit → Act → World → Prop} {K : St → Prop} (hQ : ∀ s a w, Conc B N s a w → K s → Q .normal a w) (hX : ∀ x a w, PX P B N x a w → Q x a w) : ∀ (l : List Oper) (k : Nat) (s : St) (a : Act) (w : World), (∀ j, l[j]? = ops[k + j]?) → (∀ o ∈ l, dstOk N o = true) →
    aText P tab esc ops l s K → Conc B N s a w → wpOpsIn (Fr ρ) n P ops Q (List.range' k l.length) a w
  | [], k, s, a, w, _, _, h, hc => hQ s a w hc h
  | o :: r, k, s, a, w, hl, hd, h, hc => by
    have h0 : ops[k]? = some o := by simpa using (hl 0).symm
    have hdo := hd o (by simp)
    have next : ∀ s' a' w', Conc B N s' a' w' → aText P tab esc ops r s' K → wpOpsIn (Fr ρ) n P ops Q (List.range' (k + 1) r.length) a' w' := fun s' a' w' hc' h' =>
      text_sound hP hQ hX r (k + 1) s' a' w' (fun j => by have := hl (j + 1); simpa [Nat.add_assoc, Nat.add_comm 1 j] using this) (fun x hx => hd x (by simp [hx])) h' hc'
    simp only [List.length_cons, List.range'_succ, wpOpsIn, h0]
    simp only [aText] at h
    have hc' := hc
    obtain ⟨M, lm, hca⟩ := hc
    rcases wanted_of hca.env h with ⟨hw, h⟩ | ⟨hw, h⟩
    · rw [if_pos hw]
      exact Oper_wpIn_exit (fun a' w' ⟨s', h1, h2⟩ => next s' a' w' h1 h2) hX (aop_sound hP (fun p hp => hp) hdo h hca)
    · rw [if_neg (by rw [hw]; simp)]
      exact ⟨fun _ _ => trivial, next _ _ _ (hc'.skip hdo) h⟩
end
end Go.Proofs.YtahdkhklngjmoaaGreatDoor

/-
  The abstract machine: what an operation hangs on. No condition.
-/
namespace Go.Proofs.YtahdkhklngjmoaaGreatDoor
open Go.RowKit

def isLoad : Op → Bool
  | .load .. => true
  | _ => false
def isStore : Op → Bool
  | .store .. => true
  | _ => false

section
variable {tab : Tab} {ρ ρ' : Operand → T} {L L' : Loc} {R : Heap}

theorem hiR_congr {n : Nat} {hi : Option Operand} {f : Nat → Nat → Rs} {l : Nat} (h : ∀ x ∈ hi.toList, ρ x = ρ' x) : hiR ρ n hi f l = hiR ρ' n hi f l := by
  cases hi with
  | none => rfl
  | some y => unfold hiR; simp only; rw [h y (by simp)]
theorem cutR_congr {n : Nat} {lo hi : Option Operand} {f : Nat → Nat → Rs} (h1 : ∀ x ∈ lo.toList, ρ x = ρ' x) (h2 : ∀ x ∈ hi.toList, ρ x = ρ' x) : cutR ρ n lo hi f = cutR ρ' n lo hi f := by
  unfold cutR
  have e : hiR ρ n hi f = hiR ρ' n hi f := funext fun l => hiR_congr h2
  cases lo with
  | none => rw [e]
  | some y => simp only; rw [h1 y (by simp), e]
theorem fillA_congr {fs : List (Nat × Nat × TypeId)} : ∀ {parts : List (Nat × Operand)} {cs : List AV}, (∀ p ∈ parts, ρ p.2 = ρ' p.2) → fillA ρ fs parts cs = fillA ρ' fs parts cs
  | [], _, _ => rfl
  | (i, x) :: r, cs, h => by
    have e : ρ x = ρ' x := h (i, x) (by simp)
    have ih : ∀ cs, fillA ρ fs r cs = fillA ρ' fs r cs := fun cs => fillA_congr fun p hp => h p (by simp [hp])
    unfold fillA
    rw [e]
    split
    · rw [ih]
    · rfl
theorem elemsA_congr {size : Nat} : ∀ {parts : List (Nat × Operand)} {k : Nat}, (∀ p ∈ parts, ρ p.2 = ρ' p.2) → elemsA ρ size parts k = elemsA ρ' size parts k
  | [], _, _ => rfl
  | (i, x) :: r, k, h => by
    have e : ρ x = ρ' x := h (i, x) (by simp)
    have ih : elemsA ρ size r (k + 1) = elemsA ρ' size r (k + 1) := elemsA_congr fun p hp => h p (by simp [hp])
    unfold elemsA
    rw [e, ih]
theorem map_congr' {l : List Operand} (h : ∀ x ∈ l, ρ x = ρ' x) : l.map ρ = l.map ρ' := List.map_congr_left h

theorem ares_congr {o : Op} (h : ∀ x ∈ o.operands, ρ x = ρ' x) : ares tab o ρ L R = ares tab o ρ' L R := by
  cases o <;> simp only [Op.operands, List.mem_toArray, Array.mem_append, List.mem_cons, List.not_mem_nil, or_false, forall_eq_or_imp, forall_eq] at h <;> try rfl
  case move x => simp only [ares, h]
  case assign x => simp only [ares, h]
  case pick c a b => simp only [ares, h]
  case nilCheck x => simp only [ares, h]
  case load t x => simp only [ares, h]
  case binOp op t x y yt => simp only [ares, h]
  case unOp op t x => simp only [ares, h]
  case convert s d x => simp only [ares, h]
  case fieldAddr s x f => simp only [ares, h]
  case field s x f => simp only [ares, h]
  case indexAddr t x i => simp only [ares, h]
  case index t x i => simp only [ares, h]
  case extract x k => simp only [ares, h]
  case makeInterface t x => simp only [ares, h]
  case typeAssert x t t' ok => simp only [ares, h]
  case makeFunc fn first captured =>
    have e : captured.toList.map ρ = captured.toList.map ρ' := map_congr' fun x hx => h x (Or.inr (by simpa using hx))
    have e2 : first.toList.map ρ = first.toList.map ρ' := map_congr' fun x hx => h x (Or.inl (by simpa using hx))
    simp only [ares, e, e2]
  case slice t x lo hi mx =>
    have hx : ρ x = ρ' x := h x (by simp)
    have hlo : ∀ y ∈ lo.toList, ρ y = ρ' y := fun y hy => h y (by
      have : lo = some y := by simpa using hy
      simp [this])
    have hhi : ∀ y ∈ hi.toList, ρ y = ρ' y := fun y hy => h y (by
      have : hi = some y := by simpa using hy
      simp [this])
    have e1 : ∀ n f, cutR ρ n lo hi f = cutR ρ' n lo hi f := fun n f => cutR_congr hlo hhi
    cases mx with
    | none => simp only [ares, hx, e1]
    | some y =>
      have hy : ρ y = ρ' y := h y (by simp)
      simp only [ares, hx, e1, hy]
  case build t parts =>
    have e : ∀ fs cs, fillA ρ fs parts.toList cs = fillA ρ' fs parts.toList cs := fun fs cs => fillA_congr fun p hp => h p.2 (by
      simp only [List.mem_map]
      exact ⟨p, by simpa using hp, rfl⟩)
    have e2 : ∀ s, elemsA ρ s parts.toList 0 = elemsA ρ' s parts.toList 0 := fun s => elemsA_congr fun p hp => h p.2 (by
      simp only [List.mem_map]
      exact ⟨p, by simpa using hp, rfl⟩)
    simp only [ares, e, e2]
  case buildSlice t len parts =>
    have e : ∀ s, elemsA ρ s parts.toList 0 = elemsA ρ' s parts.toList 0 := fun s => elemsA_congr fun p hp => h p.2 (by
      simp only [List.mem_map]
      exact ⟨p, by simpa using hp, rfl⟩)
    simp only [ares, e]
  case call c =>
    have e : c.args.toList.map ρ = c.args.toList.map ρ' := map_congr' fun x hx => h x (by
      simp only [Call.operands, Array.mem_append]
      exact Or.inr (by simpa using hx))
    simp only [ares, e]

theorem ares_noload {o : Op} (h : isLoad o = false) : ares tab o ρ L R = ares tab o ρ L' R := by
  cases o <;> first | rfl | cases h
end

/-- the same frame, but for the order in which slots were written -/
def Env.Eqv (e e' : Env) : Prop := e.Perm e' ∧ ∀ i, e.get i = e'.get i
theorem Env.Eqv.refl (e : Env) : e.Eqv e := ⟨List.Perm.refl _, fun _ => rfl⟩
theorem Env.Eqv.ev {e e' : Env} (h : e.Eqv e') (x : Operand) : e.ev x = e'.ev x := by
  cases x <;> first | rfl | exact h.2 _
theorem Env.free_iff {e : Env} {d : Nat} : e.free d = true ↔ ∀ p ∈ e, ∀ off, p.2 ≠ .lp d off := by
  induction e with
  | nil => simp [Env.free]
  | cons p r ih =>
    obtain ⟨k, t⟩ := p
    cases t with
    | lp k' off' =>
      simp only [Env.free]
      cases hb : Nat.beq k' d with
      | true =>
        have := beq_true hb
        subst this
        simp
      | false =>
        simp only [cond_false, ih, List.mem_cons, forall_eq_or_imp]
        constructor
        · refine fun h => ⟨fun off e => ?_, h⟩
          cases e
          rw [Nat.beq_refl] at hb; cases hb
        · exact fun h => h.2
    | g x => simp [Env.free, ih]
    | undef => simp [Env.free, ih]
    | junk => simp [Env.free, ih]
theorem Env.Eqv.free {e e' : Env} (h : e.Eqv e') (d : Nat) : e.free d = e'.free d := by
  rw [Bool.eq_iff_iff, Env.free_iff, Env.free_iff]
  exact ⟨fun k p hp => k p (h.1.mem_iff.2 hp), fun k p hp => k p (h.1.mem_iff.1 hp)⟩

section
variable {P : Pr} {tab : Tab} {esc : Nat → Bool} {R : Heap}
/-- an operation hangs on its operands alone (and on what sites are in use) -/
theorem aop_map {o : Oper} {e e' : Env} {L : Loc} {H : Heap} {K K' : St → Prop} (hops : ∀ x ∈ o.op.operands, e.ev x = e'.ev x) (hfree : ∀ d, o.dst = some d → e.free d = true → e'.free d = true) (hlow : e.low P.lo = e'.low P.lo)
    (hK : ∀ t L' H', (∀ k cs, (L.get k) = some cs → isStore o.op = false → L'.get k = some cs) → (mobile tab esc o = true → H' = H) → K ⟨e.put o.dst t, L', H'⟩ → K' ⟨e'.put o.dst t, L', H'⟩) (h : aop P tab esc R o ⟨e, L, H⟩ K) : aop P tab esc R o ⟨e', L, H⟩ K' := by
  unfold aop at h ⊢
  cases hm : mobile tab esc o with
  | true =>
    rw [hm] at h
    simp only [cond_true] at h ⊢
    rw [← ares_congr (ρ := e.ev) (ρ' := e'.ev) hops]
    exact Rs.mono (fun t ht => by rw [nowK_eq] at ht ⊢; exact hK _ _ _ (fun _ _ h _ => h) (fun _ => rfl) ht) h
  | false =>
    rw [hm] at h
    have sameL : ∀ {t : T} {H' : Heap}, K ⟨e.put o.dst t, L, H'⟩ → K' ⟨e'.put o.dst t, L, H'⟩ := fun h => hK _ _ _ (fun _ _ h _ => h) (fun h => (by simp [hm] at h)) h
    simp only [cond_false] at h ⊢
    cases hmp : mapOp tab o.op with
    | true =>
      rw [hmp] at h
      simp only [cond_true] at h ⊢
      exact mapK_mono hops (fun x H' k => sameL k) h
    | false =>
    rw [hmp] at h
    simp only [cond_false] at h ⊢
    have var : ∀ {cs : List AV}, newVarK esc ⟨e, L, H⟩ o.dst cs K → newVarK esc ⟨e', L, H⟩ o.dst cs K' := by
      intro cs h
      unfold newVarK at h ⊢
      cases hd : o.dst with
      | none => rw [hd] at h; exact h
      | some d =>
        rw [hd] at h
        simp only at h ⊢
        cases he : esc d with
        | true =>
          rw [he] at h
          intro b hb
          have := hK (.g (.ptr b 0)) L ((b, .cells cs) :: H) (fun _ _ h _ => h) (fun h => (by simp [hm] at h))
          rw [hd] at this
          exact this (h b hb)
        | false =>
          rw [he] at h
          simp only [cond_false] at h ⊢
          cases hf : (e.free d && (L.get d).isNone) with
          | false => rw [hf] at h; exact h.elim
          | true =>
            rw [hf] at h
            rw [Bool.and_eq_true] at hf
            rw [hfree d hd hf.1, hf.2]
            simp only [Bool.and_self, cond_true] at h ⊢
            have := hK (.lp d 0) ((d, cs) :: L) H (fun k cs' hk _ => by
              simp only [Loc.get]
              cases hb : Nat.beq d k with
              | true =>
                have := beq_true hb
                subst this
                rw [hk] at hf; cases hf.2
              | false => exact hk) (fun h => (by simp [hm] at h))
            rw [hd] at this
            exact this h
    split at h
    · rename_i T0 x ho
      rw [ho] at hops
      have hx : e.ev x = e'.ev x := hops x (by simp [Op.operands])
      try simp only [ho]
      rw [hx] at h
      split at h
      · rename_i g hg
        try rw [hg]
        try simp only
        cases hn : noTup g with
        | false => rw [hn] at h; exact h.elim
        | true => rw [hn] at h; exact var h
      · exact h.elim
    · rename_i t ho
      try simp only [ho]
      split at h
      · rename_i i hi
        try simp only
        cases hn : litOk i.zero with
        | false => rw [hn] at h; exact h.elim
        | true => rw [hn] at h; exact var h
      · exact h.elim
    · rename_i t ad x ho
      try simp only [ho]
      rw [ho] at hops
      have hx : e.ev x = e'.ev x := hops x (by simp [Op.operands])
      have hA : e.ev ad = e'.ev ad := hops ad (by simp [Op.operands])
      try simp only at h
      rw [← hx, ← hA]
      have st : isStore o.op = true := by rw [ho]; rfl
      unfold storeK at h ⊢
      split at h
      · rename_i g i hx' hi
        cases hb : (noTup g && Nat.beq g.cells.length i.size) with
        | false => rw [hb] at h; exact h.elim
        | true =>
          rw [hb] at h
          simp only [cond_true] at h ⊢
          try rw [hb]
          try simp only [cond_true]
          split at h
          · rename_i k off hA'
            try simp only at h ⊢
            split at h
            · rename_i cs hk
              cases hle : Nat.ble (off + i.size) cs.length with
              | false => rw [hle] at h; exact h.elim
              | true =>
                rw [hle] at h
                try simp only [hk] at h ⊢
                simp only [cond_true] at h ⊢
                exact hK _ _ _ (fun _ _ _ hs => by rw [st] at hs; cases hs) (fun h => (by simp [hm] at h)) h
            · exact h.elim
          · rename_i b off hA'
            obtain ⟨cs, H', h1, h2, h3⟩ := h
            exact ⟨cs, H', h1, h2, sameL h3⟩
          · exact h.elim
      · exact h.elim
    · rename_i op t x y yt ho
      try simp only [ho]
      rw [ho] at hops
      have hx : e.ev x = e'.ev x := hops x (by simp [Op.operands])
      try simp only at h
      rw [← hx]
      split at h
      · rename_i ow wd xs el hx' hk
        try simp only [hx', hk]
        cases xs with
        | nil => exact fun q => Rs.mono (fun t ht => sameL ht) (h q)
        | cons _ _ => exact Rs.mono (fun t ht => sameL ht) h
      · rename_i ad n cap el hx' hk
        try simp only [hx', hk]
        exact Rs.mono (fun t ht => sameL ht) h
      · exact h.elim
    · rename_i src dst x ho
      try simp only [ho]
      rw [ho] at hops
      have hx : e.ev x = e'.ev x := hops x (by simp [Op.operands])
      try simp only at h
      rw [← hx]
      split at h
      · rename_i l hdk hx'
        try simp only [hdk, hx']
        exact sameL h
      · rename_i el l hdk hx'
        try simp only [hdk, hx']
        split at h
        · rename_i ie hek hie
          try simp only [hek, hie]
          cases hb : Nat.beq ie.size 1 with
          | false => rw [hb] at h; exact h.elim
          | true =>
            rw [hb] at h
            exact fun c hc => sameL (h c hc)
        · exact h.elim
      · exact h.elim
    · rename_i c ho
      rw [ho] at hops
      have hargs : c.args.toList.map e.ev = c.args.toList.map e'.ev := map_congr' fun x hx => hops x (by
        simp only [Op.operands, Call.operands, Array.mem_append]
        exact Or.inr (by simpa using hx))
      try simp only [ho]
      try simp only at h
      rw [← hargs]
      split at h
      · rename_i l f hcal
        have hf : e.ev f = e'.ev f := hops f (by simp [Op.operands, Call.operands, hcal])
        try simp only [hcal]
        rw [← hf]
        unfold callK at h ⊢
        split at h
        · rename_i fid caps xs hf' hxs
          obtain ⟨ys, h1, h2⟩ := h
          exact ⟨ys, h1, (h2.low hlow).mono fun r H' k hr hn => sameL (k hr hn)⟩
        · rename_i l0 xs hf' hxs
          obtain ⟨ys, h1, h2⟩ := h
          exact ⟨ys, h1, h2.mono fun r H' k hr hn => sameL (k hr hn)⟩
        · split at h
          · try dsimp only
            obtain ⟨ys, h1, h2⟩ := h
            exact ⟨ys, h1, (h2.low hlow).mono fun r H' k hr hn => sameL (k hr hn)⟩
          · exact h.elim
        · exact h.elim
      · rename_i ow wd xs y hcal hl
        try simp only [hcal, hl]
        split at h
        · rename_i t0 t1 ha0 ha1
          try simp only [ha0, ha1]
          split at h
          · rename_i el hk
            try simp only [hk]
            split at h
            · rename_i ie hie
              try simp only [hie]
              cases hb : (wOk wd ie.size && !Nat.beq ie.size 0 && Nat.beq ie.zero.cells.size ie.size) with
              | false => rw [hb] at h; exact h.elim
              | true =>
                rw [hb] at h
                simp only [cond_true] at h ⊢
                split at h
                · rename_i ys hys
                  try simp only [hys]
                  cases he : hsite esc o.dst with
                  | true =>
                    rw [he] at h
                    simp only [cond_true] at h ⊢
                    cases hzl : litOk ie.zero with
                    | false => rw [hzl] at h; exact h.elim
                    | true =>
                      rw [hzl] at h
                      cases ys with
                      | nil => exact sameL h
                      | cons y0 ys0 =>
                        obtain ⟨g1, g2, g3, g4⟩ := h
                        exact ⟨g1, g2, g3, fun b cap rest k1 k2 k3 k4 => sameL (g4 b cap rest k1 k2 k3 k4)⟩
                  | false =>
                  rw [he] at h
                  simp only [cond_false] at h ⊢
                  refine ⟨h.1, ?_⟩
                  have h2 := h.2
                  cases ys with
                  | nil => exact sameL h2
                  | cons y0 ys0 =>
                    cases ow with
                    | no => exact h2
                    | full => exact fun c hc => sameL (h2 c hc)
                    | own c0 =>
                      have h3 : (bif Nat.beq wd ie.size then _ else False) := h2
                      show (bif Nat.beq wd ie.size then _ else False)
                      cases hw : Nat.beq wd ie.size with
                      | false => rw [hw] at h3; exact h3.elim
                      | true =>
                        rw [hw] at h3
                        obtain ⟨H0, h4, h5⟩ := h3
                        exact ⟨H0, h4, fun c hc => sameL (h5 c hc)⟩
                · exact h.elim
            · exact h.elim
          · exact h.elim
        · exact h.elim
      · rename_i b n cap y hcal hl
        try simp only [hcal, hl]
        split at h
        · rename_i t0 t1 ha0 ha1
          try simp only [ha0, ha1]
          split at h
          · rename_i el hk
            try simp only [hk]
            split at h
            · rename_i ie hie
              try simp only [hie]
              cases hb : (!Nat.beq ie.size 0 && Nat.beq ie.zero.cells.size ie.size && litOk ie.zero) with
              | false => rw [hb] at h; exact h.elim
              | true =>
                rw [hb] at h
                simp only [cond_true] at h ⊢
                split at h
                · rename_i ys hys
                  try simp only [hys]
                  cases ys with
                  | nil => exact ⟨h.1, sameL h.2⟩
                  | cons y0 ys0 =>
                    obtain ⟨g1, g2, cs, H0, g3, g4, g5, g6, g7⟩ := h
                    exact ⟨g1, g2, cs, H0, g3, g4, g5, g6, fun b' cap' rest k1 k2 k3 k4 => sameL (g7 b' cap' rest k1 k2 k3 k4)⟩
                · exact h.elim
            · exact h.elim
          · exact h.elim
        · exact h.elim
      · exact h.elim
    · rename_i x ho
      rw [ho] at hops
      have hx : e.ev x = e'.ev x := hops x (by simp [Op.operands])
      try simp only [ho]
      rw [← hx]
      split at h
      · rename_i t v hv
        try simp only [hv]
        unfold PR at h ⊢
        rw [← hlow]
        exact h
      · exact h.elim
    · exact h.elim
/-- the same local variables, in another order -/
def Loc.Eqv (L L' : Loc) : Prop := L.Perm L' ∧ ∀ k, L.get k = L'.get k
theorem Loc.Eqv.refl (L : Loc) : L.Eqv L := ⟨List.Perm.refl _, fun _ => rfl⟩
theorem Loc.Eqv.symm {L L' : Loc} (h : L.Eqv L') : L'.Eqv L := ⟨h.1.symm, fun k => (h.2 k).symm⟩
theorem Loc.Eqv.trans {A B C : Loc} (h : A.Eqv B) (k : B.Eqv C) : A.Eqv C := ⟨h.1.trans k.1, fun i => (h.2 i).trans (k.2 i)⟩
theorem Loc.Eqv.cons {L L' : Loc} (h : L.Eqv L') (p : Nat × List AV) : Loc.Eqv (p :: L) (p :: L') := ⟨h.1.cons p, fun k => by
  obtain ⟨j, x⟩ := p
  simp only [Loc.get, h.2 k]⟩
theorem Loc.eqv_swap {k k' : Nat} (x y : List AV) (L : Loc) (h : k ≠ k') : Loc.Eqv ((k, x) :: (k', y) :: L) ((k', y) :: (k, x) :: L) := ⟨List.Perm.swap _ _ _, fun i => by
  simp only [Loc.get]
  cases h1 : Nat.beq k i with
  | false => rfl
  | true =>
    cases h2 : Nat.beq k' i with
    | false => rfl
    | true => exact absurd ((Nat.eq_of_beq_eq_true h1).trans (Nat.eq_of_beq_eq_true h2).symm) h⟩
theorem Loc.set_perm : ∀ {L : Loc} {k : Nat} {x : List AV}, L.get k = some x → ∃ R : Loc, L.Perm ((k, x) :: R) ∧ ∀ y, (L.set k y).Perm ((k, y) :: R)
  | [], k, x, h => by cases h
  | (j, z) :: r, k, x, h => by
    simp only [Loc.get] at h
    cases hb : Nat.beq j k with
    | true =>
      rw [hb] at h
      have hj := Nat.eq_of_beq_eq_true hb
      subst hj
      cases h
      exact ⟨r, List.Perm.refl _, fun y => by simp only [Loc.set, hb]; exact List.Perm.refl _⟩
    | false =>
      rw [hb] at h
      obtain ⟨R, h1, h2⟩ := Loc.set_perm (L := r) h
      refine ⟨(j, z) :: R, (h1.cons _).trans (List.Perm.swap _ _ _), fun y => ?_⟩
      simp only [Loc.set, hb]
      exact ((h2 y).cons _).trans (List.Perm.swap _ _ _)
theorem Loc.set_get : ∀ {L : Loc} {k : Nat} {y : List AV} (i : Nat), (L.set k y).get i = bif (Nat.beq k i && (L.get k).isSome) then some y else L.get i
  | [], k, y, i => by simp [Loc.set, Loc.get]
  | (j, z) :: r, k, y, i => by
    have ih := Loc.set_get (L := r) (k := k) (y := y) i
    simp only [Loc.set, Loc.get]
    cases hb : Nat.beq j k with
    | true =>
      have hj := Nat.eq_of_beq_eq_true hb
      subst hj
      simp only [cond_true, Loc.get, Option.isSome_some, Bool.and_true]
      cases Nat.beq j i <;> rfl
    | false =>
      simp only [cond_false, Loc.get, ih]
      cases hi : Nat.beq j i with
      | true =>
        have hji := Nat.eq_of_beq_eq_true hi
        subst hji
        have : Nat.beq k j = false := by
          cases hc : Nat.beq k j with
          | false => rfl
          | true => have := Nat.eq_of_beq_eq_true hc; rw [this, Nat.beq_refl] at hb; cases hb
        rw [this]
        rfl
      | false => rfl
theorem Loc.set_miss : ∀ {L : Loc} {k : Nat} (y : List AV), L.get k = none → L.set k y = L
  | [], _, _, _ => rfl
  | (j, z) :: r, k, y, h => by
    simp only [Loc.get] at h
    cases hb : Nat.beq j k with
    | true => rw [hb] at h; cases h
    | false =>
      rw [hb] at h
      simp only [Loc.set, hb, cond_false]
      rw [Loc.set_miss y h]
theorem Loc.Eqv.set {L L' : Loc} (h : L.Eqv L') (k : Nat) (y : List AV) : (L.set k y).Eqv (L'.set k y) := by
  refine ⟨?_, fun i => by rw [Loc.set_get, Loc.set_get, h.2 k, h.2 i]⟩
  cases hk : L.get k with
  | none => rw [Loc.set_miss y hk, Loc.set_miss y (by rw [← h.2]; exact hk)]; exact h.1
  | some x =>
    obtain ⟨R, h1, h2⟩ := Loc.set_perm hk
    obtain ⟨R', h3, h4⟩ := Loc.set_perm (show L'.get k = some x by rw [← h.2]; exact hk)
    have hR : R.Perm R' := (h1.symm.trans (h.1.trans h3)).cons_inv
    exact (h2 y).trans ((hR.cons _).trans (h4 y).symm)
theorem ares_Leq {o : Op} {ρ : Operand → T} {L L2 : Loc} (h : L.Eqv L2) : ares tab o ρ L R = ares tab o ρ L2 R := by
  cases o <;> first | rfl | skip
  rename_i t a
  simp only [ares]
  unfold readR
  split <;> first | rfl | (rw [h.2])
/-- an operation hangs on the local variables, not on their order -/
theorem aop_eqv {o : Oper} {e : Env} {L L2 : Loc} {H : Heap} {K K' : St → Prop} (hL : L.Eqv L2)
    (hK : ∀ t L' L2' H', Loc.Eqv L' L2' → K ⟨e.put o.dst t, L', H'⟩ → K' ⟨e.put o.dst t, L2', H'⟩) (h : aop P tab esc R o ⟨e, L, H⟩ K) : aop P tab esc R o ⟨e, L2, H⟩ K' := by
  unfold aop at h ⊢
  cases hm : mobile tab esc o with
  | true =>
    rw [hm] at h
    simp only [cond_true] at h ⊢
    rw [← ares_Leq hL]
    exact Rs.mono (fun t ht => by rw [nowK_eq] at ht ⊢; exact hK _ _ _ _ hL ht) h
  | false =>
    rw [hm] at h
    have sameL : ∀ {t : T} {H' : Heap}, K ⟨e.put o.dst t, L, H'⟩ → K' ⟨e.put o.dst t, L2, H'⟩ := fun h => hK _ _ _ _ hL h
    simp only [cond_false] at h ⊢
    cases hmp : mapOp tab o.op with
    | true =>
      rw [hmp] at h
      simp only [cond_true] at h ⊢
      exact mapK_mono (fun _ _ => rfl) (fun x H' k => sameL k) h
    | false =>
    rw [hmp] at h
    simp only [cond_false] at h ⊢
    have var : ∀ {cs : List AV}, newVarK esc ⟨e, L, H⟩ o.dst cs K → newVarK esc ⟨e, L2, H⟩ o.dst cs K' := by
      intro cs h
      unfold newVarK at h ⊢
      cases hd : o.dst with
      | none => rw [hd] at h; exact h
      | some d =>
        rw [hd] at h
        simp only at h ⊢
        cases he : esc d with
        | true =>
          rw [he] at h
          intro b hb
          have := hK (.g (.ptr b 0)) L L2 ((b, .cells cs) :: H) hL
          rw [hd] at this
          exact this (h b hb)
        | false =>
          rw [he] at h
          simp only [cond_false] at h ⊢
          cases hf : (e.free d && (L.get d).isNone) with
          | false => rw [hf] at h; exact h.elim
          | true =>
            rw [hf] at h
            rw [← hL.2 d, hf]
            simp only [cond_true] at h ⊢
            have := hK (.lp d 0) ((d, cs) :: L) ((d, cs) :: L2) H (hL.cons _)
            rw [hd] at this
            exact this h
    split at h
    · rename_i T0 x ho
      try simp only [ho]
      split at h
      · rename_i g hg
        try rw [hg]
        try simp only
        cases hn : noTup g with
        | false => rw [hn] at h; exact h.elim
        | true => rw [hn] at h; exact var h
      · exact h.elim
    · rename_i t ho
      try simp only [ho]
      split at h
      · rename_i i hi
        try simp only
        cases hn : litOk i.zero with
        | false => rw [hn] at h; exact h.elim
        | true => rw [hn] at h; exact var h
      · exact h.elim
    · rename_i t ad x ho
      try simp only [ho]
      try simp only at h
      unfold storeK at h ⊢
      split at h
      · rename_i g i hx' hi
        cases hb : (noTup g && Nat.beq g.cells.length i.size) with
        | false => rw [hb] at h; exact h.elim
        | true =>
          rw [hb] at h
          simp only [cond_true] at h ⊢
          try rw [hb]
          try simp only [cond_true]
          split at h
          · rename_i k off hA'
            try simp only at h ⊢
            split at h
            · rename_i cs hk
              have hk2 : L2.get k = some cs := by rw [← hL.2]; exact hk
              cases hle : Nat.ble (off + i.size) cs.length with
              | false => rw [hle] at h; exact h.elim
              | true =>
                rw [hle] at h
                simp only [hk2, hle]
                simp only [cond_true] at h ⊢
                exact hK _ _ _ _ (hL.set k _) h
            · exact h.elim
          · rename_i b off hA'
            obtain ⟨cs, H', h1, h2, h3⟩ := h
            exact ⟨cs, H', h1, h2, sameL h3⟩
          · exact h.elim
      · exact h.elim
    · rename_i op t x y yt ho
      try simp only [ho]
      try simp only at h
      split at h
      · rename_i ow wd xs el hx' hk
        try simp only [hx', hk]
        cases xs with
        | nil => exact fun q => Rs.mono (fun t ht => sameL ht) (h q)
        | cons _ _ => exact Rs.mono (fun t ht => sameL ht) h
      · rename_i ad n cap el hx' hk
        try simp only [hx', hk]
        exact Rs.mono (fun t ht => sameL ht) h
      · exact h.elim
    · rename_i src dst x ho
      try simp only [ho]
      try simp only at h
      split at h
      · rename_i l hdk hx'
        try simp only [hdk, hx']
        exact sameL h
      · rename_i el l hdk hx'
        try simp only [hdk, hx']
        split at h
        · rename_i ie hek hie
          try simp only [hek, hie]
          cases hb : Nat.beq ie.size 1 with
          | false => rw [hb] at h; exact h.elim
          | true =>
            rw [hb] at h
            exact fun c hc => sameL (h c hc)
        · exact h.elim
      · exact h.elim
    · rename_i c ho
      try simp only [ho]
      try simp only at h
      split at h
      · rename_i l f hcal
        try simp only [hcal]
        unfold callK at h ⊢
        split at h
        · rename_i fid caps xs hf' hxs
          obtain ⟨ys, h1, h2⟩ := h
          exact ⟨ys, h1, h2.mono fun r H' k hr hn => sameL (k hr hn)⟩
        · rename_i l0 xs hf' hxs
          obtain ⟨ys, h1, h2⟩ := h
          exact ⟨ys, h1, h2.mono fun r H' k hr hn => sameL (k hr hn)⟩
        · split at h
          · try dsimp only
            obtain ⟨ys, h1, h2⟩ := h
            exact ⟨ys, h1, h2.mono fun r H' k hr hn => sameL (k hr hn)⟩
          · exact h.elim
        · exact h.elim
      · rename_i ow wd xs y hcal hl
        try simp only [hcal, hl]
        split at h
        · rename_i t0 t1 ha0 ha1
          try simp only [ha0, ha1]
          split at h
          · rename_i el hk
            try simp only [hk]
            split at h
            · rename_i ie hie
              try simp only [hie]
              cases hb : (wOk wd ie.size && !Nat.beq ie.size 0 && Nat.beq ie.zero.cells.size ie.size) with
              | false => rw [hb] at h; exact h.elim
              | true =>
                rw [hb] at h
                simp only [cond_true] at h ⊢
                split at h
                · rename_i ys hys
                  try simp only [hys]
                  cases he : hsite esc o.dst with
                  | true =>
                    rw [he] at h
                    simp only [cond_true] at h ⊢
                    cases hzl : litOk ie.zero with
                    | false => rw [hzl] at h; exact h.elim
                    | true =>
                      rw [hzl] at h
                      cases ys with
                      | nil => exact sameL h
                      | cons y0 ys0 =>
                        obtain ⟨g1, g2, g3, g4⟩ := h
                        exact ⟨g1, g2, g3, fun b cap rest k1 k2 k3 k4 => sameL (g4 b cap rest k1 k2 k3 k4)⟩
                  | false =>
                  rw [he] at h
                  simp only [cond_false] at h ⊢
                  refine ⟨h.1, ?_⟩
                  have h2 := h.2
                  cases ys with
                  | nil => exact sameL h2
                  | cons y0 ys0 =>
                    cases ow with
                    | no => exact h2
                    | full => exact fun c hc => sameL (h2 c hc)
                    | own c0 =>
                      have h3 : (bif Nat.beq wd ie.size then _ else False) := h2
                      show (bif Nat.beq wd ie.size then _ else False)
                      cases hw : Nat.beq wd ie.size with
                      | false => rw [hw] at h3; exact h3.elim
                      | true =>
                        rw [hw] at h3
                        obtain ⟨H0, h4, h5⟩ := h3
                        exact ⟨H0, h4, fun c hc => sameL (h5 c hc)⟩
                · exact h.elim
            · exact h.elim
          · exact h.elim
        · exact h.elim
      · rename_i b n cap y hcal hl
        try simp only [hcal, hl]
        split at h
        · rename_i t0 t1 ha0 ha1
          try simp only [ha0, ha1]
          split at h
          · rename_i el hk
            try simp only [hk]
            split at h
            · rename_i ie hie
              try simp only [hie]
              cases hb : (!Nat.beq ie.size 0 && Nat.beq ie.zero.cells.size ie.size && litOk ie.zero) with
              | false => rw [hb] at h; exact h.elim
              | true =>
                rw [hb] at h
                simp only [cond_true] at h ⊢
                split at h
                · rename_i ys hys
                  try simp only [hys]
                  cases ys with
                  | nil => exact ⟨h.1, sameL h.2⟩
                  | cons y0 ys0 =>
                    obtain ⟨g1, g2, cs, H0, g3, g4, g5, g6, g7⟩ := h
                    exact ⟨g1, g2, cs, H0, g3, g4, g5, g6, fun b' cap' rest k1 k2 k3 k4 => sameL (g7 b' cap' rest k1 k2 k3 k4)⟩
                · exact h.elim
            · exact h.elim
          · exact h.elim
        · exact h.elim
      · exact h.elim
    · rename_i x ho
      try simp only [ho]
      split at h
      · rename_i t v hv
        try simp only [hv]
        exact h
      · exact h.elim
    · exact h.elim
end

/-! a new local variable may be made earlier or later -/
/-- is it one that makes a new variable? -/
def isVar : Op → Bool
  | .box .. | .alloc _ => true
  | _ => false
/-- no address of a site among what it may yield -/
def Rs.noLp (d : Nat) : Rs → Prop
  | .ret t => ∀ off, t ≠ .lp d off
  | .req _ r => r.noLp d
  | .ex _ f => ∀ x, (f x).noLp d
  | .ite _ a b => a.noLp d ∧ b.noLp d
  | .fail => True
theorem Rs.noLp_run {d : Nat} {r : Rs} {K : T → Prop} (hn : r.noLp d) (h : r.run K) : r.run fun t => K t ∧ ∀ off, t ≠ .lp d off := by
  induction r with
  | ret t => exact ⟨h, hn⟩
  | req p r ih => exact ⟨h.1, ih hn h.2⟩
  | ex p f ih => obtain ⟨x, hp, h⟩ := h; exact ⟨x, hp, ih x (hn x) h⟩
  | ite q a b iha ihb =>
    cases q with
    | true => exact iha hn.1 h
    | false => exact ihb hn.2 h
  | fail => exact h.elim
section
variable {d : Nat}
theorem rv_noLp (x : AV) : (rv x).noLp d := fun _ => by simp
theorem wrapR_noLp (k : IntKind) (n : Int) : (wrapR k n).noLp d := by unfold wrapR; split <;> exact rv_noLp _
theorem cmpR_noLp (q : Bool) : (cmpR q).noLp d := ⟨rv_noLp _, rv_noLp _⟩
theorem ncmpR_noLp (q : Bool) : (ncmpR q).noLp d := ⟨rv_noLp _, rv_noLp _⟩
theorem natR_noLp {x : AV} {f : Nat → Rs} (h : ∀ n, (f n).noLp d) : (natR x f).noLp d := by
  unfold natR
  split
  · exact h
  · trivial
theorem intR_noLp (op : BinOp) (k : IntKind) (x y : Int) : (intR op k x y).noLp d := by
  unfold intR
  split <;> first | exact wrapR_noLp _ _ | exact rv_noLp _ | exact cmpR_noLp _ | exact ncmpR_noLp _ | trivial
theorem intwR_noLp (op : BinOp) (k : IntKind) (x y : Int) : (intwR op k x y).noLp d := by
  unfold intwR
  split <;> first | exact rv_noLp _ | trivial
theorem shiftR_noLp (op : BinOp) (k : IntKind) (x y : Int) : (shiftR op k x y).noLp d := by
  unfold shiftR
  split <;> first | exact wrapR_noLp _ _ | exact rv_noLp _ | trivial
theorem strR_noLp (op : BinOp) (x y : List UInt8) : (strR op x y).noLp d := by
  unfold strR
  split <;> first | exact rv_noLp _ | exact cmpR_noLp _ | exact ncmpR_noLp _ | trivial
theorem nilR_noLp (op : BinOp) (q : Bool) : (nilR op q).noLp d := by
  unfold nilR
  split <;> first | exact cmpR_noLp _ | exact ncmpR_noLp _ | trivial
theorem binR_noLp (tab : Tab) (op : BinOp) (t : TypeId) (a b : AV) : (binR tab op t a b).noLp d := by
  unfold binR
  split
  · cases isShift op with
    | true => exact shiftR_noLp _ _ _ _
    | false =>
      simp only [cond_false]
      rename_i k x k' y
      cases decide (k = k') with
      | true =>
        simp only [cond_true]
        split
        · exact intwR_noLp _ _ _ _
        · exact intR_noLp _ _ _ _
      | false => trivial
  · exact strR_noLp _ _ _
  all_goals repeat' split
  all_goals first | exact nilR_noLp _ _ | trivial | skip
  all_goals (rename_i ie l r _ _ _ _; cases (Nat.beq ie.size 1 && (Nat.beq l.length _ && Nat.beq r.length _)) <;> first | exact nilR_noLp _ _ | trivial)
theorem readR_noLp {L : Loc} {R : Heap} {a : T} {f : List AV → Rs} (h : ∀ cs, (f cs).noLp d) : (readR L R a f).noLp d := by
  unfold readR
  split
  · split
    · exact h _
    · trivial
  · exact h _
  · exact fun _ => h _
  · trivial
theorem partR_noLp (tab : Tab) (t : TypeId) (cs : List AV) : (partR tab t cs).noLp d := by
  unfold partR
  split
  · rename_i i _
    cases i.kind.agg with
    | true =>
      simp only [cond_true]
      cases Nat.ble i.size cs.length with
      | true => exact rv_noLp _
      | false => trivial
    | false =>
      simp only [cond_false]
      split
      · exact rv_noLp _
      · trivial
  · trivial
theorem atG_noLp {a : T} {f : AV → Rs} (h : ∀ x, (f x).noLp d) : (atG a f).noLp d := by
  unfold atG
  split
  · exact h _
  · trivial
theorem hiR_noLp {ρ : Operand → T} {n : Nat} {hi : Option Operand} {f : Nat → Nat → Rs} {l : Nat} (h : ∀ a b, (f a b).noLp d) : (hiR ρ n hi f l).noLp d := by
  unfold hiR
  split
  · exact h _ _
  · exact atG_noLp fun _ => natR_noLp fun _ => h _ _
theorem cutR_noLp {ρ : Operand → T} {n : Nat} {lo hi : Option Operand} {f : Nat → Nat → Rs} (h : ∀ a b, (f a b).noLp d) : (cutR ρ n lo hi f).noLp d := by
  unfold cutR
  split
  · exact hiR_noLp h
  · exact atG_noLp fun _ => natR_noLp fun _ => hiR_noLp h
theorem bif_noLp {q : Bool} {a b : Rs} (h : a.noLp d) (k : b.noLp d) : (bif q then a else b).noLp d := by
  cases q
  · exact k
  · exact h
theorem shiftT_ne {a : T} {n : Nat} (h : ∀ off, a ≠ .lp d off) : ∀ off, shiftT a n ≠ .lp d off := by
  intro off
  cases a with
  | lp k o =>
    simp only [shiftT, ne_eq, T.lp.injEq, not_and]
    intro hk
    subst hk
    exact absurd rfl (h o)
  | g x => cases x <;> simp [shiftT]
  | undef => simp [shiftT]
  | junk => simp [shiftT]
theorem ares_noLp {tab : Tab} {o : Op} {ρ : Operand → T} {L : Loc} {R : Heap} (h : ∀ x ∈ o.operands, ∀ off, ρ x ≠ .lp d off) : (ares tab o ρ L R).noLp d := by
  cases o <;> simp only [Op.operands, List.mem_toArray, Array.mem_append, List.mem_cons, List.not_mem_nil, or_false, forall_eq_or_imp, forall_eq] at h <;> simp only [ares] <;> try trivial
  case pick c a b =>
    split
    · exact ⟨h.2.1, h.2.2⟩
    · trivial
  case nilCheck x =>
    refine bif_noLp h ?_
    split
    · exact fun _ => by simp
    · trivial
  case load t x => exact readR_noLp fun _ => partR_noLp _ _ _
  case binOp op t x y yt =>
    split
    · exact binR_noLp _ _ _ _ _
    · trivial
  case unOp op t x =>
    split
    · exact rv_noLp _
    · exact wrapR_noLp _ _
    · trivial
  case convert s t x =>
    split
    · exact wrapR_noLp _ _
    · exact rv_noLp _
    · split
      · exact fun _ => rv_noLp _
      · trivial
    · trivial
  case makeInterface t x =>
    split
    · split
      · exact rv_noLp _
      · trivial
    · trivial
  case typeAssert x t t' ok =>
    split
    · exact bif_noLp (rv_noLp _) trivial
    · trivial
  case makeFunc fn first captured =>
    refine bif_noLp ?_ ?_
    · split
      · exact rv_noLp _
      · trivial
    · split
      · exact rv_noLp _
      · trivial
  case slice t x lo hi mx =>
    split
    · split
      · exact cutR_noLp fun _ _ => rv_noLp _
      · trivial
    · split
      · refine bif_noLp ?_ trivial
        split
        · exact cutR_noLp fun _ _ => rv_noLp _
        · exact bif_noLp (cutR_noLp fun _ _ => atG_noLp fun _ => natR_noLp fun _ => rv_noLp _) trivial
      · trivial
    · split
      · exact bif_noLp trivial (cutR_noLp fun _ _ => fun _ => rv_noLp _)
      · trivial
    · split
      · exact bif_noLp trivial (cutR_noLp fun _ _ => rv_noLp _)
      · trivial
    · split
      · exact bif_noLp trivial (cutR_noLp fun _ _ => fun _ => rv_noLp _)
      · trivial
    · trivial
  case fieldAddr s x f =>
    split
    · split
      · exact bif_noLp (shiftT_ne h) trivial
      · trivial
    · trivial
  case field s x f =>
    split
    · split
      · exact partR_noLp _ _ _
      · trivial
    · trivial
  case indexAddr t x i =>
    split
    · split
      · exact bif_noLp (natR_noLp fun _ => fun _ => rv_noLp _) trivial
      · trivial
    · split
      · exact bif_noLp (natR_noLp fun _ => shiftT_ne h.1) trivial
      · trivial
    · split
      · exact natR_noLp fun _ => rv_noLp _
      · trivial
    · trivial
  case index t x i =>
    split
    · exact natR_noLp fun _ => fun _ => rv_noLp _
    · split
      · exact natR_noLp fun _ => partR_noLp _ _ _
      · trivial
    · trivial
  case build t parts =>
    split
    · split
      · split
        · exact bif_noLp (rv_noLp _) trivial
        · trivial
      · split
        · split
          · exact bif_noLp (rv_noLp _) trivial
          · trivial
        · trivial
      · trivial
    · trivial
  case buildSlice t len parts =>
    split
    · split
      · split
        · exact bif_noLp (rv_noLp _) trivial
        · trivial
      · trivial
    · trivial
  case extract x k =>
    split
    · split
      · exact rv_noLp _
      · trivial
    · trivial
  case call c =>
    split
    · split
      · split <;> first | exact rv_noLp _ | trivial
      · trivial
    · exact bif_noLp (rv_noLp _) trivial
    · exact bif_noLp (rv_noLp _) trivial
    · trivial
end
theorem Loc.get_cons {d k : Nat} {cs : List AV} {L : Loc} (h : k ≠ d) : Loc.get ((d, cs) :: L) k = L.get k := by
  simp only [Loc.get]
  cases hb : Nat.beq d k with
  | true => exact absurd (beq_true hb).symm h
  | false => rfl
theorem Loc.set_cons {d k : Nat} {cs ys : List AV} {L : Loc} (h : k ≠ d) : Loc.set ((d, cs) :: L) k ys = (d, cs) :: L.set k ys := by
  simp only [Loc.set]
  cases hb : Nat.beq d k with
  | true => exact absurd (beq_true hb).symm h
  | false => rfl
theorem Loc.set_none {d k : Nat} {ys : List AV} : ∀ {L : Loc}, L.get d = none → (L.set k ys).get d = none
  | [], h => h
  | (j, x) :: L, h => by
    simp only [Loc.get] at h
    cases hb : Nat.beq j d with
    | true => rw [hb] at h; cases h
    | false =>
      rw [hb] at h
      simp only [Loc.set]
      cases hk : Nat.beq j k with
      | true => simp only [cond_true, Loc.get, hb]; exact h
      | false => simp only [cond_false, Loc.get, hb]; exact Loc.set_none h
section
variable {P : Pr} {tab : Tab} {esc : Nat → Bool} {R : Heap}
/-- an operation that does not see a variable does the same without it -/
theorem aop_L {o : Oper} {e : Env} {d : Nat} {cs : List AV} {L : Loc} {H : Heap} {K K' : St → Prop} (hv : isVar o.op = false) (hops : ∀ x ∈ o.op.operands, ∀ off, e.ev x ≠ .lp d off) (hL : L.get d = none)
    (hK : ∀ (t : T) (L' : Loc) (H' : Heap), (∀ off, t ≠ .lp d off) → L'.get d = none → (mobile tab esc o = true → H' = H) → K ⟨e.put o.dst t, (d, cs) :: L', H'⟩ → K' ⟨e.put o.dst t, L', H'⟩)
    (h : aop P tab esc R o ⟨e, (d, cs) :: L, H⟩ K) : aop P tab esc R o ⟨e, L, H⟩ K' := by
  unfold aop at h ⊢
  cases hm : mobile tab esc o with
  | true =>
    rw [hm] at h
    simp only [cond_true] at h ⊢
    have e1 : ares tab o.op e.ev ((d, cs) :: L) R = ares tab o.op e.ev L R := by
      cases hl : isLoad o.op with
      | false => exact ares_noload hl
      | true =>
        obtain ⟨dst, op, ty, pos, after, guard⟩ := o
        cases op <;> first | (cases hl; done) | skip
        rename_i t x
        have hx := hops x (by simp [Op.operands])
        simp only [ares]
        unfold readR
        generalize e.ev x = a at hx
        cases a with
        | lp k off =>
          have hkd : k ≠ d := fun e => by subst e; exact hx off rfl
          simp only [Loc.get_cons hkd]
        | g y => cases y <;> rfl
        | undef => rfl
        | junk => rfl
    rw [e1] at h
    refine Rs.mono (fun t ht => ?_) (Rs.noLp_run (ares_noLp hops) h)
    obtain ⟨h1, h2⟩ := ht
    rw [nowK_eq] at h1 ⊢
    exact hK _ _ _ h2 hL (fun _ => rfl) h1
  | false =>
    rw [hm] at h
    have sameL : ∀ {t : T} {H' : Heap}, (∀ off, t ≠ .lp d off) → K ⟨e.put o.dst t, (d, cs) :: L, H'⟩ → K' ⟨e.put o.dst t, L, H'⟩ := fun ht h => hK _ _ _ ht hL (fun h => (by simp [hm] at h)) h
    have nilL : ∀ {op : BinOp} {q : Bool}, ((nilR op q).run fun t => K (St.put ⟨e, (d, cs) :: L, H⟩ o.dst t)) → (nilR op q).run fun t => K' (St.put ⟨e, L, H⟩ o.dst t) := fun h => Rs.mono (fun t ht => sameL ht.2 ht.1) (Rs.noLp_run (nilR_noLp _ _) h)
    simp only [cond_false] at h ⊢
    cases hmp : mapOp tab o.op with
    | true =>
      rw [hmp] at h
      simp only [cond_true] at h ⊢
      exact mapK_mono (fun _ _ => rfl) (fun x H' k => sameL (fun off => by cases x <;> simp [outT]) k) h
    | false =>
    rw [hmp] at h
    simp only [cond_false] at h ⊢
    split at h
    · rename_i T0 x ho
      rw [ho] at hv; cases hv
    · rename_i t ho
      rw [ho] at hv; cases hv
    · rename_i t ad x ho
      try simp only [ho]
      have hA := hops ad (by rw [ho]; simp [Op.operands])
      unfold storeK at h ⊢
      simp only at h ⊢
      split at h
      · rename_i g i hx' hi
        try simp only [hx', hi]
        cases hb : (noTup g && Nat.beq g.cells.length i.size) with
        | false => rw [hb] at h; exact h.elim
        | true =>
          rw [hb] at h
          simp only [cond_true] at h ⊢
          split at h
          · rename_i k off hA'
            have hkd : k ≠ d := fun e => by subst e; exact hA _ hA'
            rw [Loc.get_cons hkd] at h
            try simp only at h ⊢
            split at h
            · rename_i cs' hk
              try simp only [hk]
              cases hle : Nat.ble (off + i.size) cs'.length with
              | false => rw [hle] at h; exact h.elim
              | true =>
                rw [hle] at h
                simp only [cond_true] at h ⊢
                rw [Loc.set_cons hkd] at h
                exact hK _ _ _ (fun _ => by simp) (Loc.set_none hL) (fun h => (by simp [hm] at h)) h
            · exact h.elim
          · rename_i b off hA'
            obtain ⟨cs', H', h1, h2, h3⟩ := h
            exact ⟨cs', H', h1, h2, sameL (fun _ => by simp) h3⟩
          · exact h.elim
      · exact h.elim
    · rename_i op t x y yt ho
      try simp only [ho]
      try simp only at h
      split at h
      · rename_i ow wd xs el hx' hk
        try simp only [hx', hk]
        cases xs with
        | nil => exact fun q => nilL (h q)
        | cons _ _ => exact nilL h
      · rename_i ad n cap el hx' hk
        try simp only [hx', hk]
        exact nilL h
      · exact h.elim
    · rename_i src dst x ho
      try simp only [ho]
      try simp only at h
      split at h
      · rename_i l hdk hx'
        try simp only [hdk, hx']
        exact sameL (fun _ => by simp) h
      · rename_i el l hdk hx'
        try simp only [hdk, hx']
        split at h
        · rename_i ie hek hie
          try simp only [hek, hie]
          cases hb : Nat.beq ie.size 1 with
          | false => rw [hb] at h; exact h.elim
          | true =>
            rw [hb] at h
            exact fun c hc => sameL (fun _ => by simp) (h c hc)
        · exact h.elim
      · exact h.elim
    · rename_i c ho
      try simp only [ho]
      try simp only at h
      split at h
      · rename_i l f hcal
        try simp only [hcal]
        unfold callK at h ⊢
        split at h
        · rename_i fid caps xs hf' hxs
          obtain ⟨ys, h1, h2⟩ := h
          exact ⟨ys, h1, h2.mono fun r H' k hr hn => sameL (fun _ => by simp) (k hr hn)⟩
        · rename_i l0 xs hf' hxs
          obtain ⟨ys, h1, h2⟩ := h
          exact ⟨ys, h1, h2.mono fun r H' k hr hn => sameL (fun _ => by simp) (k hr hn)⟩
        · split at h
          · try dsimp only
            obtain ⟨ys, h1, h2⟩ := h
            exact ⟨ys, h1, h2.mono fun r H' k hr hn => sameL (fun _ => by simp) (k hr hn)⟩
          · exact h.elim
        · exact h.elim
      · rename_i ow wd xs y hcal hl
        try simp only [hcal, hl]
        split at h
        · rename_i t0 t1 ha0 ha1
          try simp only [ha0, ha1]
          split at h
          · rename_i el hk
            try simp only [hk]
            split at h
            · rename_i ie hie
              try simp only [hie]
              cases hb : (wOk wd ie.size && !Nat.beq ie.size 0 && Nat.beq ie.zero.cells.size ie.size) with
              | false => rw [hb] at h; exact h.elim
              | true =>
                rw [hb] at h
                simp only [cond_true] at h ⊢
                split at h
                · rename_i ys hys
                  try simp only [hys]
                  cases he : hsite esc o.dst with
                  | true =>
                    rw [he] at h
                    simp only [cond_true] at h ⊢
                    cases hzl : litOk ie.zero with
                    | false => rw [hzl] at h; exact h.elim
                    | true =>
                      rw [hzl] at h
                      cases ys with
                      | nil => exact sameL (fun _ => by simp) h
                      | cons y0 ys0 =>
                        obtain ⟨g1, g2, g3, g4⟩ := h
                        exact ⟨g1, g2, g3, fun b cap rest k1 k2 k3 k4 => sameL (fun _ => by simp) (g4 b cap rest k1 k2 k3 k4)⟩
                  | false =>
                    rw [he] at h
                    simp only [cond_false] at h ⊢
                    refine ⟨h.1, ?_⟩
                    have h2 := h.2
                    cases ys with
                    | nil => exact sameL (fun _ => by simp) h2
                    | cons y0 ys0 =>
                      cases ow with
                      | no => exact h2
                      | full => exact fun c hc => sameL (fun _ => by simp) (h2 c hc)
                      | own c0 =>
                        have h3 : (bif Nat.beq wd ie.size then _ else False) := h2
                        show (bif Nat.beq wd ie.size then _ else False)
                        cases hw : Nat.beq wd ie.size with
                        | false => rw [hw] at h3; exact h3.elim
                        | true =>
                          rw [hw] at h3
                          obtain ⟨H0, h4, h5⟩ := h3
                          exact ⟨H0, h4, fun c hc => sameL (fun _ => by simp) (h5 c hc)⟩
                · exact h.elim
            · exact h.elim
          · exact h.elim
        · exact h.elim
      · rename_i b n cap y hcal hl
        try simp only [hcal, hl]
        split at h
        · rename_i t0 t1 ha0 ha1
          try simp only [ha0, ha1]
          split at h
          · rename_i el hk
            try simp only [hk]
            split at h
            · rename_i ie hie
              try simp only [hie]
              cases hb : (!Nat.beq ie.size 0 && Nat.beq ie.zero.cells.size ie.size && litOk ie.zero) with
              | false => rw [hb] at h; exact h.elim
              | true =>
                rw [hb] at h
                simp only [cond_true] at h ⊢
                split at h
                · rename_i ys hys
                  try simp only [hys]
                  cases ys with
                  | nil => exact ⟨h.1, sameL (fun _ => by simp) h.2⟩
                  | cons y0 ys0 =>
                    obtain ⟨g1, g2, cs', H0, g3, g4, g5, g6, g7⟩ := h
                    exact ⟨g1, g2, cs', H0, g3, g4, g5, g6, fun b' cap' rest k1 k2 k3 k4 => sameL (fun _ => by simp) (g7 b' cap' rest k1 k2 k3 k4)⟩
                · exact h.elim
            · exact h.elim
          · exact h.elim
        · exact h.elim
      · exact h.elim
    · rename_i x ho
      try simp only [ho]
      exact h
    · exact h.elim
end
end Go.Proofs.YtahdkhklngjmoaaGreatDoor

/-
  The abstract machine: regions that draw their order: one order serves for all. No condition.
-/
namespace Go.Proofs.YtahdkhklngjmoaaGreatDoor
open Go.RowKit

/-- what is pinned stays, where something turns -/
def keepP (m : Bool) (pins H : Heap) (A : Prop) : Prop :=
  match m, pins with
  | true, _ => A
  | false, [] => A
  | false, p :: ps => (∀ q ∈ p :: ps, q ∈ H) ∧ A
theorem keepP_iff {m : Bool} {pins H : Heap} {A : Prop} : keepP m pins H A ↔ (m = false → ∀ q ∈ pins, q ∈ H) ∧ A := by
  cases m with
  | true => simp [keepP]
  | false => cases pins <;> simp [keepP]
/-- is nothing left that reads? -/
def noLoad (ops : Array Oper) (listed : Array Bool) : Bool := (List.range ops.size).all fun k => listed.getD k true || (match ops[k]? with
  | some o => !isLoad o.op
  | none => true)
/-- a store behind which nothing reads -/
def lastW (ops : Array Oper) (listed : Array Bool) (i : Nat) (o : Oper) : Bool := isStore o.op && noLoad ops (listed.setIfInBounds i true)
section
variable (P : Pr) (tab : Tab) (esc : Nat → Bool) (pins : Heap) (ops : Array Oper)
/-- operation i; what is pinned stays -/
def aOpAt (listed : Array Bool) (i : Nat) (s : St) (K : St → Prop) : Prop :=
  match ops[i]? with
  | none => False
  | some o => aG ops o s.e (aop P tab esc pins o s fun s' => keepP (mobile tab esc o || lastW ops listed i o) pins s'.H (K s')) (K (s.put o.dst .undef))
/-- whatever order -/
def aAny (K : St → Prop) : Nat → Array Bool → St → Prop
  | 0, listed, s => Region.ready .any ops listed = [] ∧ K s
  | f + 1, listed, s => (Region.ready .any ops listed = [] → K s) ∧ ∀ i ∈ Region.ready .any ops listed, aOpAt P tab esc pins ops listed i s (aAny K f (listed.setIfInBounds i true))
/-- this order -/
def aOrd : List Nat → Array Bool → St → (St → Prop) → Prop
  | [], _, s, K => K s
  | i :: r, listed, s, K => aOpAt P tab esc pins ops listed i s fun s' => aOrd r (listed.setIfInBounds i true) s' K
end
/-- may operation i be taken first? -/
def okM (tab : Tab) (esc : Nat → Bool) (ops : Array Oper) (i : Nat) (listed : Array Bool) : Bool :=
  match ops[i]? with
  | none => false
  | some oi => mobile tab esc oi && (List.range ops.size).all fun j => listed.getD j true || Nat.beq j i || dependsB .any ops ops.size j i || (match ops[j]? with
    | some oj => oi.apart ops oj && !(isLoad oi.op && isStore oj.op)
    | none => true)
/-- is it one that makes a new local variable? -/
def newLoc (esc : Nat → Bool) (o : Oper) : Bool :=
  match o.op, o.guard, o.dst with
  | .alloc _, none, some d => !esc d
  | _, _, _ => false
theorem newLoc_spec {esc : Nat → Bool} {o : Oper} (h : newLoc esc o = true) : ∃ t d, o.op = .alloc t ∧ o.guard = none ∧ o.dst = some d ∧ esc d = false := by
  unfold newLoc at h
  split at h
  · rename_i t d ho hg hd
    exact ⟨t, d, ho, hg, hd, by simpa using h⟩
  · cases h
/-- a new local variable that may be made first -/
def okA (esc : Nat → Bool) (ops : Array Oper) (i : Nat) (listed : Array Bool) : Bool :=
  match ops[i]? with
  | none => false
  | some oi => (match oi.op, oi.guard, oi.dst with
    | .alloc _, none, some d => !esc d
    | _, _, _ => false) && (List.range ops.size).all fun j => listed.getD j true || Nat.beq j i || dependsB .any ops ops.size j i || (match ops[j]? with
    | some oj => oi.apart ops oj && ((!isVar oj.op || newLoc esc oj) && !isStore oj.op)
    | none => true)
def ordOk (tab : Tab) (esc : Nat → Bool) (ops : Array Oper) : List Nat → Array Bool → Bool
  | [], listed => (Region.ready .any ops listed).isEmpty
  | i :: r, listed => (Region.ready .any ops listed).contains i && (okM tab esc ops i listed || (Region.ready .any ops listed == [i] || okA esc ops i listed)) && ordOk tab esc ops r (listed.setIfInBounds i true)
/-- no operation writes one of the first slots -/
def loOk (lo : Nat) (ops : Array Oper) : Bool := ops.toList.all fun o => match o.dst with
  | some d => Nat.ble lo d
  | none => true
theorem loOk_at {lo : Nat} {ops : Array Oper} (h : loOk lo ops = true) {i : Nat} {o : Oper} (hi : ops[i]? = some o) : ∀ d, o.dst = some d → lo ≤ d := fun d hd => by
  have hm : o ∈ ops.toList := by simpa using Array.mem_of_getElem? hi
  have := List.all_eq_true.1 h o hm
  rw [hd] at this
  exact Nat.le_of_ble_eq_true this
def St.Eqv (s s' : St) : Prop := s.e.Eqv s'.e ∧ s.L.Eqv s'.L ∧ s.H = s'.H

section
variable {P : Pr} {tab : Tab} {esc : Nat → Bool} {pins : Heap} {ops : Array Oper}

theorem aG_mono {o : Oper} {e : Env} {y n y' n' : Prop} (h : aG ops o e y n) (hy : y → y') (hn : n → n') : aG ops o e y' n' := by
  unfold aG at h ⊢
  split at h
  · exact hy h
  · split at h
    · split at h
      · exact hn h
      · rename_i q _
        split at h <;> (cases q <;> simp only [ifB] at h ⊢) <;> first | exact hy h | exact hn h
      · exact h
    · exact hn h
theorem aG_congr {o : Oper} {e e' : Env} {y n : Prop} (hg : ∀ d, (∃ j want, o.guard = some (j, want) ∧ (ops[j]?).bind (·.dst) = some d) → e.get d = e'.get d) (h : aG ops o e y n) : aG ops o e' y n := by
  unfold aG at h ⊢
  split at h
  · exact h
  · rename_i j want hgd
    split at h
    · rename_i d hd
      rw [← hg d ⟨j, want, hgd, hd⟩]
      exact h
    · exact h
theorem Env.Eqv.put {e e' : Env} (h : e.Eqv e') (d : Option Tmp) (t : T) : (e.put d t).Eqv (e'.put d t) := by
  cases d with
  | none => exact h
  | some d =>
    refine ⟨h.1.cons _, fun i => ?_⟩
    show (bif Nat.beq d i then t else e.get i) = (bif Nat.beq d i then t else e'.get i)
    rw [h.2]
theorem aOpAt_eqv {listed : Array Bool} {i : Nat} {s s' : St} {K K' : St → Prop} (h : s.Eqv s') (hK : ∀ a b, St.Eqv a b → K a → K' b) (ho : aOpAt P tab esc pins ops listed i s K) : aOpAt P tab esc pins ops listed i s' K' := by
  obtain ⟨e, L, H⟩ := s
  obtain ⟨e', L2, H'⟩ := s'
  obtain ⟨h1, hL, h3⟩ := h
  simp only at h3
  subst h3
  unfold aOpAt at ho ⊢
  split at ho
  · exact ho
  · rename_i o _
    refine aG_mono (aG_congr (e' := e') (fun d _ => h1.2 d) ho) (fun hy => ?_) (fun hn => hK ⟨e.put o.dst .undef, L, H⟩ ⟨e'.put o.dst .undef, L2, H⟩ ⟨h1.put _ _, hL, rfl⟩ hn)
    refine aop_eqv hL (fun t L' L2' H' hL' hk => ?_) (aop_map (K' := fun s1 => keepP (mobile tab esc o || lastW ops listed i o) pins s1.H (∃ e0 : Env, e0.Eqv s1.e ∧ K ⟨e0, s1.L, s1.H⟩)) (fun x _ => h1.ev x) (fun d _ hf => by rw [← h1.free d]; exact hf) (Env.low_eq h1.2) (fun t L' H' _ _ hk => keepP_iff.2 ⟨(keepP_iff.1 hk).1, _, h1.put _ _, (keepP_iff.1 hk).2⟩) hy)
    obtain ⟨e0, k1, k2⟩ := (keepP_iff.1 hk).2
    exact keepP_iff.2 ⟨(keepP_iff.1 hk).1, hK ⟨e0, L', H'⟩ ⟨e'.put o.dst t, L2', H'⟩ ⟨k1, hL', rfl⟩ k2⟩
theorem aAny_eqv {K : St → Prop} (hK : ∀ a b, St.Eqv a b → K a → K b) : ∀ {f : Nat} {listed : Array Bool} {s s' : St}, s.Eqv s' → aAny P tab esc pins ops K f listed s → aAny P tab esc pins ops K f listed s'
  | 0, _, _, _, h, ⟨h1, h2⟩ => ⟨h1, hK _ _ h h2⟩
  | _ + 1, _, _, _, h, ⟨h1, h2⟩ => ⟨fun h0 => hK _ _ h (h1 h0), fun i hi => aOpAt_eqv h (fun _ _ hab ha => aAny_eqv hK hab ha) (h2 i hi)⟩

/-- what a mobile operation yields -/
def yields1 (tab : Tab) (pins : Heap) (ops : Array Oper) (o : Oper) (e : Env) (L : Loc) (t : T) : Prop :=
  aG ops o e ((ares tab o.op e.ev L pins).run fun x => x = t) (t = .undef)
theorem aG_or {o : Oper} {e : Env} {y n : Prop} (h : aG ops o e y n) : (∀ (y' n' : Prop), y' → aG ops o e y' n') ∧ y ∨ (∀ (y' n' : Prop), n' → aG ops o e y' n') ∧ n := by
  unfold aG at h ⊢
  split at h
  · exact Or.inl ⟨fun _ _ h => h, h⟩
  · split at h
    · split at h
      · exact Or.inr ⟨fun _ _ h => h, h⟩
      · rename_i q _
        split at h <;> (cases q <;> simp only [ifB] at h ⊢) <;> first | exact Or.inl ⟨fun _ _ h => h, h⟩ | exact Or.inr ⟨fun _ _ h => h, h⟩
      · exact h.elim
    · exact Or.inr ⟨fun _ _ h => h, h⟩
theorem mobile_iff {listed : Array Bool} {i : Nat} {o : Oper} (hi : ops[i]? = some o) (hm : mobile tab esc o = true) {s : St} {K : St → Prop} :
    aOpAt P tab esc pins ops listed i s K ↔ ∃ t, yields1 tab pins ops o s.e s.L t ∧ K (s.put o.dst t) := by
  unfold aOpAt
  simp only [hi]
  constructor
  · intro h
    rcases aG_or h with ⟨k, h⟩ | ⟨k, h⟩
    · unfold aop at h
      rw [hm] at h
      obtain ⟨t, h1, h2⟩ := Rs.split h
      rw [nowK_eq] at h2
      exact ⟨t, k _ _ h1, h2⟩
    · exact ⟨.undef, k _ _ rfl, h⟩
  · rintro ⟨t, h1, h2⟩
    refine aG_mono h1 (fun hy => ?_) (fun hn => by subst hn; exact h2)
    unfold aop
    rw [hm]
    exact Rs.mono (fun x hx => by subst hx; rw [nowK_eq]; exact h2) hy
theorem load_keep {o : Op} {ρ : Operand → T} {L L' : Loc} (hl : isLoad o = true) (h : ∀ k cs, L.get k = some cs → L'.get k = some cs) {K : T → Prop} (hr : (ares tab o ρ L pins).run K) : (ares tab o ρ L' pins).run K := by
  cases o <;> first | (cases hl; done) | skip
  rename_i t a
  simp only [ares] at hr ⊢
  unfold readR at hr ⊢
  split at hr
  · split at hr
    · rename_i cs hk
      simp only [h _ _ hk]
      exact hr
    · exact hr.elim
  · exact hr
  · exact hr
  · exact hr.elim
theorem ev_put_ne {e : Env} {d : Option Tmp} {t : T} {x : Operand} (h : ∀ k, d = some k → x ≠ .tmp k) : (e.put d t).ev x = e.ev x := by
  cases d with
  | none => rfl
  | some d =>
    cases x with
    | tmp k =>
      have hne : d ≠ k := fun e => h d rfl (e ▸ rfl)
      show (bif Nat.beq d k then t else e.get k) = e.get k
      have : Nat.beq d k = false := by
        cases hb : Nat.beq d k with
        | false => rfl
        | true => exact absurd (beq_true hb) hne
      rw [this]; rfl
    | const v => rfl
    | global g => rfl
    | func f => rfl
theorem get_put_ne {e : Env} {d : Option Tmp} {t : T} {k : Nat} (h : d ≠ some k) : (e.put d t).get k = e.get k := by
  cases d with
  | none => rfl
  | some d =>
    show (bif Nat.beq d k then t else e.get k) = e.get k
    have : Nat.beq d k = false := by
      cases hb : Nat.beq d k with
      | false => rfl
      | true => exact absurd (by rw [beq_true hb]) h
    rw [this]; rfl
/-- slots that an operation does not look at -/
theorem look_ops {o : Oper} {d : Option Tmp} (h : ∀ k, d = some k → k ∉ o.looksAt ops) : (∀ x ∈ o.op.operands, ∀ k, d = some k → x ≠ .tmp k) ∧ ∀ k, (∃ j want, o.guard = some (j, want) ∧ (ops[j]?).bind (·.dst) = some k) → d ≠ some k := by
  refine ⟨fun x hx k hk e => ?_, fun k ⟨j, want, hg, hd⟩ e => ?_⟩
  · subst e
    refine h k hk ?_
    unfold Oper.looksAt
    refine List.mem_append.2 (Or.inl (List.mem_filterMap.2 ⟨.tmp k, by simpa using hx, rfl⟩))
  · refine h k e ?_
    unfold Oper.looksAt
    refine List.mem_append.2 (Or.inr ?_)
    rw [hg]
    simp only
    rw [hd]; simp
theorem put_swap {e : Env} {d d' : Option Tmp} {t t' : T} (h : ∀ k, d = some k → d' ≠ some k) : ((e.put d t).put d' t').Eqv ((e.put d' t').put d t) := by
  cases d with
  | none => exact Env.Eqv.refl _
  | some d =>
    cases d' with
    | none => exact Env.Eqv.refl _
    | some d' =>
      have hne : d ≠ d' := fun e => h d rfl (by rw [e])
      refine ⟨List.Perm.swap _ _ _, fun i => ?_⟩
      show (bif Nat.beq d' i then t' else bif Nat.beq d i then t else e.get i) = (bif Nat.beq d i then t else bif Nat.beq d' i then t' else e.get i)
      cases h1 : Nat.beq d' i with
      | false => rfl
      | true =>
        cases h2 : Nat.beq d i with
        | false => rfl
        | true => exact absurd ((beq_true h2).trans (beq_true h1).symm) hne

theorem pinned {m : Bool} {H H' : Heap} (hH : m = true → H' = H) (h : m = false → ∀ q ∈ pins, q ∈ H') (hp : ∀ q ∈ pins, q ∈ H) : ∀ q ∈ pins, q ∈ H' := by
  cases m with
  | true => rw [hH rfl]; exact hp
  | false => exact h rfl
theorem noLoad_mono {listed : Array Bool} {i : Nat} (h : noLoad ops listed = true) : noLoad ops (listed.setIfInBounds i true) = true := by
  unfold noLoad at h ⊢
  rw [List.all_eq_true] at h ⊢
  intro k hk
  have := h k hk
  by_cases hki : i = k
  · subst hki
    rw [show (listed.setIfInBounds i true).getD i true = true by by_cases hh : i < listed.size <;> simp [hh]]
    rfl
  · rw [getD_set_ne true hki]; exact this
theorem noLoad_skip {listed : Array Bool} {i : Nat} {oi : Oper} (hi : ops[i]? = some oi) (hl : isLoad oi.op = false) (h : noLoad ops (listed.setIfInBounds i true) = true) : noLoad ops listed = true := by
  unfold noLoad at h ⊢
  rw [List.all_eq_true] at h ⊢
  intro k hk
  have := h k hk
  by_cases hki : i = k
  · subst hki
    rw [hi]; simp [hl]
  · rw [getD_set_ne true hki] at this; exact this
theorem noLoad_at {listed : Array Bool} {i : Nat} {oi : Oper} (hi : ops[i]? = some oi) (hu : listed.getD i true = false) (h : noLoad ops listed = true) : isLoad oi.op = false := by
  unfold noLoad at h
  rw [List.all_eq_true] at h
  have := h i (List.mem_range.2 (Array.getElem?_eq_some_iff.1 hi).1)
  rw [hu, hi] at this
  simpa using this
theorem aAny_first {K : St → Prop} (hK : ∀ a b, St.Eqv a b → K a → K b) {i : Nat} {oi : Oper} (hi : ops[i]? = some oi) (hlo : ∀ d, oi.dst = some d → P.lo ≤ d) (hm : mobile tab esc oi = true) :
    ∀ (f : Nat) (listed : Array Bool) (s : St), (noLoad ops listed = false → ∀ p ∈ pins, p ∈ s.H) → Closed .any ops listed →
      (∀ j oj, ops[j]? = some oj → j ≠ i → listed.getD j true = false → dependsB .any ops ops.size j i = false → oi.apart ops oj = true ∧ (isLoad oi.op && isStore oj.op) = false) →
      i ∈ Region.ready .any ops listed → aOpAt P tab esc pins ops listed i s (aAny P tab esc pins ops K f (listed.setIfInBounds i true)) → aAny P tab esc pins ops K (f + 1) listed s := by
  intro f
  induction f with
  | zero =>
    intro listed s hp _ _ hr H
    refine ⟨fun h => (by rw [h] at hr; cases hr), fun j hj => ?_⟩
    by_cases hji : j = i
    · subst hji; exact H
    · obtain ⟨t, _, h⟩ := (mobile_iff hi hm).1 H
      have := ready_mono hj hji
      rw [h.1] at this
      cases this
  | succ f ih =>
    intro listed s hp hc hfree hr H
    refine ⟨fun h => (by rw [h] at hr; cases hr), fun j hj => ?_⟩
    by_cases hji : j = i
    · subst hji; exact H
    · obtain ⟨t, hy, h⟩ := (mobile_iff hi hm).1 H
      have h1 := h.2 j (ready_mono hj hji)
      obtain ⟨hjun, oj, hoj, hall⟩ := mem_ready.1 hj
      have hiun := (mem_ready.1 hr).1
      have hdep : dependsB .any ops ops.size j i = false := by
        cases hd : dependsB .any ops ops.size j i with
        | false => rfl
        | true =>
          have := dep_listed hc _ _ _ hd (Or.inl hj)
          rcases Nat.lt_or_ge i listed.size with h' | h'
          · simp [h'] at hiun this; rw [hiun] at this; cases this
          · simp [Array.getElem?_eq_none h'] at hiun
      obtain ⟨hap, hls⟩ := hfree j oj hoj hji hjun hdep
      obtain ⟨a1, a2, a3⟩ := Oper.apart_spec hap
      obtain ⟨l1, l2⟩ := look_ops (ops := ops) a1
      obtain ⟨l3, l4⟩ := look_ops (ops := ops) a3
      have hfree' : ∀ k ok, ops[k]? = some ok → k ≠ i → (listed.setIfInBounds j true).getD k true = false → dependsB .any ops ops.size k i = false → oi.apart ops ok = true ∧ (isLoad oi.op && isStore ok.op) = false := fun k ok hk hki hun hd => by
        refine hfree k ok hk hki ?_ hd
        by_cases hjk : j = k
        · subst hjk; exact hjun
        · rw [getD_set_ne true hjk] at hun; exact hun
      obtain ⟨e, L, H0⟩ := s
      -- j first, then i
      have after : ∀ (u : T) (L' : Loc) (H' : Heap), (∀ k cs, L.get k = some cs → isStore oj.op = false → L'.get k = some cs) → (noLoad ops (listed.setIfInBounds j true) = false → ∀ p ∈ pins, p ∈ H') →
          aAny P tab esc pins ops K f ((listed.setIfInBounds i true).setIfInBounds j true) ⟨(e.put oi.dst t).put oj.dst u, L', H'⟩ → aAny P tab esc pins ops K (f + 1) (listed.setIfInBounds j true) ⟨e.put oj.dst u, L', H'⟩ := by
        intro u L' H' hL hp' hA
        refine ih (listed.setIfInBounds j true) ⟨e.put oj.dst u, L', H'⟩ hp' (closed_set hc hj) hfree' (ready_mono hr (Ne.symm hji)) ?_
        refine (mobile_iff hi hm).2 ⟨t, ?_, ?_⟩
        · refine aG_congr (e := e) (fun d hd => (get_put_ne (l4 d hd)).symm) (aG_mono hy (fun hy => ?_) id)
          have e1 : ares tab oi.op (e.put oj.dst u).ev L' pins = ares tab oi.op e.ev L' pins := ares_congr fun x hx => ev_put_ne (l3 x hx)
          show (ares tab oi.op (e.put oj.dst u).ev L' pins).run _
          rw [e1]
          cases hl : isLoad oi.op with
          | true =>
            rw [hl] at hls
            exact load_keep hl (fun k cs hk => hL k cs hk (by simpa using hls)) hy
          | false => rw [ares_noload (L := L') (L' := L) hl]; exact hy
        · rw [Array.setIfInBounds_comm _ _ hji]
          exact aAny_eqv hK (s := ⟨(e.put oi.dst t).put oj.dst u, L', H'⟩) (s' := ⟨(e.put oj.dst u).put oi.dst t, L', H'⟩) ⟨put_swap a2, Loc.Eqv.refl _, rfl⟩ hA
      have low : lastW ops (listed.setIfInBounds i true) j oj = true → lastW ops listed j oj = true := fun hw => by
        unfold lastW at hw ⊢
        rw [Bool.and_eq_true] at hw ⊢
        refine ⟨hw.1, ?_⟩
        have h2 := hw.2
        rw [Array.setIfInBounds_comm _ _ (Ne.symm hji)] at h2
        exact noLoad_skip hi (by rw [hw.1] at hls; simpa using hls) h2
      have up : noLoad ops (listed.setIfInBounds j true) = false → noLoad ops listed = false := fun h0 => by
        cases hh : noLoad ops listed with
        | false => rfl
        | true => rw [noLoad_mono hh] at h0; cases h0
      have lo2 : lastW ops listed j oj = false → lastW ops (listed.setIfInBounds i true) j oj = false := fun h0 => by
        cases hh : lastW ops (listed.setIfInBounds i true) j oj with
        | false => rfl
        | true => rw [low hh] at h0; cases h0
      unfold aOpAt at h1 ⊢
      simp only [hoj] at h1 ⊢
      refine aG_mono (aG_congr (e := e.put oi.dst t) (e' := e) (fun d hd => get_put_ne (l2 d hd)) h1) (fun hyes => ?_) (fun hno => ?_)
      · refine aop_map (e := e.put oi.dst t) (fun x hx => ev_put_ne (l1 x hx)) (fun d _ hf => ?_) (Env.low_put hlo) (fun u L' H' hL hH hk => keepP_iff.2 ⟨fun h0 => (keepP_iff.1 hk).1 (by
          rw [Bool.or_eq_false_iff] at h0 ⊢
          exact ⟨h0.1, lo2 h0.2⟩), after u L' H' hL (fun h0 => pinned hH (fun hmj => (keepP_iff.1 hk).1 (by
          rw [hmj, Bool.false_or]
          exact lo2 (by unfold lastW; rw [h0, Bool.and_false]))) (hp (up h0))) (keepP_iff.1 hk).2⟩) hyes
        cases hd : oi.dst with
        | none => rw [hd] at hf; exact hf
        | some k =>
          rw [hd] at hf
          rw [Env.free_iff] at hf ⊢
          exact fun p hp => hf p (List.mem_cons_of_mem _ hp)
      · exact after .undef L H0 (fun _ _ h _ => h) (fun h0 => hp (up h0)) hno

theorem okM_spec {i : Nat} {listed : Array Bool} (h : okM tab esc ops i listed = true) : ∃ oi, ops[i]? = some oi ∧ mobile tab esc oi = true ∧
    ∀ j oj, ops[j]? = some oj → j ≠ i → listed.getD j true = false → dependsB .any ops ops.size j i = false → oi.apart ops oj = true ∧ (isLoad oi.op && isStore oj.op) = false := by
  unfold okM at h
  split at h
  · cases h
  · rename_i oi hi
    rw [Bool.and_eq_true] at h
    refine ⟨oi, hi, h.1, fun j oj hj hne hl hd => ?_⟩
    have hlt : j < ops.size := (Array.getElem?_eq_some_iff.1 hj).1
    have := List.all_eq_true.1 h.2 j (List.mem_range.2 hlt)
    rw [hl, hd] at this
    have hb : Nat.beq j i = false := by
      cases hb : Nat.beq j i with
      | false => rfl
      | true => exact absurd (beq_true hb) hne
    rw [hb] at this
    simp only [Bool.false_or, hj, Bool.and_eq_true, Bool.not_eq_true'] at this
    exact this

theorem okA_spec {i : Nat} {listed : Array Bool} (h : okA esc ops i listed = true) : ∃ oi t d, ops[i]? = some oi ∧ oi.op = .alloc t ∧ oi.guard = none ∧ oi.dst = some d ∧ esc d = false ∧
    ∀ j oj, ops[j]? = some oj → j ≠ i → listed.getD j true = false → dependsB .any ops ops.size j i = false → oi.apart ops oj = true ∧ (isVar oj.op = false ∨ newLoc esc oj = true) ∧ isStore oj.op = false := by
  unfold okA at h
  split at h
  · cases h
  · rename_i oi hi
    rw [Bool.and_eq_true] at h
    obtain ⟨h1, h2⟩ := h
    split at h1
    · rename_i t d ho hg hd
      refine ⟨oi, t, d, hi, ho, hg, hd, by simpa using h1, fun j oj hj hne hl hdj => ?_⟩
      have hlt : j < ops.size := (Array.getElem?_eq_some_iff.1 hj).1
      have := List.all_eq_true.1 h2 j (List.mem_range.2 hlt)
      rw [hl, hdj] at this
      have hb : Nat.beq j i = false := by
        cases hb : Nat.beq j i with
        | false => rfl
        | true => exact absurd (beq_true hb) hne
      rw [hb] at this
      simp only [Bool.false_or, hj, Bool.and_eq_true, Bool.or_eq_true, Bool.not_eq_true'] at this
      exact this
    · cases h1
theorem alloc_iff {listed : Array Bool} {i : Nat} {oi : Oper} {t : TypeId} {d : Nat} (hi : ops[i]? = some oi) (ho : oi.op = .alloc t) (hg : oi.guard = none) (hd : oi.dst = some d) (he : esc d = false) {s : St} {K : St → Prop} :
    aOpAt P tab esc pins ops listed i s K ↔ ∃ ti, tab.get t = some ti ∧ litOk ti.zero = true ∧ s.e.free d = true ∧ s.L.get d = none ∧ (∀ q ∈ pins, q ∈ s.H) ∧ K ⟨(d, .lp d 0) :: s.e, (d, (lit ti.zero).cells) :: s.L, s.H⟩ := by
  have hm : mobile tab esc oi = false := by unfold mobile; rw [ho]; rfl
  have hl : lastW ops listed i oi = false := by unfold lastW; rw [ho]; rfl
  unfold aOpAt
  simp only [hi]
  unfold aG
  rw [hg]
  simp only
  unfold aop
  rw [hm, hl]
  have hmo : mapOp tab (.alloc t) = false := rfl
  simp only [ho, hmo, cond_false]
  cases ht : tab.get t with
  | none => simp
  | some ti =>
    simp only [Option.some.injEq, exists_eq_left']
    cases hz : litOk ti.zero with
    | false => simp
    | true =>
      simp only [cond_true, true_and]
      unfold newVarK
      rw [hd]
      simp only [he, cond_false]
      cases hf : s.e.free d with
      | false => simp
      | true =>
        cases hn : s.L.get d with
        | some c => simp
        | none =>
          simp only [Option.isNone_none, Bool.and_self, cond_true, true_and]
          rw [keepP_iff]
          simp
theorem free_put {e : Env} {d : Nat} {x : Option Tmp} {t : T} (h : e.free d = true) (ht : ∀ off, t ≠ .lp d off) : (e.put x t).free d = true := by
  cases x with
  | none => exact h
  | some k =>
    rw [Env.free_iff] at h ⊢
    intro p hp off
    rcases List.mem_cons.1 hp with rfl | hp
    · exact ht off
    · exact h p hp off
theorem free_get {e : Env} {d : Nat} (h : e.free d = true) : ∀ i off, e.get i ≠ .lp d off := by
  rw [Env.free_iff] at h
  induction e with
  | nil => intro i off hh; cases hh
  | cons p r ih =>
    obtain ⟨k, t⟩ := p
    intro i off
    simp only [Env.get]
    cases hb : Nat.beq k i with
    | true => exact h (k, t) (by simp) off
    | false => exact ih (fun p hp => h p (List.mem_cons_of_mem _ hp)) i off
theorem free_ev {e : Env} {d : Nat} (h : e.free d = true) (x : Operand) : ∀ off, e.ev x ≠ .lp d off := by
  intro off
  cases x with
  | tmp t => exact free_get h t off
  | const v =>
    show (bif litOk v then T.g (lit v) else .junk) ≠ _
    cases litOk v <;> simp
  | global g => simp [Env.ev]
  | func f => simp [Env.ev]
theorem aAny_alloc {K : St → Prop} (hK : ∀ a b, St.Eqv a b → K a → K b) {i : Nat} {oi : Oper} {t : TypeId} {d : Nat} (hi : ops[i]? = some oi) (ho : oi.op = .alloc t) (hg : oi.guard = none) (hd : oi.dst = some d) (hlo : P.lo ≤ d) (he : esc d = false) :
    ∀ (f : Nat) (listed : Array Bool) (s : St), Closed .any ops listed →
      (∀ j oj, ops[j]? = some oj → j ≠ i → listed.getD j true = false → dependsB .any ops ops.size j i = false → oi.apart ops oj = true ∧ (isVar oj.op = false ∨ newLoc esc oj = true) ∧ isStore oj.op = false) →
      i ∈ Region.ready .any ops listed → aOpAt P tab esc pins ops listed i s (aAny P tab esc pins ops K f (listed.setIfInBounds i true)) → aAny P tab esc pins ops K (f + 1) listed s := by
  intro f
  induction f with
  | zero =>
    intro listed s _ _ hr H
    refine ⟨fun h => (by rw [h] at hr; cases hr), fun j hj => ?_⟩
    by_cases hji : j = i
    · subst hji; exact H
    · obtain ⟨ti, _, _, _, _, _, h⟩ := (alloc_iff hi ho hg hd he).1 H
      have := ready_mono hj hji
      rw [h.1] at this
      cases this
  | succ f ih =>
    intro listed s hc hfree hr H
    refine ⟨fun h => (by rw [h] at hr; cases hr), fun j hj => ?_⟩
    by_cases hji : j = i
    · subst hji; exact H
    · obtain ⟨ti, hti, hz, hfr, hLn, hpin, h⟩ := (alloc_iff hi ho hg hd he).1 H
      have h1 := h.2 j (ready_mono hj hji)
      obtain ⟨hjun, oj, hoj, hall⟩ := mem_ready.1 hj
      have hiun := (mem_ready.1 hr).1
      have hdep : dependsB .any ops ops.size j i = false := by
        cases hd : dependsB .any ops ops.size j i with
        | false => rfl
        | true =>
          have := dep_listed hc _ _ _ hd (Or.inl hj)
          rcases Nat.lt_or_ge i listed.size with h' | h'
          · simp [h'] at hiun this; rw [hiun] at this; cases this
          · simp [Array.getElem?_eq_none h'] at hiun
      obtain ⟨hap, hvj, hsj⟩ := hfree j oj hoj hji hjun hdep
      obtain ⟨a1, a2, a3⟩ := Oper.apart_spec hap
      obtain ⟨l1, l2⟩ := look_ops (ops := ops) a1
      obtain ⟨l3, l4⟩ := look_ops (ops := ops) a3
      have hfree' : ∀ k ok, ops[k]? = some ok → k ≠ i → (listed.setIfInBounds j true).getD k true = false → dependsB .any ops ops.size k i = false → oi.apart ops ok = true ∧ (isVar ok.op = false ∨ newLoc esc ok = true) ∧ isStore ok.op = false := fun k ok hk hki hun hd => by
        refine hfree k ok hk hki ?_ hd
        by_cases hjk : j = k
        · subst hjk; exact hjun
        · rw [getD_set_ne true hjk] at hun; exact hun
      have hlw : ∀ l : Array Bool, lastW ops l j oj = false := fun l => by unfold lastW; rw [hsj]; rfl
      obtain ⟨e, L, H0⟩ := s
      simp only at hfr hLn hpin h1
      -- j first, then i
      have after : ∀ (u : T) (L' : Loc) (H' : Heap), (∀ off, u ≠ .lp d off) → L'.get d = none → (∀ p ∈ pins, p ∈ H') →
          aAny P tab esc pins ops K f ((listed.setIfInBounds i true).setIfInBounds j true) ⟨Env.put ((d, .lp d 0) :: e) oj.dst u, (d, (lit ti.zero).cells) :: L', H'⟩ → aAny P tab esc pins ops K (f + 1) (listed.setIfInBounds j true) ⟨e.put oj.dst u, L', H'⟩ := by
        intro u L' H' hu hL' hp' hA
        refine ih (listed.setIfInBounds j true) ⟨e.put oj.dst u, L', H'⟩ (closed_set hc hj) hfree' (ready_mono hr (Ne.symm hji)) ?_
        refine (alloc_iff hi ho hg hd he).2 ⟨ti, hti, hz, free_put hfr hu, hL', hp', ?_⟩
        rw [Array.setIfInBounds_comm _ _ hji]
        have sw := put_swap (e := e) (d := oi.dst) (d' := oj.dst) (t := .lp d 0) (t' := u) a2
        rw [hd] at sw
        exact aAny_eqv hK (s := ⟨Env.put ((d, .lp d 0) :: e) oj.dst u, (d, (lit ti.zero).cells) :: L', H'⟩) (s' := ⟨(d, .lp d 0) :: e.put oj.dst u, (d, (lit ti.zero).cells) :: L', H'⟩) ⟨sw, Loc.Eqv.refl _, rfl⟩ hA
      rcases hvj with hvj | hvj
      rotate_left
      · obtain ⟨tj, dj, hopj, hgj, hdj, hej⟩ := newLoc_spec hvj
        obtain ⟨tij, j1, j2, j3, j4, j5, j6⟩ := (alloc_iff hoj hopj hgj hdj hej).1 h1
        simp only at j3 j4 j5 j6
        have hdd : d ≠ dj := fun e => by
          rw [← e] at j4
          simp [Loc.get] at j4
        have hj3 : e.free dj = true := by
          rw [Env.free_iff] at j3 ⊢
          exact fun p hp => j3 p (List.mem_cons_of_mem _ hp)
        have hj4 : L.get dj = none := by
          rw [Loc.get_cons (Ne.symm hdd)] at j4
          exact j4
        refine (alloc_iff hoj hopj hgj hdj hej).2 ⟨tij, j1, j2, hj3, hj4, hpin, ?_⟩
        refine ih (listed.setIfInBounds j true) ⟨(dj, .lp dj 0) :: e, (dj, (lit tij.zero).cells) :: L, H0⟩ (closed_set hc hj) hfree' (ready_mono hr (Ne.symm hji)) ?_
        refine (alloc_iff hi ho hg hd he).2 ⟨ti, hti, hz, ?_, ?_, hpin, ?_⟩
        · show Env.free ((dj, .lp dj 0) :: e) d = true
          rw [Env.free_iff]
          intro p hp off
          rcases List.mem_cons.1 hp with rfl | hp
          · simp only [ne_eq, T.lp.injEq, not_and]
            exact fun e => absurd e.symm hdd
          · rw [Env.free_iff] at hfr
            exact hfr p hp off
        · show Loc.get ((dj, _) :: L) d = none
          rw [Loc.get_cons hdd]
          exact hLn
        · rw [Array.setIfInBounds_comm _ _ hji]
          have sw := put_swap (e := e) (d := some d) (d' := some dj) (t := .lp d 0) (t' := .lp dj 0) (fun k hk h => hdd (by cases hk; cases h; rfl))
          exact aAny_eqv hK (s := ⟨(dj, .lp dj 0) :: (d, .lp d 0) :: e, (dj, (lit tij.zero).cells) :: (d, (lit ti.zero).cells) :: L, H0⟩) (s' := ⟨(d, .lp d 0) :: (dj, .lp dj 0) :: e, (d, (lit ti.zero).cells) :: (dj, (lit tij.zero).cells) :: L, H0⟩) ⟨sw, Loc.eqv_swap _ _ _ (Ne.symm hdd), rfl⟩ j6
      unfold aOpAt at h1 ⊢
      simp only [hoj] at h1 ⊢
      have hne : ∀ x ∈ oj.op.operands, Env.ev ((d, .lp d 0) :: e) x = e.ev x := fun x hx => ev_put_ne (d := some d) (fun k hk => l1 x hx k (by rw [hd]; exact hk))
      refine aG_mono (aG_congr (e := (d, .lp d 0) :: e) (e' := e) (fun k hk => get_put_ne (d := some d) (fun h => l2 k hk (by rw [hd]; exact h))) h1) (fun hyes => ?_) (fun hno => ?_)
      · have h2 := aop_map (e' := e) (K' := fun s' => ∃ u, s'.e = e.put oj.dst u ∧ keepP (mobile tab esc oj || lastW ops (listed.setIfInBounds i true) j oj) pins s'.H (aAny P tab esc pins ops K f ((listed.setIfInBounds i true).setIfInBounds j true) ⟨Env.put ((d, .lp d 0) :: e) oj.dst u, s'.L, s'.H⟩)) hne (fun k _ hf => by
          rw [Env.free_iff] at hf ⊢
          exact fun p hp => hf p (List.mem_cons_of_mem _ hp)) (Env.low_put (d := some d) fun k hk => by cases hk; exact hlo) (fun u L' H' _ _ hk => ⟨u, rfl, hk⟩) hyes
        refine aop_L hvj (fun x _ => free_ev hfr x) hLn (fun u L' H' hu hL' hmob hk => ?_) h2
        obtain ⟨u', hu', hk⟩ := hk
        simp only at hu' hk
        have hsame : Env.put ((d, .lp d 0) :: e) oj.dst u' = Env.put ((d, .lp d 0) :: e) oj.dst u := by
          cases hdj : oj.dst with
          | none => rfl
          | some k =>
            rw [hdj] at hu'
            simp only [Env.put, List.cons.injEq, Prod.mk.injEq, true_and, and_true] at hu'
            rw [hu']
        rw [hsame, hlw] at hk
        rw [hlw]
        have hpins : ∀ q ∈ pins, q ∈ H' := by
          cases hmo : mobile tab esc oj with
          | true => rw [hmob hmo]; exact hpin
          | false => exact (keepP_iff.1 hk).1 (by rw [hmo]; rfl)
        exact keepP_iff.2 ⟨fun _ => hpins, after u L' H' hu hL' hpins (keepP_iff.1 hk).2⟩
      · exact after .undef L H0 (fun _ => by simp) hLn hpin hno

theorem aOrd_any {K : St → Prop} (hK : ∀ a b, St.Eqv a b → K a → K b) (hlo : loOk P.lo ops = true) : ∀ {ord : List Nat} {listed : Array Bool} {s : St}, ordOk tab esc ops ord listed = true → Closed .any ops listed → (noLoad ops listed = false → ∀ p ∈ pins, p ∈ s.H) → aOrd P tab esc pins ops ord listed s K → aAny P tab esc pins ops K ord.length listed s
  | [], listed, s, ho, _, _, h => by
    simp only [ordOk, List.isEmpty_iff] at ho
    exact ⟨ho, h⟩
  | i :: r, listed, s, ho, hc, hp, h => by
    simp only [ordOk, Bool.and_eq_true, List.contains_eq_mem, decide_eq_true_eq, Bool.or_eq_true, beq_iff_eq] at ho
    obtain ⟨⟨hr, hm⟩, ho⟩ := ho
    have hc' := closed_set hc hr
    have up : noLoad ops (listed.setIfInBounds i true) = false → noLoad ops listed = false := fun h0 => by
      cases hh : noLoad ops listed with
      | false => rfl
      | true => rw [noLoad_mono hh] at h0; cases h0
    rcases hm with hm | hm
    · obtain ⟨oi, hi, hmo, hfree⟩ := okM_spec hm
      refine aAny_first hK hi (loOk_at hlo hi) hmo r.length listed s hp hc hfree hr ?_
      obtain ⟨t, hy, h⟩ := (mobile_iff hi hmo).1 h
      exact (mobile_iff hi hmo).2 ⟨t, hy, aOrd_any hK hlo ho hc' (fun h0 => hp (up h0)) h⟩
    rcases hm with hm | hm
    rotate_left
    · obtain ⟨oi, t, d, hi, hop, hg, hd, he, hfree⟩ := okA_spec hm
      refine aAny_alloc hK hi hop hg hd (loOk_at hlo hi d hd) he r.length listed s hc hfree hr ?_
      obtain ⟨ti, k1, k2, k3, k4, k5, k6⟩ := (alloc_iff hi hop hg hd he).1 h
      exact (alloc_iff hi hop hg hd he).2 ⟨ti, k1, k2, k3, k4, k5, aOrd_any hK hlo ho hc' (fun _ => k5) k6⟩
    · refine ⟨fun h0 => (by rw [hm] at h0; cases h0), fun j hj => ?_⟩
      rw [hm] at hj
      obtain rfl : j = i := by simpa using hj
      show aOpAt P tab esc pins ops listed j s _
      unfold aOrd aOpAt at h
      unfold aOpAt
      split at h
      · exact h
      · refine aG_mono h (fun hy => ?_) (fun hn => aOrd_any hK hlo ho hc' (fun h0 => hp (up h0)) hn)
        obtain ⟨e, L, H⟩ := s
        exact aop_map (fun x _ => rfl) (fun _ _ h => h) rfl (fun t L' H' _ hH hk => keepP_iff.2 ⟨(keepP_iff.1 hk).1, aOrd_any hK hlo ho hc' (fun h0 => pinned hH (fun hmj => (keepP_iff.1 hk).1 (by
          rw [hmj, Bool.false_or]
          unfold lastW; rw [h0, Bool.and_false])) (hp (up h0))) (keepP_iff.1 hk).2⟩) hy
end
end Go.Proofs.YtahdkhklngjmoaaGreatDoor

/-
  The abstract machine: code, and how a contract is shown. No condition.
-/
namespace Go.Proofs.YtahdkhklngjmoaaGreatDoor
open Go.RowKit

section
variable {P : Pr} {tab : Tab} {B : Base} {N : Nat} {esc : Nat → Bool} {pins : Heap} {ops : Array Oper}

theorem Conc.eqv {s s' : St} {a : Act} {w : World} (h : s.Eqv s') (hc : Conc B N s a w) : Conc B N s' a w := by
  obtain ⟨e, L, H⟩ := s
  obtain ⟨e', L', H'⟩ := s'
  obtain ⟨h1, hL, h3⟩ := h
  simp only at h3
  subst h3
  obtain ⟨M, lm, hc⟩ := hc
  have hp : (lheap lm L ++ H).Perm (lheap lm L' ++ H) := List.Perm.append_right H (hL.1.map _)
  have hpk : ∀ b, b ∈ Heap.keys (lheap lm L' ++ H) ↔ b ∈ Heap.keys (lheap lm L ++ H) := fun b => (hp.map (·.1)).mem_iff.symm
  exact ⟨M, lm, hc.evo, fun b hb => hc.keys b ((hpk b).1 hb), hc.inv.perm hp, hc.size, hc.defers.sub fun b hb => (hpk b).1 hb, fun i => by have := hc.env i; rw [h1.2 i] at this; exact this⟩
theorem St.Eqv.symm {s s' : St} (h : s.Eqv s') : s'.Eqv s := ⟨⟨h.1.1.symm, fun i => (h.1.2 i).symm⟩, h.2.1.symm, h.2.2.symm⟩
theorem St.Eqv.trans {a b c : St} (h : a.Eqv b) (k : b.Eqv c) : a.Eqv c := ⟨⟨h.1.1.trans k.1.1, fun i => (h.1.2 i).trans (k.1.2 i)⟩, h.2.1.trans k.2.1, h.2.2.trans k.2.2⟩
theorem St.Eqv.refl (a : St) : a.Eqv a := ⟨Env.Eqv.refl _, Loc.Eqv.refl _, rfl⟩

theorem aop_still {R R' : Heap} {o : Oper} {s : St} {K : St → Prop} (h : isLoad o.op = false) : aop P tab esc R o s K = aop P tab esc R' o s K := by
  have e : ares tab o.op s.e.ev s.L R = ares tab o.op s.e.ev s.L R' := by
    obtain ⟨d, op, ty, p, af, g⟩ := o
    cases op <;> first | rfl | cases h
  unfold aop
  rw [e]
theorem any_sound {ρ : Option Nat} {n : Nat} (hP : TabOk P tab) {Q : Exit → Act → World → Prop} {K : St → Prop} (hQ : ∀ s a w, Conc B N s a w → K s → Q .normal a w) (hX : ∀ x a w, PX P B N x a w → Q x a w) (hd : ∀ (i : Nat) (o : Oper), ops[i]? = some o → dstOk N o = true) : ∀ (f : Nat) (listed : Array Bool) (s : St) (a : Act) (w : World), (noLoad ops listed = false → ∀ p ∈ pins, p ∈ s.H) →
    aAny P tab esc pins ops K f listed s → Conc B N s a w → wpAnyIn (Fr ρ) n P .any ops Q f listed a w
  | 0, _, s, a, w, _, ⟨h1, h2⟩, hc => ⟨h1, hQ s a w hc h2⟩
  | f + 1, listed, s, a, w, hp, ⟨h1, h2⟩, hc => by
    refine ⟨fun h0 => hQ s a w hc (h1 h0), fun i hi => ?_⟩
    have h := h2 i hi
    have hun := (mem_ready.1 hi).1
    have up : noLoad ops (listed.setIfInBounds i true) = false → noLoad ops listed = false := fun h0 => by
      cases hh : noLoad ops listed with
      | false => rfl
      | true => rw [noLoad_mono hh] at h0; cases h0
    unfold aOpAt at h
    unfold wpOpIn
    split at h
    · exact h.elim
    · rename_i o ho
      simp only [ho]
      have hdo := hd i o ho
      have hc' := hc
      obtain ⟨M, lm, hca⟩ := hc
      rcases wanted_of hca.env h with ⟨hw, h⟩ | ⟨hw, h⟩
      · rw [if_pos hw]
        have h' : aop P tab esc pins o s (fun s' => (noLoad ops (listed.setIfInBounds i true) = false → ∀ p ∈ pins, p ∈ s'.H) ∧ aAny P tab esc pins ops K f (listed.setIfInBounds i true) s') := by
          obtain ⟨e, L, H⟩ := s
          exact aop_map (fun _ _ => rfl) (fun _ _ h => h) rfl (fun t L' H' _ hH hk => ⟨fun h0 => pinned hH (fun hmj => (keepP_iff.1 hk).1 (by
            rw [hmj, Bool.false_or]
            unfold lastW; rw [h0, Bool.and_false])) (hp (up h0)), (keepP_iff.1 hk).2⟩) h
        cases hnl : noLoad ops listed with
        | false => exact Oper_wpIn_exit (fun a' w' ⟨s', k1, k2, k3⟩ => any_sound hP hQ hX hd f _ s' a' w' k2 k3 k1) hX (aop_sound hP (hp hnl) hdo h' hca)
        | true =>
          rw [aop_still (R' := []) (noLoad_at ho hun hnl)] at h'
          exact Oper_wpIn_exit (fun a' w' ⟨s', k1, k2, k3⟩ => any_sound hP hQ hX hd f _ s' a' w' k2 k3 k1) hX (aop_sound hP (fun p hp => absurd hp List.not_mem_nil) hdo h' hca)
      · rw [if_neg (by rw [hw]; simp)]
        exact ⟨fun _ _ => trivial, any_sound hP hQ hX hd f _ (s.put o.dst .undef) _ _ (fun h0 => hp (up h0)) h (hc'.skip hdo)⟩
end

/-- a region -/
def awpReg (P : Pr) (tab : Tab) (esc : Nat → Bool) (_ : Nat) (ops : Array Oper) (draw : Bool) (s : St) (K : St → Prop) : Prop :=
  match draw with
  | false => aText P tab esc ops ops.toList s K
  | true => ∃ (ord : List Nat) (pins : Heap), (Nat.beq ord.length ops.size && (loOk P.lo ops && ordOk tab esc ops ord (Array.replicate ops.size false))) = true ∧ (∀ p ∈ pins, p ∈ s.H) ∧ aOrd P tab esc pins ops ord (Array.replicate ops.size false) s K

/-- every slot that a code's regions write is one of the frame's -/
def slotsOk (N : Nat) : Code → Bool
  | .region _ ops _ => ops.toList.all (dstOk N)
  | .seq a b => slotsOk N a && slotsOk N b
  | .cond _ a b => slotsOk N a && slotsOk N b
  | .block _ c => slotsOk N c
  | .loop c => slotsOk N c
  | .rangeFunc _ ps a b => ps.toList.all (Nat.blt · N) && slotsOk N a && slotsOk N b
  | _ => true

/-! weakening -/
def T.le : T → T → Prop
  | _, .junk => True
  | .g x, .g y => Le x y
  | .lp k o, .lp k' o' => k = k' ∧ o = o'
  | .undef, .undef => True
  | _, _ => False
/-- what a frame holds is at least what another one asks, slot by slot -/
def Env.le (e : Env) : Env → Prop
  | [] => True
  | (k, t) :: r => T.le (e.get k) t ∧ Env.le e r
def Loc.w : Loc → Loc → Prop
  | [], [] => True
  | (k, xs) :: r, (k', ys) :: r' => (k = k' ∧ LeL xs ys) ∧ Loc.w r r'
  | _, _ => False
/-- a state is at least another one: what is known in that is known in it; the sites that came last may be gone -/
structure St.le (s t : St) : Prop where
  e : Env.le s.e t.e
  L : Loc.w (s.L.drop (s.L.length - t.L.length)) t.L
  H : t.H.Sublist s.H

/-- CODE: what is true behind it, in which state it ends -/
def awp (P : Pr) (tab : Tab) (esc : Nat → Bool) (N : Nat) : Code → (Exit → St → Prop) → St → Prop
  | .skip, Q, s => Q .normal s
  | .region _ ops draw, Q, s => awpReg P tab esc N ops draw s (Q .normal)
  | .seq a b, Q, s => awp P tab esc N a (fun x s' => match x with
    | .normal => awp P tab esc N b Q s'
    | x => Q x s') s
  | .cond c a b, Q, s => match s.e.ev c with
    | .g (.v (.bool q)) => ifB q (awp P tab esc N a Q s) (awp P tab esc N b Q s)
    | _ => False
  | .block id c, Q, s => awp P tab esc N c (fun x s' => match x with
    | .exit id' => bif Nat.beq id' id then Q .normal s' else Q (.exit id') s'
    | x => Q x s') s
  | .loop c, Q, s => ∃ (X : Type) (st : X → St) (I : X → Prop) (μ : X → Nat), (∃ x, I x ∧ St.le s (st x)) ∧ ∀ x, I x → awp P tab esc N c (fun e s' => match e with
    | .normal => ∃ x', I x' ∧ μ x' < μ x ∧ St.le s' (st x')
    | e => Q e s') (st x)
  | .exit id, Q, s => Q (.exit id) s
  | .ret, Q, s => Q .ret s
  | _, _, _ => False

section
variable {P : Pr} {tab : Tab} {B : Base} {N : Nat} {esc : Nat → Bool}

theorem T.le.rep {M : Mem} {lm : Nat → Nat} {t t' : T} {u : Value} (h : T.le t t') (ht : repX M lm t u) : repX M lm t' u := by
  cases t' with
  | junk => trivial
  | g y =>
    cases t with
    | g x => exact h M u ht
    | _ => exact h.elim
  | lp k o =>
    cases t with
    | lp k' o' => obtain ⟨rfl, rfl⟩ := h; exact ht
    | _ => exact h.elim
  | undef =>
    cases t with
    | undef => exact ht
    | _ => exact h.elim
theorem Env.le.get {e : Env} : ∀ {e' : Env}, Env.le e e' → ∀ i, T.le (e.get i) (e'.get i)
  | [], _, i => by cases e.get i <;> trivial
  | (k, t) :: r, h, i => by
    show T.le (e.get i) (bif Nat.beq k i then t else Env.get r i)
    cases hb : Nat.beq k i with
    | true => rw [← beq_true hb]; exact h.1
    | false => exact Env.le.get h.2 i
theorem Loc.w.objs {lm : Nat → Nat} {M : Mem} {w : World} : ∀ {L L' : Loc}, Loc.w L L' → (lheap lm L').keys = (lheap lm L).keys ∧ ((∀ b x, (b, x) ∈ lheap lm L → objOk M w b x) → ∀ b x, (b, x) ∈ lheap lm L' → objOk M w b x)
  | [], [], _ => ⟨rfl, fun h => h⟩
  | (k, xs) :: r, (k', ys) :: r', h => by
    obtain ⟨⟨rfl, hl⟩, h⟩ := h
    obtain ⟨h1, h2⟩ := Loc.w.objs (lm := lm) (M := M) (w := w) h
    refine ⟨?_, fun ho b x hx => ?_⟩
    · show lm k :: (lheap lm r').keys = lm k :: (lheap lm r).keys
      rw [h1]
    · rcases List.mem_cons.1 hx with hx | hx
      · cases hx
        obtain ⟨g1, cs, T0, g2, g3⟩ := ho (lm k) (.cells xs) (by simp [lheap])
        exact ⟨g1, cs, T0, g2, hl.repC g3⟩
      · exact h2 (fun b x hb => ho b x (List.mem_cons_of_mem _ hb)) b x hx
  | [], _ :: _, h => h.elim
  | _ :: _, [], h => h.elim
theorem lheap_drop (lm : Nat → Nat) (L : Loc) (n : Nat) : lheap lm (L.drop n) = (lheap lm L).drop n := by simp [lheap]
theorem Conc.le {s t : St} {a : Act} {w : World} (h : St.le s t) (hc : Conc B N s a w) : Conc B N t a w := by
  obtain ⟨M, lm, hc⟩ := hc
  have hsub : (lheap lm (s.L.drop (s.L.length - t.L.length)) ++ t.H).Sublist (lheap lm s.L ++ s.H) := by
    rw [lheap_drop]
    exact (List.drop_sublist _ _).append h.H
  have hi := hc.inv.sub hsub
  obtain ⟨k1, k2⟩ := Loc.w.objs (lm := lm) (M := M) (w := w) h.L
  have hkeys : Heap.keys (lheap lm t.L ++ t.H) = Heap.keys (lheap lm (s.L.drop (s.L.length - t.L.length)) ++ t.H) := by
    rw [Heap.keys_append, Heap.keys_append, k1]
  refine ⟨M, lm, hc.evo, fun b hb => ?_, ⟨hi.mem, fun b x hx => ?_, by rw [hkeys]; exact hi.nodup⟩, hc.size, hc.defers.sub fun b hb => (hsub.map _).subset (by rw [hkeys] at hb; exact hb), fun i => (h.e.get i).rep (hc.env i)⟩
  · rw [hkeys] at hb
    exact hc.keys b ((hsub.map _).subset hb)
  · rcases List.mem_append.1 hx with hx | hx
    · exact k2 (fun b x hb => hi.obj b x (List.mem_append.2 (Or.inl hb))) b x hx
    · exact hi.obj b x (List.mem_append.2 (Or.inr hx))

/-- a post over states, as a post over frames and worlds -/
def QC (P : Pr) (B : Base) (N : Nat) (Q : Exit → St → Prop) (x : Exit) (a : Act) (w : World) : Prop := (∃ s, Conc B N s a w ∧ Q x s) ∨ PX P B N x a w
theorem PX.panic {x : Exit} {a : Act} {w : World} (h : PX P B N x a w) : ∃ ch, x = .panic ch ∧ PX P B N (.panic ch) a w := by
  obtain ⟨ch, v, s', rfl, h⟩ := h
  exact ⟨ch, rfl, ch, v, s', rfl, h⟩

theorem awp_sound {ρ : Option Nat} {n : Nat} (hP : TabOk P tab) (hm : P.p.follows .mixedOrders = true) : ∀ (c : Code) (Q : Exit → St → Prop) (s : St) (a : Act) (w : World), slotsOk N c = true → awp P tab esc N c Q s → Conc B N s a w → c.wpIn (Fr ρ) n P (QC P B N Q) a w
  | .skip, Q, s, a, w, _, h, hc => wpIn_skip (Or.inl ⟨s, hc, h⟩)
  | .region id ops draw, Q, s, a, w, hs, h, hc => by
    have hd : ∀ o ∈ ops.toList, dstOk N o = true := fun o ho => List.all_eq_true.1 hs o ho
    have hops : ∀ j : Nat, ops.toList[j]? = ops[0 + j]? := fun j => by simp
    cases draw with
    | false =>
      refine wpIn_region ?_
      have := text_sound (ρ := ρ) (n := n) (Q := QC P B N Q) hP (ops := ops) (K := Q .normal) (fun s a w hc hk => Or.inl ⟨s, hc, hk⟩) (fun x a w hx => Or.inr hx) ops.toList 0 s a w hops hd h hc
      rw [Array.length_toList, ← List.range_eq_range'] at this
      exact this
    | true =>
      obtain ⟨ord, pins, ho, hp, h⟩ := h
      rw [Bool.and_eq_true, Bool.and_eq_true] at ho
      refine wpIn_region_any hm ?_
      have hany := aOrd_any (K := fun s => ∃ s', s'.Eqv s ∧ Q .normal s') (fun a b hab ⟨s', h1, h2⟩ => ⟨s', h1.trans hab, h2⟩) ho.2.1 ho.2.2
        (fun j o hj => by exfalso; simp [Array.getElem?_replicate] at hj; split at hj <;> simp at hj) (fun _ => hp) (aOrd_mono (fun s hs => ⟨s, St.Eqv.refl s, hs⟩) h)
      rw [beq_true ho.1] at hany
      exact any_sound (Q := QC P B N Q) hP (fun s a w hc ⟨s', h1, h2⟩ => Or.inl ⟨s', hc.eqv h1.symm, h2⟩) (fun x a w hx => Or.inr hx) (fun i o ho => hd o (by
        have := Array.mem_of_getElem? ho
        simpa using this)) _ _ s a _ (fun _ => hp) hany hc.drew
  | .seq x y, Q, s, a, w, hs, h, hc => by
    simp only [slotsOk, Bool.and_eq_true] at hs
    refine wpIn_seq (wpIn_mono (awp_sound hP hm x _ s a w hs.1 h hc) ?_)
    rintro e a' w' (⟨s', h1, h2⟩ | hx)
    rotate_left
    · obtain ⟨ch, rfl, hx⟩ := hx.panic
      exact Or.inr hx
    cases e with
    | normal => exact awp_sound hP hm y Q s' a' w' hs.2 h2 h1
    | _ => exact Or.inl ⟨s', h1, h2⟩
  | .cond c x y, Q, s, a, w, hs, h, hc => by
    simp only [slotsOk, Bool.and_eq_true] at hs
    simp only [awp] at h
    split at h
    · rename_i q hq
      have hcv : a.eval c = .bool q := by
        obtain ⟨M, lm, hca⟩ := hc
        have := hca.ev c
        rw [hq] at this
        simp only [repX, rep] at this
        exact this.1
      refine wpIn_cond hcv ?_
      cases q with
      | true => exact awp_sound hP hm x Q s a w hs.1 h hc
      | false => exact awp_sound hP hm y Q s a w hs.2 h hc
    · exact h.elim
  | .block id c, Q, s, a, w, hs, h, hc => by
    refine wpIn_block (wpIn_mono (awp_sound hP hm c _ s a w hs h hc) ?_)
    rintro e a' w' (⟨s', h1, h2⟩ | hx)
    rotate_left
    · obtain ⟨ch, rfl, hx⟩ := hx.panic
      exact Or.inr hx
    cases e with
    | exit id' =>
      show if id' = id then _ else _
      simp only at h2
      by_cases hid : id' = id
      · rw [if_pos hid]
        rw [hid, Nat.beq_refl] at h2
        exact Or.inl ⟨s', h1, h2⟩
      · rw [if_neg hid]
        have : Nat.beq id' id = false := by
          cases hb : Nat.beq id' id with
          | false => rfl
          | true => exact absurd (beq_true hb) hid
        rw [this] at h2
        exact Or.inl ⟨s', h1, h2⟩
    | _ => exact Or.inl ⟨s', h1, h2⟩
  | .loop c, Q, s, a, w, hs, h, hc => by
    obtain ⟨X, st, I, μ, ⟨x0, hx0, hle⟩, round⟩ := h
    refine wpIn_loop_ghost (fun n a w => ∃ x, I x ∧ μ x = n ∧ Conc B N (st x) a w) (μ x0) ⟨x0, hx0, rfl, hc.le hle⟩ ?_
    rintro n a' w' ⟨x, hx, rfl, hcx⟩
    refine wpIn_mono (awp_sound hP hm c _ (st x) a' w' hs (round x hx) hcx) ?_
    rintro e a2 w2 (⟨s', h1, h2⟩ | hx)
    rotate_left
    · obtain ⟨ch, rfl, hx⟩ := hx.panic
      exact Or.inr hx
    cases e with
    | normal =>
      obtain ⟨x', k1, k2, k3⟩ := h2
      exact ⟨μ x', k2, x', k1, rfl, h1.le k3⟩
    | _ => exact Or.inl ⟨s', h1, h2⟩
  | .exit id, Q, s, a, w, _, h, hc => wpIn_exit (Or.inl ⟨s, hc, h⟩)
  | .ret, Q, s, a, w, _, h, hc => wpIn_ret (Or.inl ⟨s, hc, h⟩)
  | .rangeFunc .., _, _, _, _, _, h, _ => h.elim
  | .scope _, _, _, _, _, _, h, _ => h.elim
  | .label _, _, _, _, _, _, h, _ => h.elim
  | .goto _, _, _, _, _, _, h, _ => h.elim
  | .refuse _, _, _, _, _, _, h, _ => h.elim
where
  aOrd_mono {pins : Heap} {ops : Array Oper} {K K' : St → Prop} (hk : ∀ s, K s → K' s) : ∀ {ord : List Nat} {listed : Array Bool} {s : St}, aOrd P tab esc pins ops ord listed s K → aOrd P tab esc pins ops ord listed s K'
    | [], _, s, h => hk s h
    | i :: r, listed, s, h => by
      show aOpAt P tab esc pins ops listed i s _
      unfold aOrd aOpAt at h
      unfold aOpAt
      split at h
      · exact h
      · refine aG_mono h (fun hy => ?_) (fun hn => aOrd_mono hk hn)
        obtain ⟨e, L, H⟩ := s
        exact aop_map (fun x _ => rfl) (fun _ _ h => h) rfl (fun t L' H' _ _ h => keepP_iff.2 ⟨(keepP_iff.1 h).1, aOrd_mono hk (keepP_iff.1 h).2⟩) hy
theorem awp_wp (hP : TabOk P tab) (hm : P.p.follows .mixedOrders = true) (c : Code) (Q : Exit → St → Prop) (s : St) (a : Act) (w : World) (hs : slotsOk N c = true) (h : awp P tab esc N c Q s) (hc : Conc B N s a w) : c.wp P (QC P B N Q) a w :=
  wpIn_wide.1 (show c.wpIn Fence.wide 0 P _ a w from awp_sound (ρ := none) hP hm c Q s a w hs h hc)
end
end Go.Proofs.YtahdkhklngjmoaaGreatDoor

/-
  The abstract machine: a contract out of a function's code. No condition.
-/
namespace Go.Proofs.YtahdkhklngjmoaaGreatDoor
open Go.RowKit

def initEnv : Nat → List AV → Env
  | _, [] => []
  | k, x :: xs => (k, .g x) :: initEnv (k + 1) xs
/-- a result -/
def aret1 (tab : Tab) (s : St) : ResultVar → Rs
  | .tmp t => .ret (s.e.get t)
  | .cell a t => readR s.L s.H (s.e.get a) fun cs => partR tab t cs
def aretL (tab : Tab) (s : St) : List ResultVar → (List AV → Prop) → Prop
  | [], K => K []
  | r :: rs, K => (aret1 tab s r).run fun t => match t with
    | .g x => aretL tab s rs fun xs => K (x :: xs)
    | _ => False
def retAV : List AV → AV
  | [x] => x
  | xs => .tup xs
/-- what a function's end must show -/
def aEnd (tab : Tab) (fn : Func) (Q : AV → Heap → Prop) (x : Exit) (s : St) : Prop :=
  match x with
  | .normal | .ret => aretL tab s fn.results.toList fun xs => ∃ r H', Le (retAV xs) r ∧ H'.Sublist s.H ∧ Q r H'
  | _ => False

section
variable {P : Program} {tab : Tab} {esc : Nat → Bool}

theorem init_env {M : Mem} {lm : Nat → Nat} : ∀ {xs : List AV} {vs : List Value} (k : Nat) (a : Array Value), repT M xs vs → (∀ j v, vs[j]? = some v → a.getD (k + j) undef = v) → ∀ i, repX M lm ((initEnv k xs).get i) (a.getD i undef)
  | [], _, _, _, _, _, _ => trivial
  | x :: xs, vs, k, a, h, ha, i => by
    simp only [repT] at h
    obtain ⟨v, vs', rfl, h1, h2⟩ := h
    show repX M lm (bif Nat.beq k i then .g x else (initEnv (k + 1) xs).get i) _
    cases hb : Nat.beq k i with
    | true =>
      have := beq_true hb
      subst this
      have := ha 0 v (by simp)
      rw [Nat.add_zero] at this
      rw [this]; exact h1
    | false => exact init_env (k + 1) a h2 (fun j u hj => by
        have := ha (j + 1) u (by simpa using hj)
        rwa [show k + (j + 1) = k + 1 + j by omega] at this) i

def resOne (a : Act) : ResultVar → Sem Value
  | .tmp t => pure (a.tmps.getD t undef)
  | .cell x t => do loadVar t (← asAddr (a.tmps.getD x undef))
theorem results_sound (hP : TabOk P tab) {s : St} {a : Act} {w : World} {M : Mem} {lm : Nat → Nat} {B : Base} {N : Nat} (hc : ConcAt B N M lm s a w) : ∀ {rs : List ResultVar} {K : List AV → Prop}, aretL tab s rs K →
    ∃ xs vs, (rs.mapM (resOne a)).run P w = .ok vs w ∧ repT M xs vs ∧ K xs
  | [], K, h => ⟨[], [], by simp, by simp [repT], h⟩
  | r :: rs, K, h => by
    simp only [aretL] at h
    obtain ⟨t, h1, h2⟩ := Rs.split h
    have one : ∃ u, (resOne a r).run P w = .ok u w ∧ repX M lm t u := by
      cases r with
      | tmp k =>
        obtain rfl : s.e.get k = t := h1
        exact ⟨_, rfl, hc.env k⟩
      | cell x ty =>
        obtain ⟨b, off, cs, vs, hv, k1, k2, k3⟩ := cells_at hc.inv (fun p hp => List.mem_append.2 (Or.inl hp)) (fun p hp => List.mem_append.2 (Or.inr hp)) (hc.env x) h1
        obtain ⟨u, k4, k5⟩ := load_part (P := P) (w := w) (lm := lm) hP k1 k2 k3
        refine ⟨u, ?_, k5⟩
        simp only [resOne, hv, asAddr, Sem.run_bind, Sem.run_pure, Result.andThen_ok, k4]
    obtain ⟨u, hu, hr⟩ := one
    split at h2
    · rename_i x
      obtain ⟨xs, vs, g1, g2, g3⟩ := results_sound hP hc h2
      refine ⟨x :: xs, u :: vs, ?_, ?_, g3⟩
      · simp only [List.mapM_cons, Sem.run_bind, hu, Result.andThen_ok, g1, Sem.run_pure]
      · simp only [repT]; exact ⟨u, vs, rfl, hr, g2⟩
    · exact h2.elim

theorem ret_rep {M : Mem} {xs : List AV} {vs : List Value} (h : repT M xs vs) : rep M (retAV xs) (if h : vs.toArray.size = 1 then vs.toArray[0] else .tuple vs.toArray) := by
  cases xs with
  | nil =>
    simp only [repT] at h
    subst h
    simp [retAV, rep, repT]
  | cons x xs =>
    cases xs with
    | nil =>
      simp only [repT] at h
      obtain ⟨v, _, rfl, h1, rfl⟩ := h
      simpa [retAV] using h1
    | cons y ys =>
      have hl := h.length
      show rep M (.tup (x :: y :: ys)) _
      rw [dif_neg (by simp [hl])]
      simp only [rep]
      exact ⟨vs, rfl, h⟩

/-- a block that holds no cell, and that nobody owns, may turn -/
theorem Inv.putObj {M : Mem} {H : Heap} {w : World} (h : Inv M H w) {b : Nat} {x y : Obj} (hb : b ∉ H.keys) (hx : w.heap[b]? = some x) (hc : ∀ o, w.cell? ⟨b, o, none⟩ = none) : Inv M H (w.putObj b y) ∧ Evo [b] M w M (w.putObj b y) := by
  have hne : ∀ k, k ≠ b → (w.putObj b y).heap[k]? = w.heap[k]? := fun k hk => World.putObj_heap_other hk
  have e : Evo [b] M w M (w.putObj b y) := ⟨rfl, rfl, rfl, by simp, fun k _ hk => hne k (by simpa using hk), Mem.le.refl M, fun _ _ _ h => Or.inl h⟩
  refine ⟨⟨fun b' o v hv => ?_, fun b' z hz => (h.obj b' z hz).keep e ?_, h.nodup⟩, e⟩
  · have hcv := h.mem b' o v hv
    by_cases hbb : b' = b
    · subst hbb; rw [hc o] at hcv; cases hcv
    · rw [← hcv]
      simp only [World.cell?, hne b' hbb]
  · have := Heap.mem_keys hz
    simp only [List.mem_singleton]
    rintro rfl
    exact hb this
theorem cell_deferred {w : World} {b : Nat} {d : Option (List Deferred)} (h : w.heap[b]? = some (.deferred d)) (o : Nat) : w.cell? ⟨b, o, none⟩ = none := by simp [World.cell?, h]
/-- such a block beside a frame -/
theorem ConcAt.putObj {B : Base} {N : Nat} {M : Mem} {lm : Nat → Nat} {s : St} {a : Act} {w : World} (hc : ConcAt B N M lm s a w) {b : Nat} {x y : Obj} (h1 : b ∉ Heap.keys (lheap lm s.L ++ s.H)) (h2 : B.w.heap.size ≤ b) (h3 : markOf b ∉ a.defers) (hx : w.heap[b]? = some x) (hcell : ∀ o, w.cell? ⟨b, o, none⟩ = none) : ConcAt B N M lm s a (w.putObj b y) := by
  obtain ⟨e1, e2⟩ := hc.inv.putObj (y := y) h1 hx hcell
  refine ⟨hc.evo.trans e2 fun k hk => ?_, hc.keys, e1, hc.size, ?_, hc.env⟩
  · obtain rfl : k = b := by simpa using hk
    exact Or.inr h2
  · obtain ⟨Ds, g1, g2, g3⟩ := hc.defers
    refine ⟨Ds, g1, g2, fun D hD => ⟨(World.putObj_heap_other fun hDb => h3 ?_).trans (g3 D hD).1, (g3 D hD).2⟩⟩
    rw [g1, ← hDb]
    exact List.mem_append_left _ (List.mem_map.2 ⟨D, hD, rfl⟩)
/-- a frame's end: its marks are taken, then its results are read -/
theorem leaves_end (hP : TabOk P tab) {fn : Func} {B : Base} {N : Nat} {M : Mem} {lm : Nat → Nat} {s : St} {Q : AV → Heap → Prop} (hq : aretL tab s fn.results.toList fun xs => ∃ r H', Le (retAV xs) r ∧ H'.Sublist s.H ∧ Q r H') {a : Act} : ∀ (Ds : List Nat) (w : World), ConcAt B N M lm s { a with defers := [] } w → Ds.Nodup → (∀ D ∈ Ds, w.heap[D]? = some (.deferred (some [])) ∧ B.w.heap.size ≤ D ∧ D ∉ Heap.keys (lheap lm s.L ++ s.H)) →
    LeavesInM Fence.wide 0 P fn a.tmps (fun e w' => ∃ v, e = .returned v ∧ ∃ M' r H', Evo B.K B.M B.w M' w' ∧ Inv M' H' w' ∧ (∀ b ∈ H'.keys, b ∈ B.K ∨ B.w.heap.size ≤ b) ∧ rep M' r v ∧ Q r H') (Ds.map markOf) .returning w
  | [], w, hc, _, _ => by
    obtain ⟨xs, us, g1, g2, r, H', g3, g4, g5⟩ := results_sound hP hc hq
    show ∃ v, (results fn a.tmps).run P w = .ok v w ∧ _
    refine ⟨_, ?_, _, rfl, M, r, H', hc.evo, hc.right.sub g4, fun b hb => ?_, g3 M _ (ret_rep g2), g5⟩
    · have er : results fn a.tmps = (do let vs ← fn.results.mapM (resOne { a with defers := [] }); pure (if h : vs.size = 1 then vs[0] else .tuple vs)) := by
        unfold results
        congr 1
      rw [er]
      rw [Sem.run_bind, Array.mapM_eq_mapM_toList, Sem.run_map, g1]
      rfl
    · exact hc.keys b (by rw [Heap.keys_append]; exact List.mem_append.2 (Or.inr ((g4.map _).subset hb)))
  | D :: Ds, w, hc, hn, hd => by
    rw [List.nodup_cons] at hn
    obtain ⟨h1, h2, h3⟩ := hd D (by simp)
    refine ⟨by simp, .inl ⟨D, _, rfl, run_takeDeferred h1, leaves_end hP hq Ds _ (hc.putObj h3 h2 (by simp) h1 (cell_deferred h1)) hn.2 fun D' hD' => ?_⟩⟩
    obtain ⟨k1, k2, k3⟩ := hd D' (List.mem_cons_of_mem _ hD')
    have hne : D' ≠ D := by rintro rfl; exact hn.1 hD'
    exact ⟨(World.putObj_heap_other hne).trans k1, k2, k3⟩
/-- A CONTRACT OUT OF THE CODE, told of frames and worlds -/
theorem con_of_conc (hP : TabOk P tab) {f : FuncId} {fn : Func} {c : Code} (hf : P.funcs[f]? = some fn) (hb : fn.body = some c) (he : ∀ args w, (callFunc f args).run P w = .ok (.enter f args) w) {args : List AV} {H : Heap} {Q : AV → Heap → Prop}
    (hs : (slotsOk fn.ntmps c && Nat.ble args.length fn.ntmps) = true) (h : (∀ x ∈ args, Wf x) → H.keys.Nodup → ∀ (B : Base) (a : Act) (w : World), Conc B fn.ntmps ⟨initEnv 0 args, [], H⟩ a w → c.wp P (QC ⟨P, none, 0⟩ B fn.ntmps (aEnd tab fn Q)) a w) : Con P f args H Q := by
  intro M w vs hG hI hargs
  rw [Bool.and_eq_true] at hs
  rw [he]
  show Calls P f vs.toArray w _
  have hwf : ∀ x ∈ args, Wf x := fun x hx => Wf.tup.key hargs hx
  have hlen := hargs.length
  have hle := Nat.le_of_ble_eq_true hs.2
  refine (callsIn_wide (n := 0)).1 (callsIn_of_wp_marks hf hb trivial (wpIn_mono (wpIn_wide.2 (h hwf hI.nodup ⟨H.keys, M, w, hG, []⟩ _ w ?_)) ?_) rfl)
  · refine ⟨M, fun _ => 0, Evo.refl _ _ _, fun b hb => Or.inl hb, hI, by simp; omega, Marked.nil, init_env 0 _ hargs fun j v hj => ?_⟩
    have hj' := (List.getElem?_eq_some_iff.1 hj).1
    simp [Array.getElem?_append, hj']
    exact (List.getElem?_eq_some_iff.1 hj).2
  · rintro e a' w' (⟨s', ⟨M', lm, hc⟩, hq⟩ | ⟨_, _, _, _, _, _, hx⟩)
    rotate_left
    · exact hx.elim
    have fin : aretL tab s' fn.results.toList (fun xs => ∃ r H', Le (retAV xs) r ∧ H'.Sublist s'.H ∧ Q r H') → LeavesInM Fence.wide 0 P fn a'.tmps (fun e w' => ∃ v, e = .returned v ∧ ∃ M' r H', Evo H.keys M w M' w' ∧ Inv M' H' w' ∧ (∀ b ∈ H'.keys, b ∈ H.keys ∨ w.heap.size ≤ b) ∧ rep M' r v ∧ Q r H') a'.defers .returning w' := by
      intro hq
      obtain ⟨Ds, d1, d2, d3⟩ := hc.defers
      rw [show a'.defers = Ds.map markOf from d1.trans (List.append_nil _)]
      exact leaves_end (B := ⟨H.keys, M, w, hG, []⟩) hP hq Ds w' ⟨hc.evo, hc.keys, hc.inv, hc.size, Marked.nil, hc.env⟩ d2 d3
    cases e with
    | normal => exact fin hq
    | ret => exact fin hq
    | exit id => exact hq.elim
    | goto l => exact hq.elim
    | panic c => exact hq.elim
    | outgrown => exact hq.elim
/-- A CONTRACT OUT OF THE CODE -/
theorem con_of_awp (hP : TabOk P tab) (hm : P.follows .mixedOrders = true) {f : FuncId} {fn : Func} {c : Code} (hf : P.funcs[f]? = some fn) (hb : fn.body = some c) (he : ∀ args w, (callFunc f args).run P w = .ok (.enter f args) w) {args : List AV} {H : Heap} {Q : AV → Heap → Prop}
    (hs : (slotsOk fn.ntmps c && Nat.ble args.length fn.ntmps) = true) (h : (∀ x ∈ args, Wf x) → H.keys.Nodup → awp ⟨P, none, 0⟩ tab esc fn.ntmps c (aEnd tab fn Q) ⟨initEnv 0 args, [], H⟩) : Con P f args H Q :=
  con_of_conc hP hf hb he hs fun h1 h2 _ a w hc => awp_wp (P := ⟨P, none, 0⟩) hP hm c _ _ a w (by rw [Bool.and_eq_true] at hs; exact hs.1) (h h1 h2) hc
end
end Go.Proofs.YtahdkhklngjmoaaGreatDoor

