/-
  Texts put together: D1, D2, D4, D5. No condition.
-/
import Derived.Test.YtahdkhklngjmoaaGreatDoorM1
import Derived.Lib.Hide
import Derived.Laws.BitsLemmas
import Derived.IntWalk
/-
  Levels and terms as Lean's data, and how they lie in memory. No condition.
-/
namespace Go.Proofs.YtahdkhklngjmoaaGreatDoor
open Go.RowKit

/-- a slice of n elements, nil or not, over cells of which `row` tells; its block is one of S -/
def isS (S : Nat → Prop) (v : Value) (n : Nat) (row : Nat → Nat → Prop) : Prop :=
  ∃ a cap, v = .slice a n cap ∧ n ≤ cap ∧ cap ≤ 9223372036854775807 ∧ (a = none → cap = 0) ∧ (0 < n → ∃ b off, a = some ⟨b, off, none⟩ ∧ S b ∧ row b off)

theorem isS.imp {S S' : Nat → Prop} {v : Value} {n : Nat} {row row' : Nat → Nat → Prop} (h : isS S v n row) (hS : ∀ b, S b → S' b) (hr : ∀ b o, S b → row b o → row' b o) : isS S' v n row' := by
  obtain ⟨a, cap, h1, h2, h3, h4, h5⟩ := h
  refine ⟨a, cap, h1, h2, h3, h4, fun hn => ?_⟩
  obtain ⟨b, off, e1, e2, e3⟩ := h5 hn
  exact ⟨b, off, e1, hS b e2, hr b off e2 e3⟩

theorem isS.nil (S : Nat → Prop) (row : Nat → Nat → Prop) : isS S (.slice none 0 0) 0 row := ⟨none, 0, rfl, Nat.le_refl _, by omega, fun _ => rfl, fun h => absurd h (by omega)⟩

/-- a level -/
inductive Lv where
  | mk (kind n : Int) (args : List Lv) : Lv
/-- a term -/
inductive Tm where
  | mk (kind n : Int) (name : List UInt8) (levels : List Lv) (args : List Tm) : Tm

namespace Lv
def kind : Lv → Int | mk k _ _ => k
def n : Lv → Int | mk _ n _ => n
def args : Lv → List Lv | mk _ _ xs => xs
end Lv
namespace Tm
def kind : Tm → Int | mk k _ _ _ _ => k
def n : Tm → Int | mk _ n _ _ _ => n
def name : Tm → List UInt8 | mk _ _ nm _ _ => nm
def levels : Tm → List Lv | mk _ _ _ ls _ => ls
def args : Tm → List Tm | mk _ _ _ _ xs => xs
end Tm

mutual
def Lv.nodes : Lv → Nat
  | .mk _ _ xs => Lv.nodesL xs + 1
def Lv.nodesL : List Lv → Nat
  | [] => 0
  | l :: ls => l.nodes + Lv.nodesL ls
end
mutual
def Tm.nodes : Tm → Nat
  | .mk _ _ _ ls xs => Lv.nodesL ls + Tm.nodesL xs + 1
def Tm.nodesL : List Tm → Nat
  | [] => 0
  | t :: ts => t.nodes + Tm.nodesL ts
end

theorem Lv.nodes_pos (l : Lv) : 0 < l.nodes := by cases l; simp [Lv.nodes]
theorem Tm.nodes_pos (t : Tm) : 0 < t.nodes := by cases t; simp [Tm.nodes]
theorem Lv.nodesL_mem : ∀ {ls : List Lv} {l : Lv}, l ∈ ls → l.nodes ≤ Lv.nodesL ls
  | [], _, h => by cases h
  | a :: ls, l, h => by
    rw [Lv.nodesL]
    rcases List.mem_cons.1 h with rfl | h
    · omega
    · have := Lv.nodesL_mem h; omega
theorem Tm.nodesL_mem : ∀ {ts : List Tm} {t : Tm}, t ∈ ts → t.nodes ≤ Tm.nodesL ts
  | [], _, h => by cases h
  | a :: ts, t, h => by
    rw [Tm.nodesL]
    rcases List.mem_cons.1 h with rfl | h
    · omega
    · have := Tm.nodesL_mem h; omega
mutual
/-- the level's three cells, from o on in block b -/
def cLv (S : Nat → Prop) (w : World) : Lv → Nat → Nat → Prop
  | .mk k n xs, b, o => w.cell? ⟨b, o, none⟩ = some (.int .i64 k) ∧ w.cell? ⟨b, o + 1, none⟩ = some (.int .i64 n) ∧ ∃ v, w.cell? ⟨b, o + 2, none⟩ = some v ∧ isS S v xs.length fun b o => rLv S w xs b o
/-- levels, one behind the other -/
def rLv (S : Nat → Prop) (w : World) : List Lv → Nat → Nat → Prop
  | [], _, _ => True
  | l :: ls, b, o => cLv S w l b o ∧ rLv S w ls b (o + 3)
end
/-- a slice of levels -/
def sLv (S : Nat → Prop) (w : World) (ls : List Lv) (v : Value) : Prop := isS S v ls.length fun b o => rLv S w ls b o

mutual
/-- the term's five cells -/
def cTm (S : Nat → Prop) (w : World) : Tm → Nat → Nat → Prop
  | .mk k n nm ls xs, b, o => nm.length ≤ 1125899906842624 ∧ w.cell? ⟨b, o, none⟩ = some (.int .i64 k) ∧ w.cell? ⟨b, o + 1, none⟩ = some (.int .i64 n) ∧ w.cell? ⟨b, o + 2, none⟩ = some (.string ⟨nm.toArray⟩) ∧
      (∃ v, w.cell? ⟨b, o + 3, none⟩ = some v ∧ sLv S w ls v) ∧ ∃ v, w.cell? ⟨b, o + 4, none⟩ = some v ∧ isS S v xs.length fun b o => rTm S w xs b o
def rTm (S : Nat → Prop) (w : World) : List Tm → Nat → Nat → Prop
  | [], _, _ => True
  | t :: ts, b, o => cTm S w t b o ∧ rTm S w ts b (o + 5)
end
/-- a slice of terms -/
def sTm (S : Nat → Prop) (w : World) (ts : List Tm) (v : Value) : Prop := isS S v ts.length fun b o => rTm S w ts b o

theorem rLv.get {S : Nat → Prop} {w : World} : ∀ {ls : List Lv} {b o j : Nat} {l : Lv}, rLv S w ls b o → ls[j]? = some l → cLv S w l b (o + j * 3)
  | [], _, _, _, _, _, h => by simp at h
  | a :: ls, b, o, 0, l, h, hj => by simp at hj; subst hj; rw [rLv] at h; simpa using h.1
  | a :: ls, b, o, j + 1, l, h, hj => by
    rw [rLv] at h
    have := rLv.get h.2 (by simpa using hj : ls[j]? = some l)
    rwa [show o + 3 + j * 3 = o + (j + 1) * 3 by omega] at this
theorem rTm.get {S : Nat → Prop} {w : World} : ∀ {ls : List Tm} {b o j : Nat} {l : Tm}, rTm S w ls b o → ls[j]? = some l → cTm S w l b (o + j * 5)
  | [], _, _, _, _, _, h => by simp at h
  | a :: ls, b, o, 0, l, h, hj => by simp at hj; subst hj; rw [rTm] at h; simpa using h.1
  | a :: ls, b, o, j + 1, l, h, hj => by
    rw [rTm] at h
    have := rTm.get h.2 (by simpa using hj : ls[j]? = some l)
    rwa [show o + 5 + j * 5 = o + (j + 1) * 5 by omega] at this
theorem rLv.of {S : Nat → Prop} {w : World} : ∀ {ls : List Lv} {b o : Nat}, (∀ j l, ls[j]? = some l → cLv S w l b (o + j * 3)) → rLv S w ls b o
  | [], _, _, _ => by rw [rLv]; trivial
  | a :: ls, b, o, h => by
    rw [rLv]
    refine ⟨by simpa using h 0 a (by simp), rLv.of fun j l hj => ?_⟩
    have := h (j + 1) l (by simpa using hj)
    rwa [show o + (j + 1) * 3 = o + 3 + j * 3 by omega] at this
theorem rTm.of {S : Nat → Prop} {w : World} : ∀ {ls : List Tm} {b o : Nat}, (∀ j l, ls[j]? = some l → cTm S w l b (o + j * 5)) → rTm S w ls b o
  | [], _, _, _ => by rw [rTm]; trivial
  | a :: ls, b, o, h => by
    rw [rTm]
    refine ⟨by simpa using h 0 a (by simp), rTm.of fun j l hj => ?_⟩
    have := h (j + 1) l (by simpa using hj)
    rwa [show o + (j + 1) * 5 = o + 5 + j * 5 by omega] at this

/-- a block that lies as it lay -/
def keepB (w w' : World) (b : Nat) : Prop := w'.heap[b]? = w.heap[b]?
theorem keepB.cell {w w' : World} {b : Nat} (h : keepB w w' b) (o : Nat) : w'.cell? ⟨b, o, none⟩ = w.cell? ⟨b, o, none⟩ := by
  simp only [World.cell?, show w'.heap[b]? = w.heap[b]? from h]

mutual
theorem cLv.keep {S S' : Nat → Prop} {w w' : World} (hS : ∀ b, S b → S' b ∧ keepB w w' b) : ∀ (l : Lv) (b o : Nat), keepB w w' b → cLv S w l b o → cLv S' w' l b o
  | .mk k n xs, b, o, hb, h => by
    rw [cLv] at h ⊢
    obtain ⟨h1, h2, v, h3, h4⟩ := h
    exact ⟨(hb.cell _).trans h1, (hb.cell _).trans h2, v, (hb.cell _).trans h3, h4.imp (fun b hb => (hS b hb).1) fun b o hb hr => rLv.keep hS xs b o (hS b hb).2 hr⟩
theorem rLv.keep {S S' : Nat → Prop} {w w' : World} (hS : ∀ b, S b → S' b ∧ keepB w w' b) : ∀ (ls : List Lv) (b o : Nat), keepB w w' b → rLv S w ls b o → rLv S' w' ls b o
  | [], _, _, _, _ => by rw [rLv]; trivial
  | l :: ls, b, o, hb, h => by
    rw [rLv] at h ⊢
    exact ⟨cLv.keep hS l b o hb h.1, rLv.keep hS ls b (o + 3) hb h.2⟩
end
theorem sLv.keep {S S' : Nat → Prop} {w w' : World} {ls : List Lv} {v : Value} (h : sLv S w ls v) (hS : ∀ b, S b → S' b ∧ keepB w w' b) : sLv S' w' ls v :=
  h.imp (fun b hb => (hS b hb).1) fun b o hb hr => rLv.keep hS ls b o (hS b hb).2 hr
mutual
theorem cTm.keep {S S' : Nat → Prop} {w w' : World} (hS : ∀ b, S b → S' b ∧ keepB w w' b) : ∀ (l : Tm) (b o : Nat), keepB w w' b → cTm S w l b o → cTm S' w' l b o
  | .mk k n nm ls xs, b, o, hb, h => by
    rw [cTm] at h ⊢
    obtain ⟨h0, h1, h2, h3, ⟨v, h4, h5⟩, u, h6, h7⟩ := h
    exact ⟨h0, (hb.cell _).trans h1, (hb.cell _).trans h2, (hb.cell _).trans h3, ⟨v, (hb.cell _).trans h4, h5.keep hS⟩, u, (hb.cell _).trans h6, h7.imp (fun b hb => (hS b hb).1) fun b o hb hr => rTm.keep hS xs b o (hS b hb).2 hr⟩
theorem rTm.keep {S S' : Nat → Prop} {w w' : World} (hS : ∀ b, S b → S' b ∧ keepB w w' b) : ∀ (ls : List Tm) (b o : Nat), keepB w w' b → rTm S w ls b o → rTm S' w' ls b o
  | [], _, _, _, _ => by rw [rTm]; trivial
  | l :: ls, b, o, hb, h => by
    rw [rTm] at h ⊢
    exact ⟨cTm.keep hS l b o hb h.1, rTm.keep hS ls b (o + 5) hb h.2⟩
end
theorem sTm.keep {S S' : Nat → Prop} {w w' : World} {ls : List Tm} {v : Value} (h : sTm S w ls v) (hS : ∀ b, S b → S' b ∧ keepB w w' b) : sTm S' w' ls v :=
  h.imp (fun b hb => (hS b hb).1) fun b o hb hr => rTm.keep hS ls b o (hS b hb).2 hr

/-- blocks below B -/
def upTo (B : Nat) (b : Nat) : Prop := b < B
theorem sLv.below {B : Nat} {w w' : World} {ls : List Lv} {v : Value} (h : sLv (upTo B) w ls v) (hb : Below B w w') : sLv (upTo B) w' ls v := h.keep fun b hB => ⟨hB, hb.block b hB⟩
theorem sTm.below {B : Nat} {w w' : World} {ls : List Tm} {v : Value} (h : sTm (upTo B) w ls v) (hb : Below B w w') : sTm (upTo B) w' ls v := h.keep fun b hB => ⟨hB, hb.block b hB⟩

/-- a level, a term as values: what the slice's values are is told beside -/
@[go_sem] abbrev lvV (l : Lv) (v : Value) : Value := .agg #[.int .i64 l.kind, .int .i64 l.n, v]
@[go_sem] abbrev tmV (t : Tm) (u v : Value) : Value := .agg #[.int .i64 t.kind, .int .i64 t.n, .string ⟨t.name.toArray⟩, u, v]
end Go.Proofs.YtahdkhklngjmoaaGreatDoor

/-
  What the functions on names, levels and terms compute, as plain functions. No condition.
-/
namespace Go.Proofs.YtahdkhklngjmoaaGreatDoor

/-! names -/
def letB (c : UInt8) : Bool := (97 ≤ c && c ≤ 122) || c == 95
def digB (c : UInt8) : Bool := 48 ≤ c && c ≤ 57
/-- the bytes left, behind a dot (or at the beginning) or not -/
def nmGo : Bool → List UInt8 → Bool
  | first, [] => !first
  | first, c :: r => if c == 46 then (if first then false else nmGo true r) else if letB c || (digB c && !first) then nmGo false r else false
def nameOk (l : List UInt8) : Bool := decide (1 ≤ l.length) && decide (l.length ≤ 40) && nmGo true l

/-! levels -/
def lvWide (k : Int) : Int := if k = 1 ∨ k = 2 then 0 else if k = 3 then 1 else if k = 4 ∨ k = 5 then 2 else -1
/-- is a node right? -/
def lvNode (n : Int) (k m : Int) (len : Nat) : Bool :=
  if k = 1 then decide (0 ≤ m) && decide (m ≤ 100) && decide (len = 0)
  else if k = 2 then decide (0 ≤ m) && decide (m < n) && decide (len = 0)
  else if k = 3 then decide (m = 0) && decide (len = 1)
  else if k = 4 ∨ k = 5 then decide (m = 0) && decide (len = 2)
  else false
mutual
def lvFit (n : Int) : Lv → Bool
  | .mk k m xs => lvNode n k m xs.length && lvFitL n xs
def lvFitL (n : Int) : List Lv → Bool
  | [] => true
  | l :: ls => lvFit n l && lvFitL n ls
end
def lvRight (n : Int) (l : Lv) : Bool := decide (0 ≤ n) && decide (n ≤ 4) && decide (l.nodes ≤ 64) && lvFit n l

mutual
def lvEq : Lv → Lv → Bool
  | .mk k m xs, .mk k' m' bs => decide (k = k') && decide (m = m') && lvEqL xs bs
def lvEqL : List Lv → List Lv → Bool
  | [], [] => true
  | a :: xs, b :: bs => lvEq a b && lvEqL xs bs
  | _, _ => false
end
mutual
theorem lvEq_iff : ∀ a b : Lv, lvEq a b = true ↔ a = b
  | .mk k m xs, .mk k' m' bs => by
    rw [lvEq]
    simp only [Bool.and_eq_true, decide_eq_true_eq, lvEqL_iff xs bs, Lv.mk.injEq, and_assoc]
theorem lvEqL_iff : ∀ a b : List Lv, lvEqL a b = true ↔ a = b
  | [], [] => by simp [lvEqL]
  | [], _ :: _ => by simp [lvEqL]
  | _ :: _, [] => by simp [lvEqL]
  | a :: xs, b :: bs => by
    rw [lvEqL]
    simp only [Bool.and_eq_true, lvEq_iff a b, lvEqL_iff xs bs, List.cons.injEq]
end
mutual
def tmEq : Tm → Tm → Bool
  | .mk k m nm ls xs, .mk k' m' nm' ls' bs => decide (k = k') && decide (m = m') && decide (nm = nm') && lvEqL ls ls' && tmEqL xs bs
def tmEqL : List Tm → List Tm → Bool
  | [], [] => true
  | a :: xs, b :: bs => tmEq a b && tmEqL xs bs
  | _, _ => false
end
mutual
theorem tmEq_iff : ∀ a b : Tm, tmEq a b = true ↔ a = b
  | .mk k m nm ls xs, .mk k' m' nm' ls' bs => by
    rw [tmEq]
    simp only [Bool.and_eq_true, decide_eq_true_eq, lvEqL_iff ls ls', tmEqL_iff xs bs, Tm.mk.injEq, and_assoc]
theorem tmEqL_iff : ∀ a b : List Tm, tmEqL a b = true ↔ a = b
  | [], [] => by simp [tmEqL]
  | [], _ :: _ => by simp [tmEqL]
  | _ :: _, [] => by simp [tmEqL]
  | a :: xs, b :: bs => by
    rw [tmEqL]
    simp only [Bool.and_eq_true, tmEq_iff a b, tmEqL_iff xs bs, List.cons.injEq]
end

/-! terms -/
/-- in which of its parts a kind has a binder more -/
def tmBind (k : Int) (i : Nat) : Bool := (k == 5 && i == 1) || (k == 6 && i == 1) || (k == 7 && i == 2)
/-- is a node right, but for its levels and parts? -/
def tmNode (vars : Int) (k m : Int) (nm : List UInt8) (ls xs : Nat) : Bool :=
  if k = 1 then decide (0 ≤ m) && decide (m < vars) && decide (nm = []) && decide (ls = 0) && decide (xs = 0)
  else if k = 2 then decide (m = 0) && decide (nm = []) && decide (ls = 1) && decide (xs = 0)
  else if k = 3 then decide (m = 0) && nameOk nm && decide (ls ≤ 4) && decide (xs = 0)
  else if k = 4 ∨ k = 5 ∨ k = 6 then decide (m = 0) && decide (nm = []) && decide (ls = 0) && decide (xs = 2)
  else if k = 7 then decide (m = 0) && decide (nm = []) && decide (ls = 0) && decide (xs = 3)
  else false
def lvRightL (n : Int) (ls : List Lv) : Bool := ls.all (lvRight n)
mutual
def tmFit (n : Int) : Tm → Int → Bool
  | .mk k m nm ls xs, vars => tmNode vars k m nm ls.length xs.length && lvRightL n ls && tmFitL n k xs 0 vars
def tmFitL (n k : Int) : List Tm → Nat → Int → Bool
  | [], _, _ => true
  | t :: ts, i, vars => tmFit n t (if tmBind k i then vars + 1 else vars) && tmFitL n k ts (i + 1) vars
end
def tmRight (n vars : Int) (t : Tm) : Bool := decide (0 ≤ n) && decide (n ≤ 4) && decide (0 ≤ vars) && decide (t.nodes ≤ 2000) && tmFit n t (min vars 1125899906842624)

/-! levels put in -/
mutual
def lvInst (by_ : List Lv) : Lv → Lv
  | .mk k m xs => if k = 2 then by_.getD m.toNat (.mk 0 0 []) else .mk k m (lvInstL by_ xs)
def lvInstL (by_ : List Lv) : List Lv → List Lv
  | [] => []
  | l :: ls => lvInst by_ l :: lvInstL by_ ls
end
mutual
def lvGrown (by_ : List Lv) : Lv → Nat
  | .mk k m xs => if k = 2 then min (by_.getD m.toNat (.mk 0 0 [])).nodes 65 else 1 + lvGrownL by_ xs
def lvGrownL (by_ : List Lv) : List Lv → Nat
  | [] => 0
  | l :: ls => lvGrown by_ l + lvGrownL by_ ls
end
def lvInstOk (by_ : List Lv) (l : Lv) : Bool := lvRight by_.length l && by_.all (lvRight 4) && decide (lvGrown by_ l ≤ 64)
mutual
/-- a term with levels in place of the parameters; none: one is none -/
def tmInst (by_ : List Lv) : Tm → Option Tm
  | .mk k m nm ls xs => if ls.all (lvInstOk by_) then (tmInstL by_ xs).map fun bs => .mk k m nm (lvInstL by_ ls) bs else none
def tmInstL (by_ : List Lv) : List Tm → Option (List Tm)
  | [] => some []
  | t :: ts => match tmInst by_ t with
    | none => none
    | some u => (tmInstL by_ ts).map fun us => u :: us
end
/-- a term at levels -/
def tmAt (by_ : List Lv) (t : Tm) : Option Tm :=
  if tmRight by_.length 1125899906842624 t then
    match tmInst by_ t with
    | none => none
    | some u => if u.nodes ≤ 2000 then some u else none
  else none
end Go.Proofs.YtahdkhklngjmoaaGreatDoor

/-
  The shapes of the kinds of terms. No program in sight. No condition.
-/
namespace Go.Proofs.YtahdkhklngjmoaaGreatDoor

def shapeOf (k : Int) : Int × Int × Int := if k = 1 then (0, 0, -1) else if k = 2 then (0, 1, -1) else if k = 3 then (0, 0, -1) else if k = 4 then (2, 0, -1) else if k = 5 ∨ k = 6 then (2, 0, 1) else if k = 7 then (3, 0, 2) else (0, 0, 0)
def tmNd (vars k m : Int) (nm : List UInt8) (ls : Nat) (b : Int) : Bool :=
  if k = 1 then decide (0 ≤ m) && decide (m < vars) && decide (nm = []) && decide (ls = 0)
  else if k = 3 then decide (m = 0) && nameOk nm && decide (ls ≤ 4)
  else decide (m = 0) && decide (nm = []) && decide ((ls : Int) = b)

theorem shape_node (vars k m : Int) (nm : List UInt8) (ls xs : Nat) : tmNode vars k m nm ls xs = ((decide (1 ≤ k) && decide (k ≤ 7)) && (decide ((xs : Int) = (shapeOf k).1) && tmNd vars k m nm ls (shapeOf k).2.1)) := by
  have b (p q : Nat) : decide (((p : Int)) = (q : Int)) = decide (p = q) := by rw [decide_eq_decide]; omega
  by_cases k1 : k = 1
  · subst k1; simp only [tmNode, tmNd, shapeOf]; rw [Bool.eq_iff_iff]; by_cases hn : nm = [] <;> simp [hn] <;> omega
  by_cases k2 : k = 2
  · subst k2; simp only [tmNode, tmNd, shapeOf]; rw [Bool.eq_iff_iff]; by_cases hn : nm = [] <;> simp [hn] <;> omega
  by_cases k3 : k = 3
  · subst k3; simp only [tmNode, tmNd, shapeOf]; generalize nameOk nm = g; rw [Bool.eq_iff_iff]; cases g <;> simp <;> omega
  by_cases k4 : k = 4
  · subst k4; simp only [tmNode, tmNd, shapeOf]; rw [Bool.eq_iff_iff]; by_cases hn : nm = [] <;> simp [hn] <;> omega
  by_cases k5 : k = 5
  · subst k5; simp only [tmNode, tmNd, shapeOf]; rw [Bool.eq_iff_iff]; by_cases hn : nm = [] <;> simp [hn] <;> omega
  by_cases k6 : k = 6
  · subst k6; simp only [tmNode, tmNd, shapeOf]; rw [Bool.eq_iff_iff]; by_cases hn : nm = [] <;> simp [hn] <;> omega
  by_cases k7 : k = 7
  · subst k7; simp only [tmNode, tmNd, shapeOf]; rw [Bool.eq_iff_iff]; by_cases hn : nm = [] <;> simp [hn] <;> omega
  have h : (decide (1 ≤ k) && decide (k ≤ 7)) = false := by simp; omega
  rw [h]; simp [tmNode, *]

theorem shape_bind (k : Int) (i : Nat) (h : (decide (1 ≤ k) && decide (k ≤ 7)) = true) : ((i : Int) = (shapeOf k).2.2) = (tmBind k i = true) := by
  simp at h
  have hk : k = 1 ∨ k = 2 ∨ k = 3 ∨ k = 4 ∨ k = 5 ∨ k = 6 ∨ k = 7 := by omega
  apply propext
  rcases hk with rfl | rfl | rfl | rfl | rfl | rfl | rfl <;> simp [shapeOf, tmBind] <;> omega
end Go.Proofs.YtahdkhklngjmoaaGreatDoor

/-
  Numbers as bytes, in plain lists. No condition.
-/
namespace Go.Proofs.YtahdkhklngjmoaaGreatDoor
open Go.RowKit

/-- a number's bytes -/
def enc (n : Nat) : List UInt8 := if n < 128 then [UInt8.ofNat n] else UInt8.ofNat (n % 128 + 128) :: enc (n / 128)
termination_by n
decreasing_by omega

theorem enc_lt {n : Nat} (h : n < 128) : enc n = [UInt8.ofNat n] := by rw [enc, if_pos h]
theorem enc_ge {n : Nat} (h : 128 ≤ n) : enc n = UInt8.ofNat (n % 128 + 128) :: enc (n / 128) := by rw [enc, if_neg (by omega)]

theorem enc_pos (n : Nat) : 0 < (enc n).length := by
  rw [enc]; split <;> simp

theorem enc_len : ∀ (k n : Nat), n < 128 ^ (k + 1) → (enc n).length ≤ k + 1
  | 0, n, h => by rw [enc_lt (by omega)]; simp
  | k + 1, n, h => by
    by_cases h1 : n < 128
    · rw [enc_lt h1]; simp
    · rw [enc_ge (by omega)]
      have := enc_len k (n / 128) (by rw [Nat.pow_succ] at h; omega)
      simp; omega

theorem enc_le (n : Nat) (h : n ≤ 9223372036854775807) : (enc n).length ≤ 9 := enc_len 8 n (by omega)
theorem enc_le6 (n : Nat) (h : n ≤ 1099511627776) : (enc n).length ≤ 6 := enc_len 5 n (by omega)

/-- the value of bytes, whatever their top bits -/
def val : List UInt8 → Nat
  | [] => 0
  | c :: r => c.toNat % 128 + 128 * val r

/-- where the first byte below 128 stands, of the first six -/
def stop6 (bs : List UInt8) : Nat := (bs.take 6).findIdx fun c => c.toNat < 128

/-- the number at the beginning of bytes, and how many it has; 0: there is none -/
def dec (bs : List UInt8) : Nat × Nat :=
  if stop6 bs < 6 ∧ stop6 bs < bs.length ∧ val (bs.take (stop6 bs + 1)) ≤ 1099511627776 ∧ ¬ (bs.getD (stop6 bs) 0 = 0 ∧ 0 < stop6 bs) then (val (bs.take (stop6 bs + 1)), stop6 bs + 1) else (0, 0)

theorem wraps_i64 (n : Int) (h₀ : 0 ≤ n) (h₁ : n < 2 ^ 63) : IntKind.i64.wrap n = n := by rw [IntKind.wrap_i64]; omega
theorem i64_and127 (k : Nat) (h : k ≤ 9223372036854775807) : bits .and .i64 (k : Int) 127 = ((k % 128 : Nat) : Int) := by
  have := bits_mask .i64 63 (by decide) wraps_i64 7 (by decide) (k : Int) (by omega) (by omega)
  simpa using this
theorem i64_or128 (y : Nat) (h : y < 128) : bits .or .i64 (y : Int) 128 = ((y + 128 : Nat) : Int) := by
  have := (bits_nat .i64 63 (by decide) wraps_i64 y 128 (by omega) (by omega)).2
  rw [show ((128 : Nat) : Int) = 128 from rfl] at this
  rw [this]
  congr 1
  have h2 := Nat.two_pow_add_eq_or_of_lt (i := 7) (b := y) (by omega) 1
  simp only [Nat.reducePow, Nat.mul_one] at h2
  rw [Nat.or_comm, ← h2, Nat.add_comm]

theorem put_val (k : Nat) (h : k ≤ 9223372036854775807) : bits .or .i64 (bits .and .i64 (k : Int) 127) 128 % 256 = (((UInt8.ofNat (k % 128 + 128)).toNat : Nat) : Int) := by
  rw [i64_and127 k h, i64_or128 _ (by omega)]
  simp

end Go.Proofs.YtahdkhklngjmoaaGreatDoor

