/-
  Texts put together: G1, G2, G3, G4, G5, G6, G7, G8, G9, G10, G11, G12. No condition.
-/
import Derived.Test.YtnjnfegafmhgnaaGreatDoorM7
/-
  What is taken from bytes: numbers, names, levels, terms, declarations, in plain lists. No condition.
-/
namespace Go.Proofs.YtnjnfegafmhgnaaGreatDoor
open Go.RowKit

/-- what is left to take; was something lost; how many nodes there may be still -/
structure Tk where
  rest : List UInt8
  lost : Bool
  left : Int
def Tk.lose (s : Tk) : Tk := ⟨s.rest, true, s.left⟩
def tkNum (most : Nat) (s : Tk) : Nat × Tk :=
  if (dec s.rest).2 ≠ 0 ∧ (dec s.rest).1 ≤ most then ((dec s.rest).1, ⟨s.rest.drop (dec s.rest).2, s.lost, s.left⟩) else (0, s.lose)
/-- so many bytes -/
def tkBy (n : Nat) (s : Tk) : List UInt8 × Tk := if s.lost = true ∨ s.rest.length < n then ([], s.lose) else (s.rest.take n, ⟨s.rest.drop n, s.lost, s.left⟩)
def tkText (s : Tk) : List UInt8 × Tk := tkBy (tkNum 40 s).1 (tkNum 40 s).2
def tkNode (s : Tk) : Tk := ⟨s.rest, s.lost || decide (s.left - 1 < 0), s.left - 1⟩
/-- so many, one behind the other -/
def rpt {α : Type} (f : Tk → α × Tk) : Nat → Tk → List α × Tk
  | 0, s => ([], s)
  | n + 1, s => ((rpt f n s).1 ++ [(f (rpt f n s).2).1], (f (rpt f n s).2).2)
theorem rpt_len {α : Type} (f : Tk → α × Tk) (n : Nat) (s : Tk) : (rpt f n s).1.length = n := by
  induction n with
  | zero => rfl
  | succ n ih => simp [rpt, ih]
def lv0 : Lv := .mk 0 0 []
def wideOf (k : Nat) : Nat := [0, 0, 0, 1, 2, 2].getD k 0
/-- a level's number, where it has one -/
def lvNumT (s : Nat × Tk) : Nat × Tk := if s.1 = 1 ∨ s.1 = 2 then tkNum 100 s.2 else (0, s.2)
def tkLevel : Nat → Tk → Lv × Tk
  | 0, s => (lv0, tkNode s)
  | N + 1, s =>
    if (tkNode s).lost = true then (lv0, tkNode s) else
      (.mk (tkNum 5 (tkNode s)).1 (lvNumT (tkNum 5 (tkNode s))).1 (rpt (tkLevel N) (wideOf (tkNum 5 (tkNode s)).1) (lvNumT (tkNum 5 (tkNode s))).2).1,
        (rpt (tkLevel N) (wideOf (tkNum 5 (tkNode s)).1) (lvNumT (tkNum 5 (tkNode s))).2).2)
def tmWide (k : Nat) : Nat := [0, 0, 0, 0, 2, 2, 2, 3].getD k 0
/-- what stands at a term's head: its kind, number, name; how many levels -/
structure Hd where
  kind : Nat
  n : Nat
  name : List UInt8
  lvs : Nat
  s : Tk
def tkHd (s : Tk) : Hd :=
  if (tkNum 7 s).1 = 1 then ⟨1, (tkNum 1099511627776 (tkNum 7 s).2).1, [], 0, (tkNum 1099511627776 (tkNum 7 s).2).2⟩
  else if (tkNum 7 s).1 = 2 then ⟨2, 0, [], 1, (tkNum 7 s).2⟩
  else if (tkNum 7 s).1 = 3 then ⟨3, 0, (tkText (tkNum 7 s).2).1, (tkNum 4 (tkText (tkNum 7 s).2).2).1, (tkNum 4 (tkText (tkNum 7 s).2).2).2⟩
  else ⟨(tkNum 7 s).1, 0, [], 0, (tkNum 7 s).2⟩
def tkTerm : Nat → Tk → Tm × Tk
  | 0, s => (tm0, tkNode s)
  | N + 1, s =>
    if (tkNode s).lost = true then (tm0, tkNode s) else
      (.mk (tkHd (tkNode s)).kind (tkHd (tkNode s)).n (tkHd (tkNode s)).name (rpt (tkLevel N) (tkHd (tkNode s)).lvs (tkHd (tkNode s)).s).1
          (rpt (tkTerm N) (tmWide (tkHd (tkNode s)).kind) (rpt (tkLevel N) (tkHd (tkNode s)).lvs (tkHd (tkNode s)).s).2).1,
        (rpt (tkTerm N) (tmWide (tkHd (tkNode s)).kind) (rpt (tkLevel N) (tkHd (tkNode s)).lvs (tkHd (tkNode s)).s).2).2)
def tkWhole (s : Tk) : Tm × Tk := tkTerm 2000 ⟨s.rest, s.lost, 2000⟩
def tkCtor (s : Tk) : Ct × Tk := (⟨(tkText s).1, (tkWhole (tkText s).2).1⟩, (tkWhole (tkText s).2).2)
/-- a declaration's value, or its family -/
structure Vl where
  value : Tm
  fixed : Nat
  ctors : List Ct
  s : Tk
def tkVal (k : Nat) (s : Tk) : Vl :=
  if 2 ≤ k ∧ k ≤ 4 then ⟨(tkWhole s).1, 0, [], (tkWhole s).2⟩
  else if k = 5 then ⟨tm0, (tkNum 16 s).1, (rpt tkCtor (tkNum 8 (tkNum 16 s).2).1 (tkNum 8 (tkNum 16 s).2).2).1, (rpt tkCtor (tkNum 8 (tkNum 16 s).2).1 (tkNum 8 (tkNum 16 s).2).2).2⟩
  else ⟨tm0, 0, [], s⟩
def tkDecl (s : Tk) : Dc × Tk :=
  let k := tkNum 5 s
  let nm := tkText k.2
  let p := tkNum 4 nm.2
  let ty := tkWhole p.2
  let v := tkVal k.1 ty.2
  (⟨k.1, p.1, nm.1, ty.1, v.value, v.fixed, v.ctors⟩, v.s)

/-! numbers that are taken -/
theorem tkNum_le (most : Nat) (s : Tk) : (tkNum most s).1 ≤ most := by
  unfold tkNum; split
  · rename_i h; exact h.2
  · exact Nat.zero_le _
theorem tkNum_left (most : Nat) (s : Tk) : (tkNum most s).2.left = s.left := by unfold tkNum Tk.lose; split <;> rfl
theorem tkNum_lost (most : Nat) (s : Tk) : s.lost = true → (tkNum most s).2.lost = true := by unfold tkNum Tk.lose; split <;> intro h <;> simp [h]
theorem tkBy_left (n : Nat) (s : Tk) : (tkBy n s).2.left = s.left := by unfold tkBy Tk.lose; split <;> rfl
theorem tkBy_lost (n : Nat) (s : Tk) : s.lost = true → (tkBy n s).2.lost = true := by unfold tkBy Tk.lose; split <;> intro h <;> simp [h]
theorem tkText_left (s : Tk) : (tkText s).2.left = s.left := by unfold tkText; rw [tkBy_left, tkNum_left]
theorem tkText_lost (s : Tk) (h : s.lost = true) : (tkText s).2.lost = true := by unfold tkText; exact tkBy_lost _ _ (tkNum_lost _ _ h)
theorem rest_num (most : Nat) (s : Tk) : (tkNum most s).2.rest.length ≤ s.rest.length := by unfold tkNum Tk.lose; split <;> simp
theorem tkHd_left (s : Tk) : (tkHd s).s.left = s.left := by
  unfold tkHd
  split
  · simp only [tkNum_left]
  · split
    · simp only [tkNum_left]
    · split
      · simp only [tkNum_left, tkText_left]
      · simp only [tkNum_left]
theorem tkHd_lost (s : Tk) (h : s.lost = true) : (tkHd s).s.lost = true := by
  have h0 := tkNum_lost 7 s h
  unfold tkHd
  generalize tkNum 7 s = r at h0
  by_cases h1 : r.1 = 1
  · rw [if_pos h1]
    exact tkNum_lost 1099511627776 r.2 h0
  · rw [if_neg h1]
    by_cases h2 : r.1 = 2
    · rw [if_pos h2]
      exact h0
    · rw [if_neg h2]
      by_cases h3 : r.1 = 3
      · rw [if_pos h3]
        exact tkNum_lost 4 (tkText r.2).2 (tkText_lost _ h0)
      · rw [if_neg h3]
        exact h0
theorem tkHd_kind (s : Tk) : (tkHd s).kind ≤ 7 := by
  have h := tkNum_le 7 s
  unfold tkHd
  split
  · show 1 ≤ 7; decide
  · split
    · show 2 ≤ 7; decide
    · split
      · show 3 ≤ 7; decide
      · exact h
theorem tkHd_lvs (s : Tk) : (tkHd s).lvs ≤ 4 ∧ ((tkHd s).lvs ≠ 0 → tmWide (tkHd s).kind = 0) := by
  unfold tkHd
  split
  · exact ⟨Nat.zero_le _, fun h => absurd rfl h⟩
  · split
    · exact ⟨(by show 1 ≤ 4; decide), fun _ => rfl⟩
    · split
      · exact ⟨tkNum_le _ _, fun _ => rfl⟩
      · exact ⟨Nat.zero_le _, fun h => absurd rfl h⟩
theorem lvNumT_left (s : Nat × Tk) : (lvNumT s).2.left = s.2.left := by unfold lvNumT; split; exact tkNum_left _ _; rfl
theorem lvNumT_lost (s : Nat × Tk) (h : s.2.lost = true) : (lvNumT s).2.lost = true := by unfold lvNumT; split; exact tkNum_lost _ _ h; exact h
theorem wideOf_le (k : Nat) : wideOf k ≤ 2 := by
  match k with
  | 0 | 1 | 2 | 3 | 4 | 5 => decide
  | k + 6 => exact Nat.zero_le _
theorem tmWide_le (k : Nat) : tmWide k ≤ 3 := by
  match k with
  | 0 | 1 | 2 | 3 | 4 | 5 | 6 | 7 => decide
  | k + 8 => exact Nat.zero_le _

/-! how far the counter of nodes can go -/
/-- what may still be spent -/
def Tk.pot (s : Tk) : Int := if s.lost = true then s.left else s.left - 7 * max s.left 0
theorem Tk.pot_le (s : Tk) : s.pot ≤ s.left := by unfold Tk.pot; split <;> omega
/-- a step that leaves the counter as it is -/
theorem pot_same {s s' : Tk} (h : s'.left = s.left) (k : s.lost = true → s'.lost = true) : s.pot ≤ s'.pot := by
  unfold Tk.pot
  rw [h]
  cases hs : s.lost with
  | true => simp [k hs]
  | false =>
    cases hs' : s'.lost with
    | true => simp; omega
    | false => simp
theorem tkNode_pot (s : Tk) : s.pot - 1 ≤ (tkNode s).pot ∧ ((tkNode s).lost = false → s.pot + 6 ≤ (tkNode s).pot ∧ s.lost = false ∧ 1 ≤ s.left) := by
  unfold tkNode Tk.pot
  cases hs : s.lost with
  | true => simp
  | false =>
    by_cases h : s.left - 1 < 0
    · simp [h]; omega
    · simp [h]; omega
/-- a taker that takes one node -/
structure Stp {α : Type} (N : Nat) (f : Tk → α × Tk) : Prop where
  left : ∀ s : Tk, (f s).2.left ≤ s.left
  pot : ∀ s : Tk, s.pot - 1 ≤ (f s).2.pot
theorem rpt_pot {α : Type} {N : Nat} {f : Tk → α × Tk} (h : Stp N f) (n : Nat) (s : Tk) : (rpt f n s).2.left ≤ s.left ∧ s.pot - n ≤ (rpt f n s).2.pot := by
  induction n with
  | zero => simp [rpt]
  | succ n ih =>
    have h1 := h.left (rpt f n s).2
    have h2 := h.pot (rpt f n s).2
    simp only [rpt]
    constructor <;> omega
theorem tkNode_left (s : Tk) : (tkNode s).left = s.left - 1 := rfl
theorem stp_level : ∀ N : Nat, Stp N (tkLevel N)
  | 0 => ⟨fun s => by simp only [tkLevel]; rw [tkNode_left]; omega, fun s => (tkNode_pot s).1⟩
  | N + 1 => by
    have ih := stp_level N
    refine ⟨fun s => ?_, fun s => ?_⟩
    · simp only [tkLevel]
      split
      · simp only [tkNode_left]; omega
      · have h1 := (rpt_pot ih (wideOf (tkNum 5 (tkNode s)).1) (lvNumT (tkNum 5 (tkNode s))).2).1
        rw [lvNumT_left, tkNum_left, tkNode_left] at h1
        simp only; omega
    · simp only [tkLevel]
      split
      · exact (tkNode_pot s).1
      · rename_i hl
        have h1 := (rpt_pot ih (wideOf (tkNum 5 (tkNode s)).1) (lvNumT (tkNum 5 (tkNode s))).2).2
        have h2 := wideOf_le (tkNum 5 (tkNode s)).1
        have h3 := ((tkNode_pot s).2 (by simpa using hl)).1
        have h4 : (tkNode s).pot ≤ (lvNumT (tkNum 5 (tkNode s))).2.pot := pot_same (by rw [lvNumT_left, tkNum_left]) fun h => lvNumT_lost _ (tkNum_lost _ _ h)
        simp only; omega
theorem stp_term : ∀ N : Nat, Stp N (tkTerm N)
  | 0 => ⟨fun s => by simp only [tkTerm]; rw [tkNode_left]; omega, fun s => (tkNode_pot s).1⟩
  | N + 1 => by
    have ih := stp_term N
    have il := stp_level N
    refine ⟨fun s => ?_, fun s => ?_⟩
    · simp only [tkTerm]
      split
      · simp only [tkNode_left]; omega
      · have h1 := (rpt_pot il (tkHd (tkNode s)).lvs (tkHd (tkNode s)).s).1
        have h2 := (rpt_pot ih (tmWide (tkHd (tkNode s)).kind) (rpt (tkLevel N) (tkHd (tkNode s)).lvs (tkHd (tkNode s)).s).2).1
        rw [tkHd_left, tkNode_left] at h1
        simp only; omega
    · simp only [tkTerm]
      split
      · exact (tkNode_pot s).1
      · rename_i hl
        have h1 := (rpt_pot il (tkHd (tkNode s)).lvs (tkHd (tkNode s)).s).2
        have h2 := (rpt_pot ih (tmWide (tkHd (tkNode s)).kind) (rpt (tkLevel N) (tkHd (tkNode s)).lvs (tkHd (tkNode s)).s).2).2
        have h3 := ((tkNode_pot s).2 (by simpa using hl)).1
        have h4 : (tkNode s).pot ≤ (tkHd (tkNode s)).s.pot := pot_same (tkHd_left _) fun h => tkHd_lost _ h
        have h5 := (tkHd_lvs (tkNode s)).1
        have h6 := tmWide_le (tkHd (tkNode s)).kind
        simp only; omega
/-- where the counter stands well -/
structure Tk.ok (s : Tk) : Prop where
  up : s.left ≤ 2000
  lo : -20000 ≤ s.pot
theorem Tk.ok.i64 {s : Tk} (h : s.ok) : in64 (s.left - 1) := by
  have := h.up; have := h.lo; have := s.pot_le
  exact in64_of (by omega) (by omega)
theorem Tk.ok.same {s s' : Tk} (h : s.ok) (hl : s'.left = s.left) (k : s.lost = true → s'.lost = true) : s'.ok := ⟨by rw [hl]; exact h.up, Int.le_trans h.lo (pot_same hl k)⟩
theorem Tk.ok.num {s : Tk} (h : s.ok) (most : Nat) : (tkNum most s).2.ok := h.same (tkNum_left _ _) (tkNum_lost _ _)
theorem Tk.ok.text {s : Tk} (h : s.ok) : (tkText s).2.ok := h.same (tkText_left _) (tkText_lost _)
theorem ok_begin (bs : List UInt8) (q : Bool) : (⟨bs, q, 2000⟩ : Tk).ok := ⟨by simp, by unfold Tk.pot; cases q <;> simp <;> omega⟩
end Go.Proofs.YtnjnfegafmhgnaaGreatDoor

/-
  What is written is taken so: levels, terms, declarations, in plain lists. No condition.
-/
namespace Go.Proofs.YtnjnfegafmhgnaaGreatDoor
open Go.RowKit

theorem tkNum_enc {n most : Nat} (h : n ≤ most) (h40 : n ≤ 1099511627776) (r : List UInt8) (q : Bool) (L : Int) : tkNum most ⟨enc n ++ r, q, L⟩ = (n, ⟨r, q, L⟩) := by
  have hp := enc_pos n
  unfold tkNum
  simp only [enc_dec h40]
  rw [if_pos ⟨by omega, h⟩]
  simp
theorem tkText_stB {nm : List UInt8} (h : nm.length ≤ 40) (r : List UInt8) (L : Int) : tkText ⟨stB nm ++ r, false, L⟩ = (nm, ⟨r, false, L⟩) := by
  unfold tkText stB
  rw [List.append_assoc, tkNum_enc h (by omega)]
  unfold tkBy
  rw [if_neg (by simp)]
  simp
theorem rpt_rows {α : Type} {f : Tk → α × Tk} {B : α → List UInt8} {c : α → Nat} (xs : List α) (h : ∀ x ∈ xs, ∀ (r : List UInt8) (L : Int), (c x : Int) ≤ L → f ⟨B x ++ r, false, L⟩ = (x, ⟨r, false, L - c x⟩)) (r : List UInt8) (L : Int) (hL : ((xs.map c).sum : Int) ≤ L) :
    rpt f xs.length ⟨(xs.map B).flatten ++ r, false, L⟩ = (xs, ⟨r, false, L - (xs.map c).sum⟩) := by
  have key : ∀ k, k ≤ xs.length → rpt f k ⟨(xs.map B).flatten ++ r, false, L⟩ = (xs.take k, ⟨((xs.drop k).map B).flatten ++ r, false, L - ((xs.take k).map c).sum⟩) := by
    intro k
    induction k with
    | zero => intro _; simp [rpt]
    | succ k ih =>
      intro hk
      have hlt : k < xs.length := by omega
      have hs : ((xs.take (k + 1)).map c).sum = ((xs.take k).map c).sum + c xs[k] := by rw [List.take_succ_eq_append_getElem hlt, List.map_append, List.sum_append_nat]; rfl
      have hle : ((xs.take (k + 1)).map c).sum ≤ (xs.map c).sum := by
        have e : xs.map c = (xs.take (k + 1)).map c ++ (xs.drop (k + 1)).map c := by rw [← List.map_append, List.take_append_drop]
        rw [e, List.sum_append_nat]; omega
      simp only [rpt, ih (by omega)]
      rw [List.drop_eq_getElem_cons hlt]
      simp only [List.map_cons, List.flatten_cons, List.append_assoc]
      rw [h _ (List.getElem_mem hlt) _ _ (by omega), hs, List.take_succ_eq_append_getElem hlt]
      simp only [Prod.mk.injEq, Tk.mk.injEq, true_and]
      omega
  have := key xs.length (Nat.le_refl _)
  simpa using this
/-- the same, whatever the counter -/
theorem rpt_rows' {α : Type} {f : Tk → α × Tk} {B : α → List UInt8} (xs : List α) (h : ∀ x ∈ xs, ∀ (r : List UInt8) (L : Int), ∃ L', f ⟨B x ++ r, false, L⟩ = (x, ⟨r, false, L'⟩)) (r : List UInt8) (L : Int) :
    ∃ L', rpt f xs.length ⟨(xs.map B).flatten ++ r, false, L⟩ = (xs, ⟨r, false, L'⟩) := by
  have key : ∀ k, k ≤ xs.length → ∃ L', rpt f k ⟨(xs.map B).flatten ++ r, false, L⟩ = (xs.take k, ⟨((xs.drop k).map B).flatten ++ r, false, L'⟩) := by
    intro k
    induction k with
    | zero => intro _; exact ⟨L, by simp [rpt]⟩
    | succ k ih =>
      intro hk
      have hlt : k < xs.length := by omega
      obtain ⟨L1, h1⟩ := ih (by omega)
      obtain ⟨L2, h2⟩ := h _ (List.getElem_mem hlt) (((xs.drop (k + 1)).map B).flatten ++ r) L1
      refine ⟨L2, ?_⟩
      simp only [rpt, h1]
      rw [List.drop_eq_getElem_cons hlt]
      simp only [List.map_cons, List.flatten_cons, List.append_assoc]
      rw [h2, List.take_succ_eq_append_getElem hlt]
  obtain ⟨L', h'⟩ := key xs.length (Nat.le_refl _)
  exact ⟨L', by simpa using h'⟩
theorem lvBL_flat : ∀ ls : List Lv, lvBL ls = (ls.map lvB).flatten
  | [] => rfl
  | l :: ls => by rw [lvBL, lvBL_flat ls]; simp
theorem tmBL_flat : ∀ ls : List Tm, tmBL ls = (ls.map tmB).flatten
  | [] => rfl
  | l :: ls => by rw [tmBL, tmBL_flat ls]; simp
theorem lvNodes_sum : ∀ ls : List Lv, Lv.nodesL ls = (ls.map Lv.nodes).sum
  | [] => rfl
  | l :: ls => by rw [Lv.nodesL, lvNodes_sum ls]; simp
theorem tmNodes_sum : ∀ ls : List Tm, Tm.nodesL ls = (ls.map Tm.nodes).sum
  | [] => rfl
  | l :: ls => by rw [Tm.nodesL, tmNodes_sum ls]; simp
theorem lvNode_cases {n k m : Int} {len : Nat} (h : lvNode n k m len = true) : (k = 1 ∧ len = 0) ∨ (k = 2 ∧ len = 0) ∨ (k = 3 ∧ m = 0 ∧ len = 1) ∨ ((k = 4 ∨ k = 5) ∧ m = 0 ∧ len = 2) := by
  unfold lvNode at h
  by_cases h1 : k = 1
  · simp [h1] at h; exact Or.inl ⟨h1, by simp [h]⟩
  · by_cases h2 : k = 2
    · simp [h2] at h; exact Or.inr (Or.inl ⟨h2, by simp [h]⟩)
    · by_cases h3 : k = 3
      · simp [h3] at h; exact Or.inr (Or.inr (Or.inl ⟨h3, h⟩))
      · by_cases h4 : k = 4 ∨ k = 5
        · simp [h1, h2, h3, h4] at h; exact Or.inr (Or.inr (Or.inr ⟨h4, h⟩))
        · simp [h1, h2, h3, h4] at h
theorem node_next {r : List UInt8} {L : Int} (h : 1 ≤ L) : tkNode ⟨r, false, L⟩ = ⟨r, false, L - 1⟩ := by
  unfold tkNode
  simp
  omega
theorem lv_back {n : Int} (hn4 : n ≤ 4) : ∀ (N : Nat) (l : Lv) (r : List UInt8) (L : Int), l.nodes ≤ N → (l.nodes : Int) ≤ L → lvFit n l = true → tkLevel N ⟨lvB l ++ r, false, L⟩ = (l, ⟨r, false, L - l.nodes⟩) := by
  intro N
  induction N with
  | zero => intro l _ _ h; have := l.nodes_pos; omega
  | succ N ih =>
    intro l r L hN hL hfit
    have hnd := l.nodes_eq
    have hin := lvFit_in hn4 hfit
    have hnode := hfit
    rw [lvFit_parts, Bool.and_eq_true] at hnode
    have hc := lvNode_cases hnode.1
    have e1 : tkNum 5 ⟨lvB l ++ r, false, L - 1⟩ = (l.kind.toNat, ⟨(if l.kind = 1 ∨ l.kind = 2 then enc l.n.toNat else []) ++ (lvBL l.args ++ r), false, L - 1⟩) := by
      rw [lvB_eq, List.append_assoc, List.append_assoc]
      exact tkNum_enc (by omega) (by omega) _ _ _
    have e2 : lvNumT (l.kind.toNat, ⟨(if l.kind = 1 ∨ l.kind = 2 then enc l.n.toNat else []) ++ (lvBL l.args ++ r), false, L - 1⟩) = (l.n.toNat, ⟨lvBL l.args ++ r, false, L - 1⟩) := by
      unfold lvNumT
      by_cases hk : l.kind = 1 ∨ l.kind = 2
      · rw [if_pos (by simp only; omega), if_pos hk]
        exact tkNum_enc (by omega) (by omega) _ _ _
      · rw [if_neg (by simp only; omega), if_neg hk]
        have : l.n = 0 := by omega
        simp [this]
    have e3 : wideOf l.kind.toNat = l.args.length := by
      rcases hc with ⟨h1, h2⟩ | ⟨h1, h2⟩ | ⟨h1, _, h2⟩ | ⟨h1 | h1, _, h2⟩ <;> rw [h1, h2] <;> rfl
    have e4 := rpt_rows (f := tkLevel N) (B := lvB) (c := Lv.nodes) l.args (fun x hx r' L' hl => ih x r' L' (by have := Lv.nodesL_mem hx; omega) hl (lvFit_arg hfit hx)) r (L - 1) (by rw [← lvNodes_sum]; omega)
    rw [← lvBL_flat, ← lvNodes_sum] at e4
    have hno : (tkNode ⟨lvB l ++ r, false, L⟩) = ⟨lvB l ++ r, false, L - 1⟩ := node_next (by omega)
    simp only [tkLevel, hno, e1, e2, e3, e4]
    rw [if_neg (by decide)]
    refine Prod.ext ?_ ?_
    · show Lv.mk _ _ _ = l
      rw [show ((l.kind.toNat : Nat) : Int) = l.kind by omega, show ((l.n.toNat : Nat) : Int) = l.n by omega, Lv.eta]
    · simp only [Tk.mk.injEq, true_and]; omega
theorem tmNode_cases {v k m : Int} {nm : List UInt8} {ls xs : Nat} (h : tmNode v k m nm ls xs = true) : (k = 1 ∧ 0 ≤ m ∧ nm = [] ∧ ls = 0 ∧ xs = 0) ∨ (k = 2 ∧ m = 0 ∧ nm = [] ∧ ls = 1 ∧ xs = 0) ∨ (k = 3 ∧ m = 0 ∧ ls ≤ 4 ∧ xs = 0) ∨ ((k = 4 ∨ k = 5 ∨ k = 6) ∧ m = 0 ∧ nm = [] ∧ ls = 0 ∧ xs = 2) ∨ (k = 7 ∧ m = 0 ∧ nm = [] ∧ ls = 0 ∧ xs = 3) := by
  unfold tmNode at h
  by_cases h1 : k = 1
  · simp [h1] at h; exact Or.inl ⟨h1, h.1.1.1.1, by simp [h], h.1.2, h.2⟩
  · by_cases h2 : k = 2
    · simp [h2] at h; exact Or.inr (Or.inl ⟨h2, h.1.1.1, by simp [h], h.1.2, h.2⟩)
    · by_cases h3 : k = 3
      · simp [h3] at h; exact Or.inr (Or.inr (Or.inl ⟨h3, h.1.1.1, h.1.2, h.2⟩))
      · by_cases h4 : k = 4 ∨ k = 5 ∨ k = 6
        · simp [h1, h2, h3, h4] at h; exact Or.inr (Or.inr (Or.inr (Or.inl ⟨h4, h.1.1.1, by simp [h], h.1.2, h.2⟩)))
        · by_cases h7 : k = 7
          · simp [h7] at h; exact Or.inr (Or.inr (Or.inr (Or.inr ⟨h7, h.1.1.1, by simp [h], h.1.2, h.2⟩)))
          · simp [h1, h2, h3, h4, h7] at h
theorem hd_back {v : Int} {l : Tm} (hp : Pok l) (h : tmNode v l.kind l.n l.name l.levels.length l.args.length = true) (r : List UInt8) (L : Int) :
    tkHd ⟨enc l.kind.toNat ++ (tmHd l ++ r), false, L⟩ = ⟨l.kind.toNat, l.n.toNat, l.name, l.levels.length, ⟨r, false, L⟩⟩ := by
  have e1 : tkNum 7 ⟨enc l.kind.toNat ++ (tmHd l ++ r), false, L⟩ = (l.kind.toNat, ⟨tmHd l ++ r, false, L⟩) := tkNum_enc (by have := hp.kind; omega) (by have := hp.kind; omega) _ _ _
  unfold tkHd
  rw [e1]
  rcases tmNode_cases h with ⟨h1, h2, h3, h4, h5⟩ | ⟨h1, h2, h3, h4, h5⟩ | ⟨h1, h2, h4, h5⟩ | ⟨h1, h2, h3, h4, h5⟩ | ⟨h1, h2, h3, h4, h5⟩
  · have hm := (hp.num h1).2
    have e2 : tmHd l = enc l.n.toNat := by unfold tmHd; rw [if_pos h1]
    rw [if_pos (by simp only [h1]; rfl), e2]
    simp only
    rw [tkNum_enc (by omega) (by omega), h1, h3, h4]
    rfl
  · have e2 : tmHd l = [] := by unfold tmHd; rw [if_neg (by omega), if_neg (by omega)]
    rw [if_neg (by simp only [h1]; decide), if_pos (by simp only [h1]; rfl), e2, h1, h2, h3, h4]
    rfl
  · have hnm := hp.name
    have e2 : tmHd l = stB l.name ++ enc l.levels.length := by unfold tmHd; rw [if_neg (by omega), if_pos h1]
    rw [if_neg (by simp only [h1]; decide), if_neg (by simp only [h1]; decide), if_pos (by simp only [h1]; rfl), e2]
    simp only [List.append_assoc]
    rw [tkText_stB hnm]
    simp only
    rw [tkNum_enc (by omega) (by omega), h1, h2]
    rfl
  · have e2 : tmHd l = [] := by unfold tmHd; rw [if_neg (by omega), if_neg (by omega)]
    rw [if_neg (by simp only; omega), if_neg (by simp only; omega), if_neg (by simp only; omega), e2, h2, h3, h4]
    rfl
  · have e2 : tmHd l = [] := by unfold tmHd; rw [if_neg (by omega), if_neg (by omega)]
    rw [if_neg (by simp only; omega), if_neg (by simp only; omega), if_neg (by simp only; omega), e2, h2, h3, h4]
    rfl
theorem tmFitL_mem {n k : Int} : ∀ {ts : List Tm} {i : Nat} {v : Int} {a : Tm}, tmFitL n k ts i v = true → a ∈ ts → ∃ v', tmFit n a v' = true
  | t :: ts, i, v, a, h, ha => by
    simp only [tmFitL, Bool.and_eq_true] at h
    rcases List.mem_cons.1 ha with rfl | ha
    · exact ⟨_, h.1⟩
    · exact tmFitL_mem h.2 ha
theorem tm_back {n : Int} (hn4 : n ≤ 4) : ∀ (N : Nat) (l : Tm) (v : Int) (r : List UInt8) (L : Int), l.nodes ≤ N → (l.nodes : Int) ≤ L → tmFit n l v = true → PokAll l → tkTerm N ⟨tmB l ++ r, false, L⟩ = (l, ⟨r, false, L - l.nodes⟩) := by
  intro N
  induction N with
  | zero => intro l _ _ _ h; have := l.nodes_pos; omega
  | succ N ih =>
    intro l v r L hN hL hfit hpk
    have hnd := l.nodes_eq
    have hp := hpk.pok
    have hf := hfit
    rw [tmFit_eq] at hf
    simp only [Bool.and_eq_true] at hf
    obtain ⟨⟨h1, h2⟩, h3⟩ := hf
    have hk := hp.kind
    have e1 := hd_back hp h1 (lvBL l.levels ++ (tmBL l.args ++ r)) (L - 1)
    have e2 := rpt_rows (f := tkLevel N) (B := lvB) (c := Lv.nodes) l.levels (fun x hx r' L' hl => lv_back hn4 N x r' L' (by have := Lv.nodesL_mem hx; omega) hl (lvRight_fit (List.all_eq_true.1 h2 x hx))) (tmBL l.args ++ r) (L - 1) (by rw [← lvNodes_sum]; omega)
    rw [← lvBL_flat, ← lvNodes_sum] at e2
    have e3 := rpt_rows (f := tkTerm N) (B := tmB) (c := Tm.nodes) l.args (fun x hx r' L' hl => by
      obtain ⟨v', hv'⟩ := tmFitL_mem h3 hx
      exact ih x v' r' L' (by have := Tm.nodesL_mem hx; omega) hl hv' (hpk.arg hx)) r (L - 1 - Lv.nodesL l.levels) (by rw [← tmNodes_sum]; omega)
    rw [← tmBL_flat, ← tmNodes_sum] at e3
    have e4 : tmWide l.kind.toNat = l.args.length := by
      rcases tmNode_cases h1 with ⟨h1, _, _, _, h2⟩ | ⟨h1, _, _, _, h2⟩ | ⟨h1, _, _, h2⟩ | ⟨h1 | h1 | h1, _, _, _, h2⟩ | ⟨h1, _, _, _, h2⟩ <;> rw [h1, h2] <;> rfl
    have hno : tkNode ⟨tmB l ++ r, false, L⟩ = ⟨enc l.kind.toNat ++ (tmHd l ++ (lvBL l.levels ++ (tmBL l.args ++ r))), false, L - 1⟩ := by
      rw [node_next (by omega), tmB_eq]; simp
    simp only [tkTerm, hno, e1, e2, e4, e3]
    rw [if_neg (by decide)]
    have hm : 0 ≤ l.n := by rcases tmNode_cases h1 with ⟨_, h, _⟩ | ⟨_, h, _⟩ | ⟨_, h, _⟩ | ⟨_, h, _⟩ | ⟨_, h, _⟩ <;> omega
    refine Prod.ext ?_ ?_
    · show Tm.mk _ _ _ _ _ = l
      rw [show ((l.kind.toNat : Nat) : Int) = l.kind by omega, show ((l.n.toNat : Nat) : Int) = l.n by omega, Tm.eta]
    · simp only [Tk.mk.injEq, true_and]; omega
end Go.Proofs.YtnjnfegafmhgnaaGreatDoor

/-
  An application's bytes, in plain lists; what the laws' fixed texts come to. No condition.
-/
namespace Go.Proofs.YtnjnfegafmhgnaaGreatDoor
open Go.RowKit

mutual
theorem big_nodes : ∀ t : Tm, t.nodes ≤ t.big
  | .mk k n nm ls xs => by
    have := big_nodesL xs
    simp only [Tm.nodes, Tm.big]; omega
theorem big_nodesL : ∀ ts : List Tm, Tm.nodesL ts ≤ Tm.bigL ts
  | [] => Nat.le_refl _
  | t :: ts => by
    have := big_nodes t
    have := big_nodesL ts
    simp only [Tm.nodesL, Tm.bigL]; omega
end
def tmApp (a b : Tm) : Tm := .mk 4 0 [] [] [a, b]
theorem app_ok {a b : Tm} (ha : a.nodes ≤ 900) (hb : b.nodes ≤ 900) : packOk (tmApp a b) = (packOk a && packOk b) := by
  have h3 : (tmApp a b).nodes ≤ 2000 := by simp [tmApp, Tm.nodes, Tm.nodesL, Lv.nodesL]; omega
  have h1 : a.nodes ≤ 2000 := by omega
  have h2 : b.nodes ≤ 2000 := by omega
  unfold packOk tmRight
  simp only [h1, h2, h3, decide_true]
  have e1 : tmFit 4 (tmApp a b) (min 1099511627776 1125899906842624) = (tmFit 4 a (min 1099511627776 1125899906842624) && tmFit 4 b (min 1099511627776 1125899906842624)) := by
    simp [tmApp, tmFit, tmFitL, tmNode, lvRightL, tmBind]
  have e2 : tmNear (tmApp a b) = (tmNear a && tmNear b) := by simp [tmApp, tmNear, tmNearL]
  rw [e1, e2]
  generalize tmFit 4 a _ = p
  generalize tmFit 4 b _ = q
  generalize tmNear a = u
  generalize tmNear b = v
  cases p <;> cases q <;> cases u <;> cases v <;> rfl
theorem app_bytes (a b : Tm) : tmB (tmApp a b) = 4 :: (tmB a ++ tmB b) := by
  simp [tmApp, tmB, tmBL, lvBL, enc_lt]

/-! the texts that the document fixes -/
def lvNum0 : Lv := .mk 1 0 []
def tmSort0 : Tm := .mk 2 0 [] [lvNum0] []
def dcA : Dc := ⟨1, 0, [97], tmSort0, tm0, 0, []⟩
def lvSucc2 : Lv := .mk 3 0 [.mk 1 2 []]
theorem sort0_ok : packOk tmSort0 = true := by decide
theorem sort0_bytes : tmB tmSort0 = [2, 1, 0] := by simp [tmSort0, lvNum0, tmB, tmBL, lvB, lvBL, enc_lt]
theorem dcA_formed : formed dcA = true := by decide
theorem succ2_right : lvRight 4 lvSucc2 = true := by decide
theorem succ2_bytes : lvB lvSucc2 = [3, 1, 2] := by simp [lvSucc2, lvB, lvBL, enc_lt]
def tmVar5 : Tm := .mk 1 5 [] [] []
theorem var5_ok : packOk tmVar5 = true := by decide
theorem var5_bytes : tmB tmVar5 = [1, 5] := by simp [tmVar5, tmB, tmBL, lvBL, enc_lt]
theorem var5_take : tkTerm 2000 ⟨[1, 5, 9], false, 2000⟩ = (tmVar5, ⟨[9], false, 1999⟩) := by
  have h := packOk_pok var5_ok
  have h2 := tm_back (n := 4) (by decide) 2000 tmVar5 100 [9] 2000 (by decide) (by decide) (by decide) h.1
  rw [var5_bytes] at h2
  exact h2
theorem succ2_take : tkLevel 2000 ⟨[3, 1, 2], false, 2000⟩ = (lvSucc2, ⟨[], false, 1998⟩) := by
  have h2 := lv_back (n := 4) (by decide) 2000 lvSucc2 [] 2000 (by decide) (by decide) (by decide)
  rw [succ2_bytes] at h2
  exact h2

/-! declarations as bytes -/
def ctB (c : Ct) : List UInt8 := stB c.name ++ tmB c.type
def dcTail (d : Dc) : List UInt8 := if 2 ≤ d.kind ∧ d.kind ≤ 4 then tmB d.value else if d.kind = 5 then enc d.fixed.toNat ++ (enc d.ctors.length ++ (d.ctors.map ctB).flatten) else []
def dcB (d : Dc) : List UInt8 := enc d.kind.toNat ++ (stB d.name ++ (enc d.params.toNat ++ (tmB d.type ++ dcTail d)))
theorem dcA_bytes : dcB dcA = [1, 1, 97, 0, 2, 1, 0] := by
  have h := sort0_bytes
  have e : dcTail dcA = [] := by decide
  unfold dcB
  rw [e, show dcA.type = tmSort0 from rfl, h]
  simp [dcA, stB, enc_lt]
mutual
theorem near_fit : ∀ (t : Tm) (n v : Int), v + t.nodes ≤ 1099511627776 → tmFit n t v = true → tmNear t = true
  | .mk k m nm ls xs, n, v, hv, h => by
    rw [tmFit_eq] at h
    simp only [Bool.and_eq_true, Tm.kind, Tm.n, Tm.name, Tm.levels, Tm.args] at h
    obtain ⟨⟨h1, h2⟩, h3⟩ := h
    simp only [Tm.nodes] at hv
    rw [tmNear, near_fitL xs n k 0 v (by omega) h3, Bool.and_true]
    by_cases hk : k = 1
    · rw [hk] at h1
      simp [tmNode] at h1
      have : m < 1099511627776 := by omega
      simp [hk, this]
    · simp [hk]
theorem near_fitL : ∀ (ts : List Tm) (n k : Int) (i : Nat) (v : Int), v + Tm.nodesL ts + 1 ≤ 1099511627776 → tmFitL n k ts i v = true → tmNearL ts = true
  | [], _, _, _, _, _, _ => rfl
  | t :: ts, n, k, i, v, hv, h => by
    simp only [tmFitL, Bool.and_eq_true] at h
    simp only [Tm.nodesL] at hv
    rw [tmNearL, near_fit t n _ (by split <;> omega) h.1, near_fitL ts n k (i + 1) v (by have := t.nodes_pos; omega) h.2]
    rfl
end
theorem closed_pok {n : Int} {t : Tm} (h : tmRight n 0 t = true) : PokAll t ∧ t.nodes ≤ 2000 ∧ 0 ≤ n ∧ n ≤ 4 ∧ tmFit n t 0 = true := by
  unfold tmRight at h
  simp only [Bool.and_eq_true, decide_eq_true_eq] at h
  obtain ⟨⟨⟨⟨h1, h2⟩, _⟩, h4⟩, h5⟩ := h
  have h5' : tmFit n t 0 = true := h5
  exact ⟨pok_of t n 0 h2 h5' (near_fit t n 0 (by omega) h5'), h4, h1, h2, h5'⟩
theorem whole_back {n : Int} {t : Tm} (h : tmRight n 0 t = true) (r : List UInt8) (L : Int) : tkWhole ⟨tmB t ++ r, false, L⟩ = (t, ⟨r, false, 2000 - t.nodes⟩) := by
  obtain ⟨h1, h2, _, h4, h5⟩ := closed_pok h
  exact tm_back h4 2000 t 0 r 2000 h2 (by omega) h5 h1
theorem name_len {s : List UInt8} (h : nameOk s = true) : s.length ≤ 40 := by
  unfold nameOk at h
  simp only [Bool.and_eq_true, decide_eq_true_eq] at h
  exact h.1.2
theorem tm0_of {t : Tm} (h : tmEq t tm0 = true) : t = tm0 := (tmEq_iff t tm0).1 h
/-- what a declaration that is well formed says -/
structure FormedD (d : Dc) : Prop where
  kind : 1 ≤ d.kind ∧ d.kind ≤ 5
  name : nameOk d.name = true
  type : tmRight d.params 0 d.type = true
  val : 2 ≤ d.kind ∧ d.kind ≤ 4 → tmRight d.params 0 d.value = true
  noval : ¬(2 ≤ d.kind ∧ d.kind ≤ 4) → d.value = tm0
  nofam : d.kind ≠ 5 → d.fixed = 0 ∧ d.ctors = []
  fam : d.kind = 5 → 0 ≤ d.fixed ∧ d.fixed ≤ 16 ∧ d.ctors.length ≤ 8 ∧ ∀ c ∈ d.ctors, nameOk c.name = true ∧ tmRight d.params 0 c.type = true
theorem formed_says {d : Dc} (h : formed d = true) : FormedD d := by
  unfold formed at h
  simp only [Bool.and_eq_true, decide_eq_true_eq] at h
  obtain ⟨⟨⟨⟨h1, h2⟩, h3⟩, h4⟩, h5⟩ := h
  by_cases k5 : d.kind = 5
  · rw [if_pos k5] at h5
    simp only [Bool.and_eq_true, decide_eq_true_eq, Bool.not_eq_true', List.any_eq_false] at h5
    obtain ⟨⟨⟨⟨h6, h7⟩, h8⟩, h9⟩, h10⟩ := h5
    refine ⟨⟨h1, h2⟩, h3, h4, fun h => absurd h (by omega), fun _ => tm0_of h6, fun h => absurd k5 h, fun _ => ⟨h7, h8, h9, fun c hc => ?_⟩⟩
    have := h10 c hc
    unfold ctWrong at this
    cases hn : nameOk c.name <;> cases ht : tmRight d.params 0 c.type <;> simp [hn, ht] at this ⊢
  · rw [if_neg k5] at h5
    by_cases h6 : d.fixed = 0 ∧ d.ctors.length = 0
    · rw [if_pos h6] at h5
      have hf : d.kind ≠ 5 → d.fixed = 0 ∧ d.ctors = [] := fun _ => ⟨h6.1, List.eq_nil_of_length_eq_zero h6.2⟩
      by_cases h7 : 2 ≤ d.kind ∧ d.kind ≤ 4
      · rw [if_pos h7] at h5
        exact ⟨⟨h1, h2⟩, h3, h4, fun _ => h5, fun h => absurd h7 h, hf, fun h => absurd h k5⟩
      · rw [if_neg h7] at h5
        exact ⟨⟨h1, h2⟩, h3, h4, fun h => absurd h h7, fun _ => tm0_of h5, hf, fun h => absurd h k5⟩
    · rw [if_neg h6] at h5; cases h5
theorem dc_back {d : Dc} (h : formed d = true) (r : List UInt8) (L : Int) : ∃ L', tkDecl ⟨dcB d ++ r, false, L⟩ = (d, ⟨r, false, L'⟩) := by
  have hf := formed_says h
  have hk := hf.kind
  obtain ⟨_, _, hp0, hp4, _⟩ := closed_pok hf.type
  have e1 : tkNum 5 ⟨dcB d ++ r, false, L⟩ = (d.kind.toNat, ⟨stB d.name ++ (enc d.params.toNat ++ (tmB d.type ++ (dcTail d ++ r))), false, L⟩) := by
    unfold dcB
    simp only [List.append_assoc]
    exact tkNum_enc (by omega) (by omega) _ _ _
  have e2 := tkText_stB (name_len hf.name) (enc d.params.toNat ++ (tmB d.type ++ (dcTail d ++ r))) L
  have e3 := tkNum_enc (n := d.params.toNat) (most := 4) (by omega) (by omega) (tmB d.type ++ (dcTail d ++ r)) false L
  have e4 := whole_back hf.type (dcTail d ++ r) L
  have ek : ((d.kind.toNat : Nat) : Int) = d.kind := by omega
  have ep : ((d.params.toNat : Nat) : Int) = d.params := by omega
  have main : ∀ v : Vl, (v.value = d.value ∧ (v.fixed : Int) = d.fixed ∧ v.ctors = d.ctors) → ((⟨(d.kind.toNat : Int), (d.params.toNat : Int), d.name, d.type, v.value, (v.fixed : Int), v.ctors⟩ : Dc), v.s) = (d, v.s) := fun v hv => by rw [ek, ep, hv.1, hv.2.1, hv.2.2]
  simp only [tkDecl, e1, e2, e3, e4]
  by_cases h1 : 2 ≤ d.kind ∧ d.kind ≤ 4
  · have hv := whole_back (hf.val h1) r (2000 - d.type.nodes)
    have e5 : tkVal d.kind.toNat ⟨dcTail d ++ r, false, 2000 - d.type.nodes⟩ = ⟨d.value, 0, [], ⟨r, false, 2000 - d.value.nodes⟩⟩ := by
      unfold tkVal dcTail
      rw [if_pos (by omega), if_pos h1, hv]
    have hn := hf.nofam (by omega)
    rw [e5]
    exact ⟨_, main ⟨d.value, 0, [], ⟨r, false, 2000 - d.value.nodes⟩⟩ ⟨rfl, by rw [hn.1]; rfl, by rw [hn.2]⟩⟩
  · by_cases h5 : d.kind = 5
    · obtain ⟨f1, f2, f3, f4⟩ := hf.fam h5
      obtain ⟨L', hr⟩ := rpt_rows' (f := tkCtor) (B := ctB) d.ctors (fun c hc r' L1 => by
        refine ⟨2000 - c.type.nodes, ?_⟩
        unfold tkCtor ctB
        rw [List.append_assoc, tkText_stB (name_len (f4 c hc).1)]
        simp only
        rw [whole_back (f4 c hc).2]) r (2000 - d.type.nodes)
      have e6 := tkNum_enc (n := d.fixed.toNat) (most := 16) (by omega) (by omega) (enc d.ctors.length ++ ((d.ctors.map ctB).flatten ++ r)) false (2000 - d.type.nodes)
      have e7 := tkNum_enc (n := d.ctors.length) (most := 8) f3 (by omega) ((d.ctors.map ctB).flatten ++ r) false (2000 - d.type.nodes)
      have e5 : tkVal d.kind.toNat ⟨dcTail d ++ r, false, 2000 - d.type.nodes⟩ = ⟨tm0, d.fixed.toNat, d.ctors, ⟨r, false, L'⟩⟩ := by
        unfold tkVal dcTail
        rw [if_neg (by omega), if_pos (by omega), if_neg h1, if_pos h5]
        simp only [List.append_assoc, e6, e7, hr]
      rw [e5]
      exact ⟨_, main ⟨tm0, d.fixed.toNat, d.ctors, ⟨r, false, L'⟩⟩ ⟨(hf.noval h1).symm, by simp only; omega, rfl⟩⟩
    · have e5 : tkVal d.kind.toNat ⟨dcTail d ++ r, false, 2000 - d.type.nodes⟩ = ⟨tm0, 0, [], ⟨r, false, 2000 - d.type.nodes⟩⟩ := by
        unfold tkVal dcTail
        rw [if_neg (by omega), if_neg (by omega), if_neg h1, if_neg h5]
        rfl
      have hn := hf.nofam h5
      rw [e5]
      exact ⟨_, main ⟨tm0, 0, [], ⟨r, false, 2000 - d.type.nodes⟩⟩ ⟨(hf.noval h1).symm, by rw [hn.1]; rfl, by rw [hn.2]⟩⟩
end Go.Proofs.YtnjnfegafmhgnaaGreatDoor

/-
  wire's num, Num; bytes.Clone. No condition.
-/
namespace Go.Proofs.YtnjnfegafmhgnaaGreatDoor
open Go.RowKit

set_option maxRecDepth 100000 in
theorem Clone_con (o : Own) (bs : List UInt8) (hl : bs.length ≤ 1099511627776) : Ans Tryz.prog 101 [.sl o 1 (bs.map byteV)] (byX bs) := by
  intro H Q hq
  refine con_of_awp (esc := fun _ => false) tab_ok mixed Tryz.func101 rfl (ent Tryz.func101 (by kernel_rfl) rfl) (by kernel_rfl) ?_
  intro hw hn
  refine ifNil_or (fun h => ?_) (fun h => ?_)
  · have h0 : bs = [] := by simpa using h
    subst h0
    intro q
    cases q with
    | true => exact ⟨_, H, Le.nil _ _, List.Sublist.refl _, hq⟩
    | false =>
      refine ⟨by decide, ?_⟩
      exact ⟨_, H, Le.own _ _ _, List.Sublist.refl _, hq⟩
  · refine ⟨?_, ifNil_or (fun h' => absurd h' h) (fun _ => fun c hc => ?_)⟩
    · simp only [List.length_map, List.length_nil]
      show _ * (1 + 1) ≤ _
      omega
    · exact ⟨_, H, Le.own _ _ _, List.sublist_cons_self _ _, hq⟩

theorem and127 (x : UInt8) : bits BinOp.and IntKind.u8 ((x.toNat : Nat) : Int) 127 = ((x.toNat % 128 : Nat) : Int) := by
  have hx2 := x.toNat_lt
  have := bits_mask .u8 8 (by decide) wraps_u8 7 (by decide) (x.toNat : Int) (by omega) (by omega)
  simpa using this
theorem and_raw (x : UInt8) : IntKind.u8.wrap ↑(BitVec.ofInt IntKind.u8.bits ((x.toNat : Nat) : Int) &&& BitVec.ofInt IntKind.u8.bits 127).toNat = ((x.toNat % 128 : Nat) : Int) := and127 x
theorem shl7 (x : UInt8) {k : Nat} (h6 : k < 6) : ((x.toNat % 128 : Nat) : Int) * 2 ^ (min ((7 * (k : Int)).toNat) 64) = ((x.toNat % 128 * 2 ^ (7 * k) : Nat) : Int) ∧ x.toNat % 128 * 2 ^ (7 * k) ≤ 127 * 34359738368 := by
  have hp : 2 ^ (7 * k) ≤ 34359738368 := by
    have : 7 * k ≤ 35 := by omega
    exact Nat.le_trans (Nat.pow_le_pow_right (by decide) this) (by decide)
  refine ⟨?_, Nat.mul_le_mul (by omega) hp⟩
  rw [show min ((7 * (k : Int)).toNat) 64 = 7 * k by omega, Int.natCast_mul, Int.natCast_pow]; rfl
theorem num_step {l : List UInt8} {k : Nat} (hk : k < l.length) (h6 : k < 6) :
    bits BinOp.or IntKind.i64 ((val (l.take k) : Nat) : Int) (((l[k].toNat % 128 : Nat) : Int) * 2 ^ (min ((7 * (k : Int)).toNat) 64)) = ((val (l.take (k + 1)) : Nat) : Int) := by
  have h := num_val hk h6 (x := l[k]) (by simp [List.getD_eq_getElem?_getD, hk])
  obtain ⟨e1, e2⟩ := shl7 l[k] h6
  have e3 : (((l[k].toNat % 128 : Nat) : Int) * 2 ^ (7 * k)) = ((l[k].toNat % 128 * 2 ^ (7 * k) : Nat) : Int) := by
    rw [Int.natCast_mul, Int.natCast_pow]; rfl
  rw [and127, IntWalk.wrap64_in ((l[k].toNat % 128 : Nat) : Int) (by omega), e3, IntWalk.wrap64_in _ (by omega)] at h
  rw [e1]
  exact h

set_option maxRecDepth 100000 in
theorem wnum_con (o : Own) (bs : List UInt8) : Ans Tryz.prog 192 [.sl o 1 (bs.map byteV)] (.tup [.i (dec bs).1, .i (dec bs).2]) := by
  intro H Q hq
  refine con_of_awp (esc := fun _ => false) tab_ok mixed Tryz.func192 rfl (ent Tryz.func192 (by kernel_rfl) rfl) (by kernel_rfl) ?_
  intro hw hn
  have hlen : bs.length ≤ 9223372036854775807 := Wf.bytes (hw (.sl o 1 (bs.map byteV)) (by simp))
  have fin : ∀ p q : Nat, dec bs = (p, q) → ∃ r H', Le (.tup [.i p, .i q]) r ∧ List.Sublist H' H ∧ Q r H' := fun p q h => by
    rw [h] at hq
    exact ⟨_, H, Le.refl _, List.Sublist.refl _, hq⟩
  refine ⟨min bs.length 6, by simp only [List.length_map]; omega, ⟨Nat.zero_le _, by simp only [List.length_map]; omega⟩, ?_⟩
  refine ⟨Nat, fun k => ⟨[(2, .g (.i 0)), (3, .g (.i 0)), (4, .g (.i (val (bs.take k)))), (11, .g (byX (bs.take 6))), (12, .g (.i (bs.take 6).length)), (13, .g (.i k))], [], H⟩,
    fun k => k ≤ (bs.take 6).length ∧ ∀ j, j < k → 128 ≤ (bs.getD j 0).toNat, fun k => 6 - k, ⟨0, ⟨Nat.zero_le _, nofun⟩, ?_⟩, ?_⟩
  · have e : List.take (min bs.length 6 - 0) (List.drop 0 (List.map byteV bs)) = (bs.take 6).map byteV := by
      rw [List.drop_zero, ← List.map_take, Nat.sub_zero]
      congr 1
      by_cases h : bs.length ≤ 6
      · rw [Nat.min_eq_left h, List.take_of_length_le (Nat.le_refl _), List.take_of_length_le h]
      · rw [Nat.min_eq_right (by omega)]
    refine ⟨⟨Le.refl _, Le.refl _, Le.refl _, le_of_eq (by show AV.sl _ _ _ = AV.sl _ _ _; rw [e]), le_of_eq ?_, Le.refl _, trivial⟩, trivial, List.Sublist.refl _⟩
    show AV.i _ = AV.i _
    rw [e, List.length_map]
  · rintro k ⟨hk, hpre⟩
    refine ifB_dec (fun h1 => ?_) (fun h1 => ?_)
    · (try simp only at h1)
      have hlt : k < (bs.take 6).length := by omega
      have hl6 : (bs.take 6).length ≤ 6 := by simp; omega
      have hkb : k < bs.length := by simp at hlt; omega
      refine ⟨k, rfl, _, byAt hlt, ?_⟩
      generalize hx : (bs.take 6)[k] = x
      have hxb : bs[k] = x := by rw [← hx]; simp
      obtain ⟨e1, e2⟩ := shl7 x (k := k) (by omega)
      have e3 := num_step (l := bs) (k := k) hkb (by omega)
      rw [hxb] at e3
      refine ⟨by rw [and_raw]; exact in64_of (by omega) (by omega), ?_⟩
      refine ⟨in64_of (by first | omega | (dsimp only; omega)) (by first | omega | (dsimp only; omega)), ?_⟩
      refine ⟨by omega, ?_, ?_⟩
      · rw [and_raw]
        show in64 (_ * 2 ^ min _ 64)
        rw [e1]; exact in64_of (by omega) (by omega)
      have e4 : IntKind.i64.wrap ↑(BitVec.ofInt IntKind.i64.bits ((val (bs.take k) : Nat) : Int) ||| BitVec.ofInt IntKind.i64.bits (IntKind.u8.wrap ↑(BitVec.ofInt IntKind.u8.bits ((x.toNat : Nat) : Int) &&& BitVec.ofInt IntKind.u8.bits 127).toNat * 2 ^ min ((7 * (k : Int)).toNat) IntKind.i64.bits)).toNat = ((val (bs.take (k + 1)) : Nat) : Int) := by
        rw [and_raw]; exact e3
      have hgx : bs.getD k 0 = x := by simp [List.getD_eq_getElem?_getD, hkb, hxb]
      refine ifB_dec (fun h2 => ?_) (fun h2 => ?_)
      · have hc : (bs.getD k 0).toNat < 128 := by rw [hgx]; omega
        have hd := dec_found hkb (by omega) hpre hc
        refine ⟨[.i (val (bs.take (k + 1)))], ⟨le_of_eq (congrArg AV.i e4), trivial⟩, ?_⟩
        refine wright_con _ _ _ ?_
        intro hz1 hz2; clear hz1 hz2
        by_cases hv : val (bs.take (k + 1)) ≤ 1099511627776
        · rw [show (decide ((0 : Int) ≤ (val (bs.take (k + 1)) : Nat)) && decide (((val (bs.take (k + 1)) : Nat) : Int) ≤ 1099511627776)) = true by simp; omega]
          refine ifB_dec (fun h3 => ?_) (fun h3 => ?_)
          · refine ifB_dec (fun h4 => ?_) (fun h4 => ?_)
            · refine fin 0 0 ?_
              rw [hd, if_neg]
              intro hh
              exact hh.2 ⟨by rw [hgx]; exact UInt8.toNat_inj.1 (by simpa using h3), by omega⟩
            · refine ⟨in64_of (by first | omega | (dsimp only; omega)) (by first | omega | (dsimp only; omega)), ?_⟩
              rw [hd, if_pos ⟨hv, fun hh => h4 (by omega)⟩] at hq
              refine ⟨_, H, ?_, List.Sublist.refl _, hq⟩
              exact Le.tup ⟨le_of_eq (congrArg AV.i e4), le_of_eq (congrArg AV.i (by simp)), trivial⟩
          · refine ⟨in64_of (by first | omega | (dsimp only; omega)) (by first | omega | (dsimp only; omega)), ?_⟩
            rw [hd, if_pos ⟨hv, fun hh => h3 (by rw [← hgx, hh.1]; rfl)⟩] at hq
            refine ⟨_, H, ?_, List.Sublist.refl _, hq⟩
            exact Le.tup ⟨le_of_eq (congrArg AV.i e4), le_of_eq (congrArg AV.i (by simp)), trivial⟩
        · rw [show (decide ((0 : Int) ≤ (val (bs.take (k + 1)) : Nat)) && decide (((val (bs.take (k + 1)) : Nat) : Int) ≤ 1099511627776)) = false by simp; omega]
          refine fin 0 0 ?_
          rw [hd, if_neg fun hh => hv hh.1]
      · refine ⟨in64_of (by first | omega | (dsimp only; omega)) (by first | omega | (dsimp only; omega)), ?_⟩
        refine ⟨k + 1, ⟨by omega, fun j hj => ?_⟩, by (try dsimp only); omega, ⟨⟨Le.refl _, Le.refl _, le_of_eq (congrArg AV.i e4), Le.refl _, Le.refl _, Le.refl _, trivial⟩, trivial, List.Sublist.refl _⟩⟩
        by_cases hjk : j = k
        · rw [hjk, hgx]; omega
        · exact hpre j (by omega)
    · (try simp only at h1)
      have hk' : k = (bs.take 6).length := by omega
      refine fin 0 0 (dec_none fun j hj => hpre j ?_)
      rw [hk', List.length_take]; omega

set_option maxRecDepth 100000 in
theorem wNum_con (o : Own) (bs : List UInt8) (hl : bs.length ≤ 1099511627776) (H : Heap) (Q : AV → Heap → Prop) (hno : (dec bs).2 = 0 → Q (.tup [.i 0, .sl .full 0 [], .b false]) H) (hyes : (dec bs).2 ≠ 0 → Q (.tup [.i (dec bs).1, byX (bs.drop (dec bs).2), .b true]) H) :
    Con Tryz.prog 174 [.sl o 1 (bs.map byteV)] H Q := by
  refine con_of_awp (esc := fun _ => false) tab_ok mixed Tryz.func174 rfl (ent Tryz.func174 (by kernel_rfl) rfl) (by kernel_rfl) ?_
  intro hw hn
  have hd := dec_le bs
  refine ⟨_, LeL.refl _, wnum_con _ _ _ _ ?_⟩
  intro hz1 hz2; clear hz1 hz2
  refine ifB_dec (fun h1 => ?_) (fun h1 => ?_)
  · exact ⟨_, H, Le.refl _, List.Sublist.refl _, hno (by omega)⟩
  · refine ⟨(dec bs).2, rfl, ⟨by simp only [List.length_map]; omega, ?_⟩⟩
    refine ⟨[byX (bs.drop (dec bs).2)], ⟨?_, trivial⟩, ?_⟩
    · refine Le.trans (y := .sl .no 1 ((bs.drop (dec bs).2).map byteV)) (le_of_eq ?_) (Le.refl _)
      show AV.sl _ _ _ = AV.sl _ _ _
      rw [← List.map_drop, List.take_of_length_le (by simp)]
    · refine Clone_con _ _ (by simp; omega) _ _ ?_
      intro hz1 hz2; clear hz1 hz2
      exact ⟨_, H, Le.refl _, List.Sublist.refl _, hyes (by omega)⟩
end Go.Proofs.YtnjnfegafmhgnaaGreatDoor

/-
  pack's taker: a struct behind a pointer: num, text, node. No condition.
-/
namespace Go.Proofs.YtnjnfegafmhgnaaGreatDoor
open Go.RowKit

theorem keepP_t {m : Bool} {pins H : Heap} {A : Prop} (h : m = true) (hA : A) : keepP m pins H A := by subst h; exact hA
theorem le13 : 1 ≤ 3 := by decide
theorem le23 : 2 ≤ 3 := by decide
theorem le33 : 3 ≤ 3 := by decide
theorem pin1 {p : Nat × AObj} {H : Heap} (h : p ∈ H) : ∀ q ∈ [p], q ∈ H := fun q hq => by rw [List.mem_singleton.1 hq]; exact h
/-- a heap with a place left open -/
def Hole (b : Nat) (F : AObj → Heap) : Prop := ∀ x y, Heap.At b x y (F x) (F y)
theorem Hole.mem {b : Nat} {F : AObj → Heap} (h : Hole b F) (x : AObj) : (b, x) ∈ F x := (h x x).mem
theorem Hole.top (b : Nat) (H : Heap) : Hole b (fun y => (b, y) :: H) := fun _ _ => .here
theorem Hole.under {b : Nat} {F : AObj → Heap} (h : Hole b F) (p : Nat × AObj) : Hole b (fun y => p :: F y) := fun x y => .there (h x y)
def tkC (s : Tk) : AObj := .cells [byX s.rest, .b s.lost, .i s.left]
theorem dec_take6 (bs : List UInt8) : dec (bs.take 6) = dec bs := by
  unfold dec
  have e1 : stop6 (bs.take 6) = stop6 bs := by unfold stop6; rw [List.take_take]; rfl
  rw [e1]
  by_cases h6 : stop6 bs < 6
  · have e2 : (bs.take 6).take (stop6 bs + 1) = bs.take (stop6 bs + 1) := by rw [List.take_take, Nat.min_eq_left (by omega)]
    have e3 : (bs.take 6).getD (stop6 bs) 0 = bs.getD (stop6 bs) 0 := by simp [List.getD_eq_getElem?_getD, h6]
    have e4 : (stop6 bs < (bs.take 6).length) = (stop6 bs < bs.length) := propext (by rw [List.length_take]; omega)
    rw [e2, e3]; simp only [e4]
  · rw [if_neg fun h => h6 h.1, if_neg fun h => h6 h.1]
theorem byX_cut (bs : List UInt8) (a n : Nat) (h : n = bs.length - a) : AV.sl .no 1 (((bs.map byteV).drop a).take n) = byX (bs.drop a) := by
  show AV.sl _ _ _ = AV.sl _ _ _
  rw [← List.map_drop, List.take_of_length_le (by simp; omega)]

/-- an operation that its guard leaves out -/
theorem aText_skip {P : Program} {tab : Tab} {esc : Nat → Bool} {ops : Array Oper} {r : List Oper} {s : St} {K : St → Prop} {o : Oper} (hgd : ∀ A B : Prop, B → aG ops o s.e A B)
    (h : aText P tab esc ops r (s.put o.dst .undef) K) : aText P tab esc ops (o :: r) s K := hgd _ _ h

set_option maxRecDepth 100000 in
theorem tnum_con {b : Nat} {F : AObj → Heap} (hF : Hole b F) (s : Tk) (most : Nat) (Q : AV → Heap → Prop) (hq : Q (.i (tkNum most s).1) (F (tkC (tkNum most s).2))) : Con Tryz.prog 148 [.ptr b 0, .i most] (F (tkC s)) Q := by
  refine con_of_awp (esc := fun _ => false) tab_ok mixed Tryz.func148 rfl (ent Tryz.func148 (by kernel_rfl) rfl) (by kernel_rfl) ?_
  intro hw hn
  have hin := hF.mem (tkC s)
  have hcut := byX_cut (s.rest.take 6) 0
  have hd6 := dec_take6 s.rest
  have hd := dec_le s.rest
  have hd2 := dec_le (s.rest.take 6)
  rw [hd6] at hd2
  have lose : (¬((dec s.rest).2 ≠ 0 ∧ (dec s.rest).1 ≤ most)) → ∀ t : AObj, t = .cells [byX s.rest, .b true, .i s.left] → ∃ r H', Le (.i 0) r ∧ List.Sublist H' (F t) ∧ Q r H' := fun h t ht => by
    unfold tkNum at hq
    rw [if_neg h] at hq
    exact ⟨_, _, Le.refl _, sub_eq (by rw [ht]; rfl), hq⟩
  refine ⟨[0, 1, 2, 3, 4, 5, 6, 7, 8, 9, 10, 11, 12, 13, 14, 15, 16, 17, 18], [(b, tkC s)], by kernel_rfl, pin1 hin, ?_⟩
  refine ⟨_, List.mem_singleton.2 rfl, _, List.mem_singleton.2 rfl, min s.rest.length 6, ?_, ?_, ?_⟩
  · simp only [List.length_map]; omega
  · simp only [List.length_map]; omega
  refine ⟨[byX (s.rest.take 6)], ⟨le_of_eq ?_, trivial⟩, wNum_con _ _ (by simp; omega) _ _ (fun h0 => ?_) (fun h0 => ?_)⟩
  · show AV.sl _ _ _ = AV.sl _ _ _
    rw [List.drop_zero, ← List.map_take, Nat.sub_zero]
    by_cases h : s.rest.length ≤ 6
    · rw [Nat.min_eq_left h, List.take_of_length_le (Nat.le_refl _), List.take_of_length_le h]
    · rw [Nat.min_eq_right (by omega)]
  · intro hz1 hz2; clear hz1 hz2
    rw [hd6] at h0
    refine ⟨pin1 hin, ?_⟩
    refine ⟨_, _, hF (tkC s) _, le23, ?_⟩
    exact lose (fun h => h.1 h0) _ rfl
  · intro hz1 hz2; clear hz1 hz2
    rw [hd6] at h0 ⊢
    refine ⟨pin1 hin, ?_⟩
    refine ifB_dec (fun h1 => ?_) (fun h1 => ?_)
    · refine ⟨_, _, hF (tkC s) _, le23, ?_⟩
      exact lose (fun h => by omega) _ rfl
    · have hk : tkNum most s = ((dec s.rest).1, ⟨s.rest.drop (dec s.rest).2, s.lost, s.left⟩) := by
        unfold tkNum; rw [if_pos ⟨h0, by omega⟩]
      rw [hk] at hq
      have hsub : min (((s.rest.map byteV).length : Nat) : Int) 6 - ((((s.rest.take 6).drop (dec s.rest).2).map byteV).length : Nat) = ((dec s.rest).2 : Nat) := by
        simp only [List.length_map, List.length_drop, List.length_take]; omega
      refine ⟨[0, 1, 2, 3, 4, 5, 6, 7, 8, 9, 10, 11, 12, 13, 14, 15, 16, 17], [(b, tkC s)], by kernel_rfl, pin1 hin, ?_⟩
      refine ⟨_, List.mem_singleton.2 rfl, _, List.mem_singleton.2 rfl, ?_⟩
      refine ⟨by rw [hsub]; exact in64_of (by omega) (by omega), (dec s.rest).2, hsub, by simp only [List.length_map]; omega, ?_⟩
      refine ⟨_, _, hF (tkC s) _, le13, ?_⟩
      refine keepP_t (by kernel_rfl) ?_
      refine ⟨_, _, Le.refl _, sub_eq ?_, hq⟩
      refine congrArg F ?_
      exact congrArg (fun x => AObj.cells [x, .b s.lost, .i s.left]) (byX_cut s.rest (dec s.rest).2 _ (by simp)).symm

set_option maxRecDepth 100000 in
theorem ttext_con {b : Nat} {F : AObj → Heap} (hF : Hole b F) (s : Tk) (Q : AV → Heap → Prop) (hq : Q (.str (tkText s).1) (F (tkC (tkText s).2))) : Con Tryz.prog 149 [.ptr b 0] (F (tkC s)) Q := by
  refine con_of_awp (esc := fun _ => false) tab_ok mixed Tryz.func149 rfl (ent Tryz.func149 (by kernel_rfl) rfl) (by kernel_rfl) ?_
  intro hw hn
  refine ⟨[.ptr b 0, .i (40 : Nat)], LeL.refl _, ?_⟩
  refine tnum_con hF s 40 _ ?_
  intro hz1 hz2; clear hz1 hz2
  have h40 := tkNum_le 40 s
  unfold tkText at hq
  generalize tkNum 40 s = p at *
  obtain ⟨n, r1, q1, l1⟩ := p
  simp only at h40 hq ⊢
  have hin := hF.mem (tkC ⟨r1, q1, l1⟩)
  have lose : q1 = true ∨ r1.length < n → ∀ t : AObj, t = .cells [byX r1, .b true, .i l1] → ∃ r H', Le (.str []) r ∧ List.Sublist H' (F t) ∧ Q r H' := fun h t ht => by
    unfold tkBy at hq
    rw [if_pos h] at hq
    exact ⟨_, _, Le.refl _, sub_eq (by rw [ht]; rfl), hq⟩
  refine ⟨_, hin, ?_⟩
  cases q1 with
  | true =>
    refine ⟨_, _, hF (tkC _) _, le23, ?_⟩
    exact lose (Or.inl rfl) _ rfl
  | false =>
    refine ⟨_, hin, ?_⟩
    refine ifB_dec (fun h1 => ?_) (fun h1 => ?_)
    · simp only [List.length_map] at h1
      refine ⟨_, _, hF (tkC _) _, le23, ?_⟩
      exact lose (Or.inr (by omega)) _ rfl
    · simp only [List.length_map] at h1
      have hk : tkBy n ⟨r1, false, l1⟩ = (r1.take n, ⟨r1.drop n, false, l1⟩) := by
        unfold tkBy; rw [if_neg (by simp; omega)]
      rw [hk] at hq
      refine ⟨_, hin, n, rfl, ⟨Nat.zero_le _, by simp only [List.length_map]; omega⟩, ?_⟩
      refine ⟨r1.take n, ⟨by rw [Nat.sub_zero, List.drop_zero, List.map_take], by rw [List.length_take]; omega⟩, ?_⟩
      refine ⟨_, hin, n, rfl, by simp only [List.length_map]; omega, ?_⟩
      refine ⟨_, _, hF (tkC _) _, le13, ?_⟩
      refine ⟨_, _, Le.refl _, sub_eq (congrArg F ?_), hq⟩
      exact congrArg (fun x => AObj.cells [x, .b false, .i l1]) (byX_cut r1 n _ (by simp)).symm

set_option maxRecDepth 100000 in
theorem tnode_con {b : Nat} {F : AObj → Heap} (hF : Hole b F) (s : Tk) (hok : in64 (s.left - 1)) (Q : AV → Heap → Prop) (hq : Q (.b (!(tkNode s).lost)) (F (tkC (tkNode s)))) : Con Tryz.prog 147 [.ptr b 0] (F (tkC s)) Q := by
  refine con_of_awp (esc := fun _ => false) tab_ok mixed Tryz.func147 rfl (ent Tryz.func147 (by kernel_rfl) rfl) (by kernel_rfl) ?_
  intro hw hn
  obtain ⟨r1, q1, l1⟩ := s
  simp only at hok
  have hin := hF.mem (tkC ⟨r1, q1, l1⟩)
  have hin2 := hF.mem (tkC ⟨r1, q1, l1 - 1⟩)
  refine awp_reg ?_
  refine aText_q (.g (.b false)) (fun _ _ h => h) rfl (fun K h => h) ?_
  refine aText_end ?_
  refine awp_reg ?_
  refine aText_q (.g (.ptr b 0)) (fun _ _ h => h) rfl (fun K h => h) ?_
  refine aText_q (.g (.ptr b 0)) (fun _ _ h => h) rfl (fun K h => h) ?_
  refine aText_q (.g (.ptr b 2)) (fun _ _ h => h) rfl (fun K h => h) ?_
  refine aText_q (.g (.i l1)) (fun _ _ h => h) rfl (fun K h => ⟨_, hin, h⟩) ?_
  refine aText_q (.g (.i (l1 - 1))) (fun _ _ h => h) rfl (fun K h => ⟨hok, h⟩) ?_
  refine aText_q (.g (.ptr b 0)) (fun _ _ h => h) rfl (fun K h => h) ?_
  refine aText_q (.g (.ptr b 2)) (fun _ _ h => h) rfl (fun K h => h) ?_
  refine aText_storeP (H0 := F (tkC ⟨r1, q1, l1⟩)) [(9, .g (.ptr b 2)), (8, .g (.ptr b 0)), (7, .g (.i (l1 - 1))), (6, .g (.i l1)), (5, .g (.ptr b 2)), (4, .g (.ptr b 0)), (3, .g (.ptr b 0)), (2, .g (.b false)), (0, .g (.ptr b 0))] [] [byX r1, .b q1, .i l1] (F (tkC ⟨r1, q1, l1 - 1⟩)) rfl rfl rfl rfl rfl rfl rfl rfl rfl rfl (hF _ _) le33 ?_
  refine aText_end ?_
  refine awp_reg ?_
  refine aText_q (.g (.ptr b 0)) (fun _ _ h => h) rfl (fun K h => h) ?_
  refine aText_q (.g (.ptr b 0)) (fun _ _ h => h) rfl (fun K h => h) ?_
  refine aText_q (.g (.ptr b 0)) (fun _ _ h => h) rfl (fun K h => h) ?_
  refine aText_q (.g (.ptr b 1)) (fun _ _ h => h) rfl (fun K h => h) ?_
  refine aText_q (.g (.b q1)) (fun _ _ h => h) rfl (fun K h => ⟨_, hin2, h⟩) ?_
  refine aText_q (.g (.b q1)) (fun _ _ h => h) rfl (fun K h => h) ?_
  have fin : ∀ q : Bool, q = (q1 || decide (l1 - 1 < 0)) → ∃ r H', Le (.b (!q)) r ∧ List.Sublist H' (F (tkC ⟨r1, q, l1 - 1⟩)) ∧ Q r H' := fun q h => by
    subst h
    exact ⟨_, _, Le.refl _, List.Sublist.refl _, hq⟩
  cases q1 with
  | true =>
    refine aText_skip (fun _ _ h => h) ?_
    refine aText_skip (fun _ _ h => h) ?_
    refine aText_skip (fun _ _ h => h) ?_
    refine aText_skip (fun _ _ h => h) ?_
    refine aText_skip (fun _ _ h => h) ?_
    refine aText_q (.g (.b true)) (fun _ _ h => h) rfl (fun K h => h) ?_
    refine aText_q (.g (.ptr b 0)) (fun _ _ h => h) rfl (fun K h => h) ?_
    refine aText_q (.g (.ptr b 1)) (fun _ _ h => h) rfl (fun K h => h) ?_
    refine aText_storeP (H0 := F (tkC ⟨r1, true, l1 - 1⟩)) _ [] [byX r1, .b true, .i (l1 - 1)] (F (tkC ⟨r1, true, l1 - 1⟩)) rfl rfl rfl rfl rfl rfl rfl rfl rfl rfl (hF _ _) le23 ?_
    have hin3 := hF.mem (tkC ⟨r1, true, l1 - 1⟩)
    refine aText_end ?_
    refine awp_reg ?_
    refine aText_q (.g (.ptr b 0)) (fun _ _ h => h) rfl (fun K h => h) ?_
    refine aText_q (.g (.ptr b 0)) (fun _ _ h => h) rfl (fun K h => h) ?_
    refine aText_q (.g (.ptr b 1)) (fun _ _ h => h) rfl (fun K h => h) ?_
    refine aText_q (.g (.b true)) (fun _ _ h => h) rfl (fun K h => ⟨_, hin3, h⟩) ?_
    refine aText_q (.g (.b (!true))) (fun _ _ h => h) rfl (fun K h => h) ?_
    exact fin true (by simp)
  | false =>
    refine aText_q (.g (.ptr b 0)) (fun _ _ h => h) rfl (fun K h => h) ?_
    refine aText_q (.g (.ptr b 0)) (fun _ _ h => h) rfl (fun K h => h) ?_
    refine aText_q (.g (.ptr b 2)) (fun _ _ h => h) rfl (fun K h => h) ?_
    refine aText_q (.g (.i (l1 - 1))) (fun _ _ h => h) rfl (fun K h => ⟨_, hin2, h⟩) ?_
    refine aText_cmp (l1 - 1 < 0) (fun _ _ h => h) rfl (fun K a b => ifB_dec a b) (fun h1 => ?_) (fun h1 => ?_)
    · refine aText_q (.g (.b true)) (fun _ _ h => h) rfl (fun K h => h) ?_
      refine aText_q (.g (.ptr b 0)) (fun _ _ h => h) rfl (fun K h => h) ?_
      refine aText_q (.g (.ptr b 1)) (fun _ _ h => h) rfl (fun K h => h) ?_
      refine aText_storeP (H0 := F (tkC ⟨r1, false, l1 - 1⟩)) _ [] [byX r1, .b false, .i (l1 - 1)] (F (tkC ⟨r1, true, l1 - 1⟩)) rfl rfl rfl rfl rfl rfl rfl rfl rfl rfl (hF _ _) le23 ?_
      have hin3 := hF.mem (tkC ⟨r1, true, l1 - 1⟩)
      refine aText_end ?_
      refine awp_reg ?_
      refine aText_q (.g (.ptr b 0)) (fun _ _ h => h) rfl (fun K h => h) ?_
      refine aText_q (.g (.ptr b 0)) (fun _ _ h => h) rfl (fun K h => h) ?_
      refine aText_q (.g (.ptr b 1)) (fun _ _ h => h) rfl (fun K h => h) ?_
      refine aText_q (.g (.b true)) (fun _ _ h => h) rfl (fun K h => ⟨_, hin3, h⟩) ?_
      refine aText_q (.g (.b (!true))) (fun _ _ h => h) rfl (fun K h => h) ?_
      exact fin true (by simp [h1])
    · refine aText_q (.g (.b false)) (fun _ _ h => h) rfl (fun K h => h) ?_
      refine aText_q (.g (.ptr b 0)) (fun _ _ h => h) rfl (fun K h => h) ?_
      refine aText_q (.g (.ptr b 1)) (fun _ _ h => h) rfl (fun K h => h) ?_
      refine aText_storeP (H0 := F (tkC ⟨r1, false, l1 - 1⟩)) _ [] [byX r1, .b false, .i (l1 - 1)] (F (tkC ⟨r1, false, l1 - 1⟩)) rfl rfl rfl rfl rfl rfl rfl rfl rfl rfl (hF _ _) le23 ?_
      have hin3 := hF.mem (tkC ⟨r1, false, l1 - 1⟩)
      refine aText_end ?_
      refine awp_reg ?_
      refine aText_q (.g (.ptr b 0)) (fun _ _ h => h) rfl (fun K h => h) ?_
      refine aText_q (.g (.ptr b 0)) (fun _ _ h => h) rfl (fun K h => h) ?_
      refine aText_q (.g (.ptr b 1)) (fun _ _ h => h) rfl (fun K h => h) ?_
      refine aText_q (.g (.b false)) (fun _ _ h => h) rfl (fun K h => ⟨_, hin3, h⟩) ?_
      refine aText_q (.g (.b (!false))) (fun _ _ h => h) rfl (fun K h => h) ?_
      exact fin false (by simp [h1])
end Go.Proofs.YtnjnfegafmhgnaaGreatDoor

/-
  pack's taker: level. No condition.
-/
namespace Go.Proofs.YtnjnfegafmhgnaaGreatDoor
open Go.RowKit

/-- a row that a loop puts together: nothing yet, or one that it may append to -/
def rowS (q : Option Cap) (w : Nat) (xs : List AV) : AV :=
  match q with
  | none => .sl .full 0 []
  | some c => .sl (.own c) w xs
theorem rowS_le {q : Option Cap} {w : Nat} {xs : List AV} (h : q = none → xs = []) : Le (rowS q w xs) (.sl .no w xs) := by
  cases q with
  | none => rw [h rfl]; exact Le.nil _ _
  | some c => exact Le.own _ _ _
theorem bufH_sub (q : Option Cap) (H : Heap) : List.Sublist H (bufH q H) := by
  cases q with
  | none => exact List.Sublist.refl _
  | some c => exact List.sublist_cons_self _ _
theorem Hole.buf {b : Nat} {F : AObj → Heap} (h : Hole b F) (q : Option Cap) : Hole b (fun y => bufH q (F y)) := by
  cases q with
  | none => exact h
  | some c => exact h.under _
theorem rpt_ok {α : Type} {N : Nat} {f : Tk → α × Tk} (h : Stp N f) {s s3 : Tk} (hok : s.ok) (hl : (tkNode s).lost = false) (h3 : s3.left = s.left - 1) (hp : (tkNode s).pot ≤ s3.pot) (j : Nat) (hj : j ≤ 6) : (rpt f j s3).2.ok ∧ (rpt f j s3).2.left ≤ s.left - 1 := by
  have h1 := rpt_pot h j s3
  have h2 := ((tkNode_pot s).2 hl).1
  have h4 := hok.lo
  have h5 := hok.up
  exact ⟨⟨by omega, by omega⟩, by omega⟩
theorem le_lv0 : Le (.agg [.i 0, .i 0, .sl .full 0 []]) (lvX lv0) := Le.agg ⟨Le.refl _, Le.refl _, Le.nil _ _, trivial⟩
theorem wide_at {k : Nat} (h : k ≤ 5) : ([.i 0, .i 0, .i 0, .i 1, .i 2, .i 2] : List AV)[k]? = some (.i (wideOf k)) := by
  match k, h with
  | 0, _ | 1, _ | 2, _ | 3, _ | 4, _ | 5, _ => rfl
  | k + 6, h => omega

set_option maxRecDepth 100000 in
theorem tlevel_lost {b : Nat} {F : AObj → Heap} (hF : Hole b F) (s : Tk) (hok : s.ok) (hl : (tkNode s).lost = true) (Q : AV → Heap → Prop) (hq : Q (lvX lv0) (F (tkC (tkNode s)))) : Con Tryz.prog 100 [.ptr b 0] (F (tkC s)) Q := by
  refine con_of_awp (esc := fun _ => false) tab_ok mixed Tryz.func100 rfl (ent Tryz.func100 (by kernel_rfl) rfl) (by kernel_rfl) ?_
  intro hw hn
  refine ⟨_, LeL.refl _, ?_⟩
  refine tnode_con hF s hok.i64 _ ?_
  intro hz1 hz2; clear hz1 hz2
  rw [hl]
  exact ⟨_, _, le_lv0, List.Sublist.refl _, hq⟩

set_option maxRecDepth 100000 in
theorem tlevel_con {b : Nat} : ∀ (N : Nat) {F : AObj → Heap} (_ : Hole b F) (s : Tk) (_ : s.ok) (_ : s.left ≤ N) (Q : AV → Heap → Prop), Q (lvX (tkLevel N s).1) (F (tkC (tkLevel N s).2)) → Con Tryz.prog 100 [.ptr b 0] (F (tkC s)) Q := by
  intro N
  induction N with
  | zero =>
    intro F hF s hok hN Q hq
    refine tlevel_lost hF s hok ?_ Q hq
    unfold tkNode
    simp; right; omega
  | succ N ih =>
    intro F hF s hok hN Q hq
    simp only [tkLevel] at hq
    cases hl : (tkNode s).lost with
    | true =>
      rw [if_pos hl] at hq
      exact tlevel_lost hF s hok hl Q hq
    | false =>
      rw [if_neg (by rw [hl]; decide)] at hq
      refine con_of_awp (esc := fun _ => false) tab_ok mixed Tryz.func100 rfl (ent Tryz.func100 (by kernel_rfl) rfl) (by kernel_rfl) ?_
      intro hw hn
      refine ⟨_, LeL.refl _, ?_⟩
      refine tnode_con hF s hok.i64 _ ?_
      intro hz1 hz2; clear hz1 hz2
      rw [hl]
      have hrun : ∀ s3 : Tk, s3.left = s.left - 1 → (tkNode s).pot ≤ s3.pot → ∀ j, j ≤ 2 → (rpt (tkLevel N) j s3).2.ok ∧ (rpt (tkLevel N) j s3).2.left ≤ N := fun s3 h3 hp j hj => by
        have := rpt_ok (stp_level N) hok hl h3 hp j (by omega)
        exact ⟨this.1, by omega⟩
      refine ⟨[.ptr b 0, .i (5 : Nat)], LeL.refl _, ?_⟩
      refine tnum_con hF (tkNode s) 5 _ ?_
      intro hz1 hz2; clear hz1 hz2
      have hk5 := tkNum_le 5 (tkNode s)
      have hl2 := tkNum_left 5 (tkNode s)
      have hp2 : (tkNode s).pot ≤ (tkNum 5 (tkNode s)).2.pot := pot_same (tkNum_left _ _) (tkNum_lost _ _)
      rw [tkNode_left] at hl2
      generalize tkNode s = s1 at *
      generalize tkNum 5 s1 = p at *
      obtain ⟨k, s2⟩ := p
      simp only at hq hk5 hl2 hp2 ⊢
      refine ⟨k, rfl, _, wide_at hk5, ?_⟩
      refine ⟨_, LeL.refl _, leaf_con _ _ _ ?_⟩
      intro hz1 hz2; clear hz1 hz2
      have hw2 := wideOf_le k
      by_cases hlf : k = 1 ∨ k = 2
      · have e : decide ((k : Int) = 1 ∨ (k : Int) = 2) = true := by simp; omega
        rw [e]
        have e2 : lvNumT (k, s2) = tkNum 100 s2 := by unfold lvNumT; rw [if_pos hlf]
        rw [e2] at hq
        refine ⟨[.ptr b 0, .i (100 : Nat)], LeL.refl _, ?_⟩
        refine tnum_con hF s2 100 _ ?_
        intro hz1 hz2; clear hz1 hz2
        have hl3 := tkNum_left 100 s2
        have hp3 : s2.pot ≤ (tkNum 100 s2).2.pot := pot_same (tkNum_left _ _) (tkNum_lost _ _)
        generalize tkNum 100 s2 = p3 at *
        obtain ⟨n, s3⟩ := p3
        simp only at hq hl3 hp3 ⊢
        have hrun' := hrun s3 (by omega) (by omega)
        refine ⟨Option Cap × Nat, fun p => ⟨[(0, .g (.ptr b 0)), (2, .lp 2 0), (3, .lp 3 0), (23, .g (.i (wideOf k))), (24, .g (.i p.2))], [(3, [.i k, .i n, rowS p.1 3 ((rpt (tkLevel N) p.2 s3).1.map lvA)]), (2, [.i 0, .i 0, .sl .full 0 []])], bufH p.1 (F (tkC (rpt (tkLevel N) p.2 s3).2))⟩,
          fun p => p.2 ≤ wideOf k ∧ (p.1 = none → p.2 = 0), fun p => wideOf k - p.2, ⟨(none, 0), ⟨Nat.zero_le _, fun _ => rfl⟩, ?_⟩, ?_⟩
        · (constructor <;> repeat' (first | exact trivial | exact ⟨rfl, rfl⟩ | exact ⟨rfl, LeL.refl _⟩ | exact Le.refl _ | exact List.Sublist.refl _ | (show Le (AV.i _) (AV.i _); rw [List.length_map]; exact Le.refl _) | refine And.intro ?_ ?_))
        · rintro ⟨q, j⟩ ⟨hj, hz⟩
          simp only at hj hz
          refine ifB_dec (fun h1 => ?_) (fun h1 => ?_)
          · simp only at h1
            have hlt : j < wideOf k := by omega
            have hr := hrun' j (by omega)
            have hsn : ((rpt (tkLevel N) j s3).1.map lvA ++ [lvX (tkLevel N (rpt (tkLevel N) j s3).2).1]) = (rpt (tkLevel N) (j + 1) s3).1.map lvA := by simp [rpt, lvA_eq]
            have hlen := rpt_len (tkLevel N) j s3
            have hnext : ∀ c' : Cap, Le (.sl (.own c') 3 ((rpt (tkLevel N) j s3).1.map lvA ++ [lvX (tkLevel N (rpt (tkLevel N) j s3).2).1])) (rowS (some c') 3 ((rpt (tkLevel N) (j + 1) s3).1.map lvA)) := fun c' => by rw [hsn]; exact Le.refl _
            refine ⟨[0, 1, 2, 3, 4, 5, 6, 7], [], by kernel_rfl, by simp, ?_⟩
            refine ⟨[.ptr b 0], LeL.refl _, ?_⟩
            refine ih (hF.buf q) (rpt (tkLevel N) j s3).2 hr.1 hr.2 _ ?_
            intro hz1 hz2; clear hz1 hz2
            cases q with
            | none =>
              obtain rfl := hz rfl
              refine ⟨(by show (0 + 1) * (40 + 1) ≤ 140737488355328; decide), fun c hc => ?_⟩
              refine ⟨in64_of (by first | omega | (dsimp only; omega)) (by first | omega | (dsimp only; omega)), ?_⟩
              refine ⟨(some c, 1), ⟨by simp only; omega, nofun⟩, by (try dsimp only); omega, ⟨⟨Le.refl _, ⟨rfl, rfl⟩, ⟨rfl, rfl⟩, Le.refl _, Le.refl _, trivial⟩, ⟨⟨rfl, ⟨Le.refl _, Le.refl _, hnext c, trivial⟩⟩, ⟨rfl, LeL.refl _⟩, trivial⟩, List.Sublist.refl _⟩⟩
            | some c0 =>
              refine ⟨?_, _, Heap.Rem.here, fun c hc => ?_⟩
              · simp only [List.length_map, List.length_cons, List.length_nil, hlen]
                show _ * (40 + 1) ≤ _
                omega
              · refine ⟨in64_of (by first | omega | (dsimp only; omega)) (by first | omega | (dsimp only; omega)), ?_⟩
                refine ⟨(some c, j + 1), ⟨by simp only; omega, nofun⟩, by (try dsimp only); omega, ⟨⟨Le.refl _, ⟨rfl, rfl⟩, ⟨rfl, rfl⟩, Le.refl _, Le.refl _, trivial⟩, ⟨⟨rfl, ⟨Le.refl _, Le.refl _, hnext c, trivial⟩⟩, ⟨rfl, LeL.refl _⟩, trivial⟩, List.Sublist.refl _⟩⟩
          · simp only at h1
            have hj' : j = wideOf k := by omega
            subst hj'
            have hfin : Le (.agg [.i k, .i n, rowS q 3 ((rpt (tkLevel N) (wideOf k) s3).1.map lvA)]) (lvX (.mk k n (rpt (tkLevel N) (wideOf k) s3).1)) := Le.agg ⟨Le.refl _, Le.refl _, rowS_le fun h => by rw [hz h]; rfl, trivial⟩
            exact ⟨_, _, hfin, bufH_sub q _, hq⟩
      · have e : decide ((k : Int) = 1 ∨ (k : Int) = 2) = false := by simp; omega
        rw [e]
        have e2 : lvNumT (k, s2) = (0, s2) := by unfold lvNumT; rw [if_neg hlf]
        rw [e2] at hq
        simp only at hq
        have hrun' := hrun s2 (by omega) (by omega)
        refine ⟨Option Cap × Nat, fun p => ⟨[(0, .g (.ptr b 0)), (2, .lp 2 0), (3, .lp 3 0), (23, .g (.i (wideOf k))), (24, .g (.i p.2))], [(3, [.i k, .i (0 : Nat), rowS p.1 3 ((rpt (tkLevel N) p.2 s2).1.map lvA)]), (2, [.i 0, .i 0, .sl .full 0 []])], bufH p.1 (F (tkC (rpt (tkLevel N) p.2 s2).2))⟩,
          fun p => p.2 ≤ wideOf k ∧ (p.1 = none → p.2 = 0), fun p => wideOf k - p.2, ⟨(none, 0), ⟨Nat.zero_le _, fun _ => rfl⟩, ?_⟩, ?_⟩
        · (constructor <;> repeat' (first | exact trivial | exact ⟨rfl, rfl⟩ | exact ⟨rfl, LeL.refl _⟩ | exact Le.refl _ | exact List.Sublist.refl _ | (show Le (AV.i _) (AV.i _); rw [List.length_map]; exact Le.refl _) | refine And.intro ?_ ?_))
        · rintro ⟨q, j⟩ ⟨hj, hz⟩
          simp only at hj hz
          refine ifB_dec (fun h1 => ?_) (fun h1 => ?_)
          · simp only at h1
            have hlt : j < wideOf k := by omega
            have hr := hrun' j (by omega)
            have hsn : ((rpt (tkLevel N) j s2).1.map lvA ++ [lvX (tkLevel N (rpt (tkLevel N) j s2).2).1]) = (rpt (tkLevel N) (j + 1) s2).1.map lvA := by simp [rpt, lvA_eq]
            have hlen := rpt_len (tkLevel N) j s2
            have hnext : ∀ c' : Cap, Le (.sl (.own c') 3 ((rpt (tkLevel N) j s2).1.map lvA ++ [lvX (tkLevel N (rpt (tkLevel N) j s2).2).1])) (rowS (some c') 3 ((rpt (tkLevel N) (j + 1) s2).1.map lvA)) := fun c' => by rw [hsn]; exact Le.refl _
            refine ⟨[0, 1, 2, 3, 4, 5, 6, 7], [], by kernel_rfl, by simp, ?_⟩
            refine ⟨[.ptr b 0], LeL.refl _, ?_⟩
            refine ih (hF.buf q) (rpt (tkLevel N) j s2).2 hr.1 hr.2 _ ?_
            intro hz1 hz2; clear hz1 hz2
            cases q with
            | none =>
              obtain rfl := hz rfl
              refine ⟨(by show (0 + 1) * (40 + 1) ≤ 140737488355328; decide), fun c hc => ?_⟩
              refine ⟨in64_of (by first | omega | (dsimp only; omega)) (by first | omega | (dsimp only; omega)), ?_⟩
              refine ⟨(some c, 1), ⟨by simp only; omega, nofun⟩, by (try dsimp only); omega, ⟨⟨Le.refl _, ⟨rfl, rfl⟩, ⟨rfl, rfl⟩, Le.refl _, Le.refl _, trivial⟩, ⟨⟨rfl, ⟨Le.refl _, Le.refl _, hnext c, trivial⟩⟩, ⟨rfl, LeL.refl _⟩, trivial⟩, List.Sublist.refl _⟩⟩
            | some c0 =>
              refine ⟨?_, _, Heap.Rem.here, fun c hc => ?_⟩
              · simp only [List.length_map, List.length_cons, List.length_nil, hlen]
                show _ * (40 + 1) ≤ _
                omega
              · refine ⟨in64_of (by first | omega | (dsimp only; omega)) (by first | omega | (dsimp only; omega)), ?_⟩
                refine ⟨(some c, j + 1), ⟨by simp only; omega, nofun⟩, by (try dsimp only); omega, ⟨⟨Le.refl _, ⟨rfl, rfl⟩, ⟨rfl, rfl⟩, Le.refl _, Le.refl _, trivial⟩, ⟨⟨rfl, ⟨Le.refl _, Le.refl _, hnext c, trivial⟩⟩, ⟨rfl, LeL.refl _⟩, trivial⟩, List.Sublist.refl _⟩⟩
          · simp only at h1
            have hj' : j = wideOf k := by omega
            subst hj'
            have hfin : Le (.agg [.i k, .i (0 : Nat), rowS q 3 ((rpt (tkLevel N) (wideOf k) s2).1.map lvA)]) (lvX (.mk k (0 : Nat) (rpt (tkLevel N) (wideOf k) s2).1)) := Le.agg ⟨Le.refl _, Le.refl _, rowS_le fun h => by rw [hz h]; rfl, trivial⟩
            exact ⟨_, _, hfin, bufH_sub q _, hq⟩
end Go.Proofs.YtnjnfegafmhgnaaGreatDoor

/-
  pack's taker: term. No condition.
-/
namespace Go.Proofs.YtnjnfegafmhgnaaGreatDoor
open Go.RowKit

theorem rpt_ok' {α : Type} {N : Nat} {f : Tk → α × Tk} (h : Stp N f) {s s3 : Tk} {c : Nat} (hok : s.ok) (hl : (tkNode s).lost = false) (h3 : s3.left ≤ s.left - 1) (hp : (tkNode s).pot - c ≤ s3.pot) (j : Nat) (hj : j + c ≤ 6) : (rpt f j s3).2.ok ∧ (rpt f j s3).2.left ≤ s.left - 1 := by
  have h1 := rpt_pot h j s3
  have h2 := ((tkNode_pot s).2 hl).1
  have h4 := hok.lo
  have h5 := hok.up
  exact ⟨⟨by omega, by omega⟩, by omega⟩
theorem le_tm0 : Le (.agg [.i 0, .i 0, .str [], .sl .full 0 [], .sl .full 0 []]) (tmX tm0) := Le.agg ⟨Le.refl _, Le.refl _, Le.refl _, Le.nil _ _, Le.nil _ _, trivial⟩
theorem tmwide_at {k : Nat} (h : k ≤ 7) : ([.i 0, .i 0, .i 0, .i 0, .i 2, .i 2, .i 2, .i 3] : List AV)[k]? = some (.i (tmWide k)) := by
  match k, h with
  | 0, _ | 1, _ | 2, _ | 3, _ | 4, _ | 5, _ | 6, _ | 7, _ => rfl
  | k + 8, h => omega

set_option maxRecDepth 100000 in
theorem tterm_lost {b : Nat} {F : AObj → Heap} (hF : Hole b F) (s : Tk) (hok : s.ok) (hl : (tkNode s).lost = true) (Q : AV → Heap → Prop) (hq : Q (tmX tm0) (F (tkC (tkNode s)))) : Con Tryz.prog 102 [.ptr b 0] (F (tkC s)) Q := by
  refine con_of_awp (esc := fun _ => false) tab_ok mixed Tryz.func102 rfl (ent Tryz.func102 (by kernel_rfl) rfl) (by kernel_rfl) ?_
  intro hw hn
  refine ⟨_, LeL.refl _, ?_⟩
  refine tnode_con hF s hok.i64 _ ?_
  intro hz1 hz2; clear hz1 hz2
  rw [hl]
  exact ⟨_, _, le_tm0, List.Sublist.refl _, hq⟩

set_option maxRecDepth 100000 in
set_option maxHeartbeats 1000000 in
theorem tterm_con {b : Nat} : ∀ (N : Nat) {F : AObj → Heap} (_ : Hole b F) (s : Tk) (_ : s.ok) (_ : s.left ≤ N) (Q : AV → Heap → Prop), Q (tmX (tkTerm N s).1) (F (tkC (tkTerm N s).2)) → Con Tryz.prog 102 [.ptr b 0] (F (tkC s)) Q := by
  intro N
  induction N with
  | zero =>
    intro F hF s hok hN Q hq
    refine tterm_lost hF s hok ?_ Q hq
    unfold tkNode
    simp; right; omega
  | succ N ih =>
    intro F hF s hok hN Q hq
    simp only [tkTerm] at hq
    cases hl : (tkNode s).lost with
    | true =>
      rw [if_pos hl] at hq
      exact tterm_lost hF s hok hl Q hq
    | false =>
      rw [if_neg (by rw [hl]; decide)] at hq
      refine con_of_awp (esc := fun _ => false) tab_ok mixed Tryz.func102 rfl (ent Tryz.func102 (by kernel_rfl) rfl) (by kernel_rfl) ?_
      intro hw hn
      refine ⟨_, LeL.refl _, ?_⟩
      refine tnode_con hF s hok.i64 _ ?_
      intro hz1 hz2; clear hz1 hz2
      rw [hl]
      have hrunL : ∀ s3 : Tk, s3.left = s.left - 1 → (tkNode s).pot ≤ s3.pot → ∀ j, j ≤ 4 → (rpt (tkLevel N) j s3).2.ok ∧ (rpt (tkLevel N) j s3).2.left ≤ N := fun s3 h3 hp j hj => by
        have := rpt_ok (stp_level N) hok hl h3 hp j (by omega)
        exact ⟨this.1, by omega⟩
      have hrunT : ∀ s3 : Tk, s3.left = s.left - 1 → (tkNode s).pot ≤ s3.pot → ∀ c i, i + c ≤ 6 → (rpt (tkTerm N) i (rpt (tkLevel N) c s3).2).2.ok ∧ (rpt (tkTerm N) i (rpt (tkLevel N) c s3).2).2.left ≤ N := fun s3 h3 hp c i hj => by
        have h1 := rpt_pot (stp_level N) c s3
        have := rpt_ok' (stp_term N) (c := c) hok hl (s3 := (rpt (tkLevel N) c s3).2) (by omega) (by omega) i (by omega)
        exact ⟨this.1, by omega⟩
      refine ⟨[.ptr b 0, .i (7 : Nat)], LeL.refl _, ?_⟩
      refine tnum_con hF (tkNode s) 7 _ ?_
      intro hz1 hz2; clear hz1 hz2
      have hk7 := tkNum_le 7 (tkNode s)
      have hl2 := tkNum_left 7 (tkNode s)
      have hp2 : (tkNode s).pot ≤ (tkNum 7 (tkNode s)).2.pot := pot_same (tkNum_left _ _) (tkNum_lost _ _)
      rw [tkNode_left] at hl2
      generalize tkNode s = s1 at *
      generalize ep : tkNum 7 s1 = p at *
      obtain ⟨k, s2⟩ := p
      simp only at hk7 hl2 hp2 ⊢
      have hw3 := tmWide_le k
      refine ifB_dec (fun k1 => ?_) (fun k1 => ?_)
      · obtain rfl : k = 1 := by omega
        obtain ⟨c, hc⟩ : ∃ c : Nat, c = 0 := ⟨0, rfl⟩
        obtain ⟨w, hw⟩ : ∃ w, tmWide 1 = w := ⟨_, rfl⟩
        have e2 : tkHd s1 = ⟨1, (tkNum 1099511627776 s2).1, [], c, (tkNum 1099511627776 s2).2⟩ := by rw [hc]; unfold tkHd; rw [ep, if_pos rfl]
        rw [e2] at hq
        simp only [hw] at hq
        refine ⟨[.ptr b 0, .i (1099511627776 : Nat)], LeL.refl _, ?_⟩
        refine tnum_con hF s2 1099511627776 _ ?_
        intro hz1 hz2; clear hz1 hz2
        have hl3 := tkNum_left 1099511627776 s2
        have hp3 : s2.pot ≤ (tkNum 1099511627776 s2).2.pot := pot_same (tkNum_left _ _) (tkNum_lost _ _)
        generalize tkNum 1099511627776 s2 = p3 at *
        obtain ⟨n, s3⟩ := p3
        simp only at hq hl3 hp3 ⊢
        have hL := hrunL s3 (by omega) (by omega)
        have hT := hrunT s3 (by omega) (by omega) c
        refine ⟨Option Cap × Nat, fun p => ⟨[(0, .g (.ptr b 0)), (2, .lp 2 0), (3, .lp 3 0), (28, .g (.i (c : Nat))), (29, .g (.i p.2))], [(3, [.i (1 : Nat), .i n, .str [], rowS p.1 3 ((rpt (tkLevel N) p.2 s3).1.map lvA), .sl .full 0 []]), (2, [.i 0, .i 0, .str [], .sl .full 0 [], .sl .full 0 []])], bufH p.1 (F (tkC (rpt (tkLevel N) p.2 s3).2))⟩,
          fun p => p.2 ≤ c ∧ (p.1 = none → p.2 = 0), fun p => c - p.2, ⟨(none, 0), ⟨Nat.zero_le _, fun _ => rfl⟩, ?_⟩, ?_⟩
        · exact ⟨⟨Le.refl _, ⟨rfl, rfl⟩, ⟨rfl, rfl⟩, le_of_eq (by rw [hc]; rfl), Le.refl _, trivial⟩, ⟨⟨rfl, LeL.refl _⟩, ⟨rfl, LeL.refl _⟩, trivial⟩, List.Sublist.refl _⟩
        · rintro ⟨q, j⟩ ⟨hj, hz⟩
          simp only at hj hz
          refine ifB_dec (fun h1 => ?_) (fun h1 => ?_)
          · simp only at h1
            have hlt : j < c := by omega
            have hr := hL j (by omega)
            have hsn : ((rpt (tkLevel N) j s3).1.map lvA ++ [lvX (tkLevel N (rpt (tkLevel N) j s3).2).1]) = (rpt (tkLevel N) (j + 1) s3).1.map lvA := by simp [rpt, lvA_eq]
            have hlen := rpt_len (tkLevel N) j s3
            have hnext : ∀ c' : Cap, Le (.sl (.own c') 3 ((rpt (tkLevel N) j s3).1.map lvA ++ [lvX (tkLevel N (rpt (tkLevel N) j s3).2).1])) (rowS (some c') 3 ((rpt (tkLevel N) (j + 1) s3).1.map lvA)) := fun c' => by rw [hsn]; exact Le.refl _
            refine ⟨[0, 1, 2, 3, 4, 5, 6, 7], [], by kernel_rfl, by simp, ?_⟩
            refine ⟨[.ptr b 0], LeL.refl _, ?_⟩
            refine tlevel_con N (hF.buf q) (rpt (tkLevel N) j s3).2 hr.1 hr.2 _ ?_
            intro hz1 hz2; clear hz1 hz2
            cases q with
            | none =>
              obtain rfl := hz rfl
              refine ⟨(by show (0 + 1) * (40 + 1) ≤ 140737488355328; decide), fun c hc => ?_⟩
              refine ⟨in64_of (by first | omega | (dsimp only; omega)) (by first | omega | (dsimp only; omega)), ?_⟩
              refine ⟨(some c, 1), ⟨by simp only; omega, nofun⟩, by (try dsimp only); omega, ⟨⟨Le.refl _, ⟨rfl, rfl⟩, ⟨rfl, rfl⟩, Le.refl _, Le.refl _, trivial⟩, ⟨⟨rfl, ⟨Le.refl _, Le.refl _, Le.refl _, hnext c, Le.refl _, trivial⟩⟩, ⟨rfl, LeL.refl _⟩, trivial⟩, List.Sublist.refl _⟩⟩
            | some c0 =>
              refine ⟨?_, _, Heap.Rem.here, fun c hc => ?_⟩
              · simp only [List.length_map, List.length_cons, List.length_nil, hlen]
                show _ * (40 + 1) ≤ _
                omega
              · refine ⟨in64_of (by first | omega | (dsimp only; omega)) (by first | omega | (dsimp only; omega)), ?_⟩
                refine ⟨(some c, j + 1), ⟨by simp only; omega, nofun⟩, by (try dsimp only); omega, ⟨⟨Le.refl _, ⟨rfl, rfl⟩, ⟨rfl, rfl⟩, Le.refl _, Le.refl _, trivial⟩, ⟨⟨rfl, ⟨Le.refl _, Le.refl _, Le.refl _, hnext c, Le.refl _, trivial⟩⟩, ⟨rfl, LeL.refl _⟩, trivial⟩, List.Sublist.refl _⟩⟩
          · simp only at h1
            have hj' : c = j := by omega
            subst hj'
            have hlv : Le (rowS q 3 ((rpt (tkLevel N) c s3).1.map lvA)) (.sl .no 3 ((rpt (tkLevel N) c s3).1.map lvA)) := rowS_le fun h => by rw [hz h]; rfl
            refine ⟨1, rfl, _, tmwide_at hk7, ?_⟩
            refine ⟨Option Cap × Nat, fun p => ⟨[(0, .g (.ptr b 0)), (2, .lp 2 0), (3, .lp 3 0), (43, .g (.i (w))), (44, .g (.i p.2))], [(3, [.i (1 : Nat), .i n, .str [], .sl .no 3 ((rpt (tkLevel N) c s3).1.map lvA), rowS p.1 5 ((rpt (tkTerm N) p.2 (rpt (tkLevel N) c s3).2).1.map tmA)]), (2, [.i 0, .i 0, .str [], .sl .full 0 [], .sl .full 0 []])], bufH p.1 (F (tkC (rpt (tkTerm N) p.2 (rpt (tkLevel N) c s3).2).2))⟩,
              fun p => p.2 ≤ w ∧ (p.1 = none → p.2 = 0), fun p => w - p.2, ⟨(none, 0), ⟨Nat.zero_le _, fun _ => rfl⟩, ?_⟩, ?_⟩
            · exact ⟨⟨Le.refl _, ⟨rfl, rfl⟩, ⟨rfl, rfl⟩, le_of_eq (by show AV.i _ = AV.i _; rw [hw]), Le.refl _, trivial⟩, ⟨⟨rfl, ⟨Le.refl _, Le.refl _, Le.refl _, hlv, Le.refl _, trivial⟩⟩, ⟨rfl, LeL.refl _⟩, trivial⟩, bufH_sub q _⟩
            · rintro ⟨q, j⟩ ⟨hj, hz⟩
              simp only at hj hz
              refine ifB_dec (fun h1 => ?_) (fun h1 => ?_)
              · simp only at h1
                have hlt : j < w := by omega
                have hr := hT j (by omega)
                have hsn : ((rpt (tkTerm N) j (rpt (tkLevel N) c s3).2).1.map tmA ++ [tmX (tkTerm N (rpt (tkTerm N) j (rpt (tkLevel N) c s3).2).2).1]) = (rpt (tkTerm N) (j + 1) (rpt (tkLevel N) c s3).2).1.map tmA := by simp [rpt, tmA_eq]
                have hlen := rpt_len (tkTerm N) j (rpt (tkLevel N) c s3).2
                have hnext : ∀ c' : Cap, Le (.sl (.own c') 5 ((rpt (tkTerm N) j (rpt (tkLevel N) c s3).2).1.map tmA ++ [tmX (tkTerm N (rpt (tkTerm N) j (rpt (tkLevel N) c s3).2).2).1])) (rowS (some c') 5 ((rpt (tkTerm N) (j + 1) (rpt (tkLevel N) c s3).2).1.map tmA)) := fun c' => by rw [hsn]; exact Le.refl _
                refine ⟨[0, 1, 2, 3, 4, 5, 6, 7], [], by kernel_rfl, by simp, ?_⟩
                refine ⟨[.ptr b 0], LeL.refl _, ?_⟩
                refine ih (hF.buf q) (rpt (tkTerm N) j (rpt (tkLevel N) c s3).2).2 hr.1 hr.2 _ ?_
                intro hz1 hz2; clear hz1 hz2
                cases q with
                | none =>
                  obtain rfl := hz rfl
                  refine ⟨(by show (0 + 1) * (80 + 1) ≤ 140737488355328; decide), fun c hc => ?_⟩
                  refine ⟨in64_of (by first | omega | (dsimp only; omega)) (by first | omega | (dsimp only; omega)), ?_⟩
                  refine ⟨(some c, 1), ⟨by simp only; omega, nofun⟩, by (try dsimp only); omega, ⟨⟨Le.refl _, ⟨rfl, rfl⟩, ⟨rfl, rfl⟩, Le.refl _, Le.refl _, trivial⟩, ⟨⟨rfl, ⟨Le.refl _, Le.refl _, Le.refl _, Le.refl _, hnext c, trivial⟩⟩, ⟨rfl, LeL.refl _⟩, trivial⟩, List.Sublist.refl _⟩⟩
                | some c0 =>
                  refine ⟨?_, _, Heap.Rem.here, fun c hc => ?_⟩
                  · simp only [List.length_map, List.length_cons, List.length_nil, hlen]
                    show _ * (80 + 1) ≤ _
                    omega
                  · refine ⟨in64_of (by first | omega | (dsimp only; omega)) (by first | omega | (dsimp only; omega)), ?_⟩
                    refine ⟨(some c, j + 1), ⟨by simp only; omega, nofun⟩, by (try dsimp only); omega, ⟨⟨Le.refl _, ⟨rfl, rfl⟩, ⟨rfl, rfl⟩, Le.refl _, Le.refl _, trivial⟩, ⟨⟨rfl, ⟨Le.refl _, Le.refl _, Le.refl _, Le.refl _, hnext c, trivial⟩⟩, ⟨rfl, LeL.refl _⟩, trivial⟩, List.Sublist.refl _⟩⟩
              · simp only at h1
                have hj' : w = j := by omega
                subst hj'
                have hfin : Le (.agg [.i (1 : Nat), .i n, .str [], .sl .no 3 ((rpt (tkLevel N) c s3).1.map lvA), rowS q 5 ((rpt (tkTerm N) (w) (rpt (tkLevel N) c s3).2).1.map tmA)]) (tmX (.mk (1 : Nat) n [] (rpt (tkLevel N) c s3).1 (rpt (tkTerm N) (w) (rpt (tkLevel N) c s3).2).1)) := Le.agg ⟨Le.refl _, Le.refl _, Le.refl _, Le.refl _, rowS_le fun h => by rw [hz h]; rfl, trivial⟩
                exact ⟨_, _, hfin, bufH_sub q _, hq⟩
      · refine ifB_dec (fun k2 => ?_) (fun k2 => ?_)
        · obtain rfl : k = 2 := by omega
          obtain ⟨c, hc⟩ : ∃ c : Nat, c = 1 := ⟨1, rfl⟩
          have hw0 : tmWide 2 = 0 := rfl
          obtain ⟨w, hw⟩ : ∃ w, tmWide 2 = w := ⟨_, rfl⟩
          have e2 : tkHd s1 = ⟨2, 0, [], c, s2⟩ := by rw [hc]; unfold tkHd; rw [ep, if_neg (show ¬(2 : Nat) = 1 by decide), if_pos rfl]
          rw [e2] at hq
          simp only [hw] at hq
          have hL := hrunL s2 (by omega) (by omega)
          have hT := hrunT s2 (by omega) (by omega) c
          refine ⟨Option Cap × Nat, fun p => ⟨[(0, .g (.ptr b 0)), (2, .lp 2 0), (3, .lp 3 0), (28, .g (.i (c : Nat))), (29, .g (.i p.2))], [(3, [.i (2 : Nat), .i (0 : Nat), .str [], rowS p.1 3 ((rpt (tkLevel N) p.2 s2).1.map lvA), .sl .full 0 []]), (2, [.i 0, .i 0, .str [], .sl .full 0 [], .sl .full 0 []])], bufH p.1 (F (tkC (rpt (tkLevel N) p.2 s2).2))⟩,
            fun p => p.2 ≤ c ∧ (p.1 = none → p.2 = 0), fun p => c - p.2, ⟨(none, 0), ⟨Nat.zero_le _, fun _ => rfl⟩, ?_⟩, ?_⟩
          · exact ⟨⟨Le.refl _, ⟨rfl, rfl⟩, ⟨rfl, rfl⟩, le_of_eq (by rw [hc]; rfl), Le.refl _, trivial⟩, ⟨⟨rfl, LeL.refl _⟩, ⟨rfl, LeL.refl _⟩, trivial⟩, List.Sublist.refl _⟩
          · rintro ⟨q, j⟩ ⟨hj, hz⟩
            simp only at hj hz
            refine ifB_dec (fun h1 => ?_) (fun h1 => ?_)
            · simp only at h1
              have hlt : j < c := by omega
              have hr := hL j (by omega)
              have hsn : ((rpt (tkLevel N) j s2).1.map lvA ++ [lvX (tkLevel N (rpt (tkLevel N) j s2).2).1]) = (rpt (tkLevel N) (j + 1) s2).1.map lvA := by simp [rpt, lvA_eq]
              have hlen := rpt_len (tkLevel N) j s2
              have hnext : ∀ c' : Cap, Le (.sl (.own c') 3 ((rpt (tkLevel N) j s2).1.map lvA ++ [lvX (tkLevel N (rpt (tkLevel N) j s2).2).1])) (rowS (some c') 3 ((rpt (tkLevel N) (j + 1) s2).1.map lvA)) := fun c' => by rw [hsn]; exact Le.refl _
              refine ⟨[0, 1, 2, 3, 4, 5, 6, 7], [], by kernel_rfl, by simp, ?_⟩
              refine ⟨[.ptr b 0], LeL.refl _, ?_⟩
              refine tlevel_con N (hF.buf q) (rpt (tkLevel N) j s2).2 hr.1 hr.2 _ ?_
              intro hz1 hz2; clear hz1 hz2
              cases q with
              | none =>
                obtain rfl := hz rfl
                refine ⟨(by show (0 + 1) * (40 + 1) ≤ 140737488355328; decide), fun c hc => ?_⟩
                refine ⟨in64_of (by first | omega | (dsimp only; omega)) (by first | omega | (dsimp only; omega)), ?_⟩
                refine ⟨(some c, 1), ⟨by simp only; omega, nofun⟩, by (try dsimp only); omega, ⟨⟨Le.refl _, ⟨rfl, rfl⟩, ⟨rfl, rfl⟩, Le.refl _, Le.refl _, trivial⟩, ⟨⟨rfl, ⟨Le.refl _, Le.refl _, Le.refl _, hnext c, Le.refl _, trivial⟩⟩, ⟨rfl, LeL.refl _⟩, trivial⟩, List.Sublist.refl _⟩⟩
              | some c0 =>
                refine ⟨?_, _, Heap.Rem.here, fun c hc => ?_⟩
                · simp only [List.length_map, List.length_cons, List.length_nil, hlen]
                  show _ * (40 + 1) ≤ _
                  omega
                · refine ⟨in64_of (by first | omega | (dsimp only; omega)) (by first | omega | (dsimp only; omega)), ?_⟩
                  refine ⟨(some c, j + 1), ⟨by simp only; omega, nofun⟩, by (try dsimp only); omega, ⟨⟨Le.refl _, ⟨rfl, rfl⟩, ⟨rfl, rfl⟩, Le.refl _, Le.refl _, trivial⟩, ⟨⟨rfl, ⟨Le.refl _, Le.refl _, Le.refl _, hnext c, Le.refl _, trivial⟩⟩, ⟨rfl, LeL.refl _⟩, trivial⟩, List.Sublist.refl _⟩⟩
            · simp only at h1
              have hj' : c = j := by omega
              subst hj'
              have hlv : Le (rowS q 3 ((rpt (tkLevel N) c s2).1.map lvA)) (.sl .no 3 ((rpt (tkLevel N) c s2).1.map lvA)) := rowS_le fun h => by rw [hz h]; rfl
              refine ⟨2, rfl, _, tmwide_at hk7, ?_⟩
              refine ⟨Option Cap × Nat, fun p => ⟨[(0, .g (.ptr b 0)), (2, .lp 2 0), (3, .lp 3 0), (43, .g (.i (w))), (44, .g (.i p.2))], [(3, [.i (2 : Nat), .i (0 : Nat), .str [], .sl .no 3 ((rpt (tkLevel N) c s2).1.map lvA), rowS p.1 5 ((rpt (tkTerm N) p.2 (rpt (tkLevel N) c s2).2).1.map tmA)]), (2, [.i 0, .i 0, .str [], .sl .full 0 [], .sl .full 0 []])], bufH p.1 (F (tkC (rpt (tkTerm N) p.2 (rpt (tkLevel N) c s2).2).2))⟩,
                fun p => p.2 ≤ w ∧ (p.1 = none → p.2 = 0), fun p => w - p.2, ⟨(none, 0), ⟨Nat.zero_le _, fun _ => rfl⟩, ?_⟩, ?_⟩
              · exact ⟨⟨Le.refl _, ⟨rfl, rfl⟩, ⟨rfl, rfl⟩, le_of_eq (by show AV.i _ = AV.i _; rw [hw]), Le.refl _, trivial⟩, ⟨⟨rfl, ⟨Le.refl _, Le.refl _, Le.refl _, hlv, Le.refl _, trivial⟩⟩, ⟨rfl, LeL.refl _⟩, trivial⟩, bufH_sub q _⟩
              · rintro ⟨q, j⟩ ⟨hj, hz⟩
                simp only at hj hz
                refine ifB_dec (fun h1 => ?_) (fun h1 => ?_)
                · simp only at h1
                  have hlt : j < w := by omega
                  have hr := hT j (by omega)
                  have hsn : ((rpt (tkTerm N) j (rpt (tkLevel N) c s2).2).1.map tmA ++ [tmX (tkTerm N (rpt (tkTerm N) j (rpt (tkLevel N) c s2).2).2).1]) = (rpt (tkTerm N) (j + 1) (rpt (tkLevel N) c s2).2).1.map tmA := by simp [rpt, tmA_eq]
                  have hlen := rpt_len (tkTerm N) j (rpt (tkLevel N) c s2).2
                  have hnext : ∀ c' : Cap, Le (.sl (.own c') 5 ((rpt (tkTerm N) j (rpt (tkLevel N) c s2).2).1.map tmA ++ [tmX (tkTerm N (rpt (tkTerm N) j (rpt (tkLevel N) c s2).2).2).1])) (rowS (some c') 5 ((rpt (tkTerm N) (j + 1) (rpt (tkLevel N) c s2).2).1.map tmA)) := fun c' => by rw [hsn]; exact Le.refl _
                  refine ⟨[0, 1, 2, 3, 4, 5, 6, 7], [], by kernel_rfl, by simp, ?_⟩
                  refine ⟨[.ptr b 0], LeL.refl _, ?_⟩
                  refine ih (hF.buf q) (rpt (tkTerm N) j (rpt (tkLevel N) c s2).2).2 hr.1 hr.2 _ ?_
                  intro hz1 hz2; clear hz1 hz2
                  cases q with
                  | none =>
                    obtain rfl := hz rfl
                    refine ⟨(by show (0 + 1) * (80 + 1) ≤ 140737488355328; decide), fun c hc => ?_⟩
                    refine ⟨in64_of (by first | omega | (dsimp only; omega)) (by first | omega | (dsimp only; omega)), ?_⟩
                    refine ⟨(some c, 1), ⟨by simp only; omega, nofun⟩, by (try dsimp only); omega, ⟨⟨Le.refl _, ⟨rfl, rfl⟩, ⟨rfl, rfl⟩, Le.refl _, Le.refl _, trivial⟩, ⟨⟨rfl, ⟨Le.refl _, Le.refl _, Le.refl _, Le.refl _, hnext c, trivial⟩⟩, ⟨rfl, LeL.refl _⟩, trivial⟩, List.Sublist.refl _⟩⟩
                  | some c0 =>
                    refine ⟨?_, _, Heap.Rem.here, fun c hc => ?_⟩
                    · simp only [List.length_map, List.length_cons, List.length_nil, hlen]
                      show _ * (80 + 1) ≤ _
                      omega
                    · refine ⟨in64_of (by first | omega | (dsimp only; omega)) (by first | omega | (dsimp only; omega)), ?_⟩
                      refine ⟨(some c, j + 1), ⟨by simp only; omega, nofun⟩, by (try dsimp only); omega, ⟨⟨Le.refl _, ⟨rfl, rfl⟩, ⟨rfl, rfl⟩, Le.refl _, Le.refl _, trivial⟩, ⟨⟨rfl, ⟨Le.refl _, Le.refl _, Le.refl _, Le.refl _, hnext c, trivial⟩⟩, ⟨rfl, LeL.refl _⟩, trivial⟩, List.Sublist.refl _⟩⟩
                · simp only at h1
                  have hj' : w = j := by omega
                  subst hj'
                  have hfin : Le (.agg [.i (2 : Nat), .i (0 : Nat), .str [], .sl .no 3 ((rpt (tkLevel N) c s2).1.map lvA), rowS q 5 ((rpt (tkTerm N) (w) (rpt (tkLevel N) c s2).2).1.map tmA)]) (tmX (.mk (2 : Nat) (0 : Nat) [] (rpt (tkLevel N) c s2).1 (rpt (tkTerm N) (w) (rpt (tkLevel N) c s2).2).1)) := Le.agg ⟨Le.refl _, Le.refl _, Le.refl _, Le.refl _, rowS_le fun h => by rw [hz h]; rfl, trivial⟩
                  exact ⟨_, _, hfin, bufH_sub q _, hq⟩
        · refine ifB_dec (fun k3 => ?_) (fun k3 => ?_)
          · obtain rfl : k = 3 := by omega
            have hw0 : tmWide 3 = 0 := rfl
            obtain ⟨w, hw⟩ : ∃ w, tmWide 3 = w := ⟨_, rfl⟩
            have e2 : tkHd s1 = ⟨3, 0, (tkText s2).1, (tkNum 4 (tkText s2).2).1, (tkNum 4 (tkText s2).2).2⟩ := by unfold tkHd; rw [ep, if_neg (show ¬(3 : Nat) = 1 by decide), if_neg (show ¬(3 : Nat) = 2 by decide), if_pos rfl]
            rw [e2] at hq
            simp only [hw] at hq
            refine ⟨_, LeL.refl _, ?_⟩
            refine ttext_con hF s2 _ ?_
            intro hz1 hz2; clear hz1 hz2
            have hl3 := tkText_left s2
            have hp3 : s2.pot ≤ (tkText s2).2.pot := pot_same (tkText_left _) (tkText_lost _)
            generalize tkText s2 = p3 at *
            obtain ⟨nm, s3⟩ := p3
            simp only at hq hl3 hp3 ⊢
            refine ⟨[.ptr b 0, .i (4 : Nat)], LeL.refl _, ?_⟩
            refine tnum_con hF s3 4 _ ?_
            intro hz1 hz2; clear hz1 hz2
            have hc4 := tkNum_le 4 s3
            have hl4 := tkNum_left 4 s3
            have hp4 : s3.pot ≤ (tkNum 4 s3).2.pot := pot_same (tkNum_left _ _) (tkNum_lost _ _)
            generalize tkNum 4 s3 = p4 at *
            obtain ⟨c, s4⟩ := p4
            simp only at hq hc4 hl4 hp4 ⊢
            have hL := hrunL s4 (by omega) (by omega)
            have hT := hrunT s4 (by omega) (by omega) c
            refine ⟨Option Cap × Nat, fun p => ⟨[(0, .g (.ptr b 0)), (2, .lp 2 0), (3, .lp 3 0), (28, .g (.i (c : Nat))), (29, .g (.i p.2))], [(3, [.i (3 : Nat), .i (0 : Nat), .str nm, rowS p.1 3 ((rpt (tkLevel N) p.2 s4).1.map lvA), .sl .full 0 []]), (2, [.i 0, .i 0, .str [], .sl .full 0 [], .sl .full 0 []])], bufH p.1 (F (tkC (rpt (tkLevel N) p.2 s4).2))⟩,
              fun p => p.2 ≤ c ∧ (p.1 = none → p.2 = 0), fun p => c - p.2, ⟨(none, 0), ⟨Nat.zero_le _, fun _ => rfl⟩, ?_⟩, ?_⟩
            · exact ⟨⟨Le.refl _, ⟨rfl, rfl⟩, ⟨rfl, rfl⟩, le_of_eq rfl, Le.refl _, trivial⟩, ⟨⟨rfl, LeL.refl _⟩, ⟨rfl, LeL.refl _⟩, trivial⟩, List.Sublist.refl _⟩
            · rintro ⟨q, j⟩ ⟨hj, hz⟩
              simp only at hj hz
              refine ifB_dec (fun h1 => ?_) (fun h1 => ?_)
              · simp only at h1
                have hlt : j < c := by omega
                have hr := hL j (by omega)
                have hsn : ((rpt (tkLevel N) j s4).1.map lvA ++ [lvX (tkLevel N (rpt (tkLevel N) j s4).2).1]) = (rpt (tkLevel N) (j + 1) s4).1.map lvA := by simp [rpt, lvA_eq]
                have hlen := rpt_len (tkLevel N) j s4
                have hnext : ∀ c' : Cap, Le (.sl (.own c') 3 ((rpt (tkLevel N) j s4).1.map lvA ++ [lvX (tkLevel N (rpt (tkLevel N) j s4).2).1])) (rowS (some c') 3 ((rpt (tkLevel N) (j + 1) s4).1.map lvA)) := fun c' => by rw [hsn]; exact Le.refl _
                refine ⟨[0, 1, 2, 3, 4, 5, 6, 7], [], by kernel_rfl, by simp, ?_⟩
                refine ⟨[.ptr b 0], LeL.refl _, ?_⟩
                refine tlevel_con N (hF.buf q) (rpt (tkLevel N) j s4).2 hr.1 hr.2 _ ?_
                intro hz1 hz2; clear hz1 hz2
                cases q with
                | none =>
                  obtain rfl := hz rfl
                  refine ⟨(by show (0 + 1) * (40 + 1) ≤ 140737488355328; decide), fun c hc => ?_⟩
                  refine ⟨in64_of (by first | omega | (dsimp only; omega)) (by first | omega | (dsimp only; omega)), ?_⟩
                  refine ⟨(some c, 1), ⟨by simp only; omega, nofun⟩, by (try dsimp only); omega, ⟨⟨Le.refl _, ⟨rfl, rfl⟩, ⟨rfl, rfl⟩, Le.refl _, Le.refl _, trivial⟩, ⟨⟨rfl, ⟨Le.refl _, Le.refl _, Le.refl _, hnext c, Le.refl _, trivial⟩⟩, ⟨rfl, LeL.refl _⟩, trivial⟩, List.Sublist.refl _⟩⟩
                | some c0 =>
                  refine ⟨?_, _, Heap.Rem.here, fun c hc => ?_⟩
                  · simp only [List.length_map, List.length_cons, List.length_nil, hlen]
                    show _ * (40 + 1) ≤ _
                    omega
                  · refine ⟨in64_of (by first | omega | (dsimp only; omega)) (by first | omega | (dsimp only; omega)), ?_⟩
                    refine ⟨(some c, j + 1), ⟨by simp only; omega, nofun⟩, by (try dsimp only); omega, ⟨⟨Le.refl _, ⟨rfl, rfl⟩, ⟨rfl, rfl⟩, Le.refl _, Le.refl _, trivial⟩, ⟨⟨rfl, ⟨Le.refl _, Le.refl _, Le.refl _, hnext c, Le.refl _, trivial⟩⟩, ⟨rfl, LeL.refl _⟩, trivial⟩, List.Sublist.refl _⟩⟩
              · simp only at h1
                have hj' : c = j := by omega
                subst hj'
                have hlv : Le (rowS q 3 ((rpt (tkLevel N) c s4).1.map lvA)) (.sl .no 3 ((rpt (tkLevel N) c s4).1.map lvA)) := rowS_le fun h => by rw [hz h]; rfl
                refine ⟨3, rfl, _, tmwide_at hk7, ?_⟩
                refine ⟨Option Cap × Nat, fun p => ⟨[(0, .g (.ptr b 0)), (2, .lp 2 0), (3, .lp 3 0), (43, .g (.i (w))), (44, .g (.i p.2))], [(3, [.i (3 : Nat), .i (0 : Nat), .str nm, .sl .no 3 ((rpt (tkLevel N) c s4).1.map lvA), rowS p.1 5 ((rpt (tkTerm N) p.2 (rpt (tkLevel N) c s4).2).1.map tmA)]), (2, [.i 0, .i 0, .str [], .sl .full 0 [], .sl .full 0 []])], bufH p.1 (F (tkC (rpt (tkTerm N) p.2 (rpt (tkLevel N) c s4).2).2))⟩,
                  fun p => p.2 ≤ w ∧ (p.1 = none → p.2 = 0), fun p => w - p.2, ⟨(none, 0), ⟨Nat.zero_le _, fun _ => rfl⟩, ?_⟩, ?_⟩
                · exact ⟨⟨Le.refl _, ⟨rfl, rfl⟩, ⟨rfl, rfl⟩, le_of_eq (by show AV.i _ = AV.i _; rw [hw]), Le.refl _, trivial⟩, ⟨⟨rfl, ⟨Le.refl _, Le.refl _, Le.refl _, hlv, Le.refl _, trivial⟩⟩, ⟨rfl, LeL.refl _⟩, trivial⟩, bufH_sub q _⟩
                · rintro ⟨q, j⟩ ⟨hj, hz⟩
                  simp only at hj hz
                  refine ifB_dec (fun h1 => ?_) (fun h1 => ?_)
                  · simp only at h1
                    have hlt : j < w := by omega
                    have hr := hT j (by omega)
                    have hsn : ((rpt (tkTerm N) j (rpt (tkLevel N) c s4).2).1.map tmA ++ [tmX (tkTerm N (rpt (tkTerm N) j (rpt (tkLevel N) c s4).2).2).1]) = (rpt (tkTerm N) (j + 1) (rpt (tkLevel N) c s4).2).1.map tmA := by simp [rpt, tmA_eq]
                    have hlen := rpt_len (tkTerm N) j (rpt (tkLevel N) c s4).2
                    have hnext : ∀ c' : Cap, Le (.sl (.own c') 5 ((rpt (tkTerm N) j (rpt (tkLevel N) c s4).2).1.map tmA ++ [tmX (tkTerm N (rpt (tkTerm N) j (rpt (tkLevel N) c s4).2).2).1])) (rowS (some c') 5 ((rpt (tkTerm N) (j + 1) (rpt (tkLevel N) c s4).2).1.map tmA)) := fun c' => by rw [hsn]; exact Le.refl _
                    refine ⟨[0, 1, 2, 3, 4, 5, 6, 7], [], by kernel_rfl, by simp, ?_⟩
                    refine ⟨[.ptr b 0], LeL.refl _, ?_⟩
                    refine ih (hF.buf q) (rpt (tkTerm N) j (rpt (tkLevel N) c s4).2).2 hr.1 hr.2 _ ?_
                    intro hz1 hz2; clear hz1 hz2
                    cases q with
                    | none =>
                      obtain rfl := hz rfl
                      refine ⟨(by show (0 + 1) * (80 + 1) ≤ 140737488355328; decide), fun c hc => ?_⟩
                      refine ⟨in64_of (by first | omega | (dsimp only; omega)) (by first | omega | (dsimp only; omega)), ?_⟩
                      refine ⟨(some c, 1), ⟨by simp only; omega, nofun⟩, by (try dsimp only); omega, ⟨⟨Le.refl _, ⟨rfl, rfl⟩, ⟨rfl, rfl⟩, Le.refl _, Le.refl _, trivial⟩, ⟨⟨rfl, ⟨Le.refl _, Le.refl _, Le.refl _, Le.refl _, hnext c, trivial⟩⟩, ⟨rfl, LeL.refl _⟩, trivial⟩, List.Sublist.refl _⟩⟩
                    | some c0 =>
                      refine ⟨?_, _, Heap.Rem.here, fun c hc => ?_⟩
                      · simp only [List.length_map, List.length_cons, List.length_nil, hlen]
                        show _ * (80 + 1) ≤ _
                        omega
                      · refine ⟨in64_of (by first | omega | (dsimp only; omega)) (by first | omega | (dsimp only; omega)), ?_⟩
                        refine ⟨(some c, j + 1), ⟨by simp only; omega, nofun⟩, by (try dsimp only); omega, ⟨⟨Le.refl _, ⟨rfl, rfl⟩, ⟨rfl, rfl⟩, Le.refl _, Le.refl _, trivial⟩, ⟨⟨rfl, ⟨Le.refl _, Le.refl _, Le.refl _, Le.refl _, hnext c, trivial⟩⟩, ⟨rfl, LeL.refl _⟩, trivial⟩, List.Sublist.refl _⟩⟩
                  · simp only at h1
                    have hj' : w = j := by omega
                    subst hj'
                    have hfin : Le (.agg [.i (3 : Nat), .i (0 : Nat), .str nm, .sl .no 3 ((rpt (tkLevel N) c s4).1.map lvA), rowS q 5 ((rpt (tkTerm N) (w) (rpt (tkLevel N) c s4).2).1.map tmA)]) (tmX (.mk (3 : Nat) (0 : Nat) nm (rpt (tkLevel N) c s4).1 (rpt (tkTerm N) (w) (rpt (tkLevel N) c s4).2).1)) := Le.agg ⟨Le.refl _, Le.refl _, Le.refl _, Le.refl _, rowS_le fun h => by rw [hz h]; rfl, trivial⟩
                    exact ⟨_, _, hfin, bufH_sub q _, hq⟩
          · obtain ⟨c, hc⟩ : ∃ c : Nat, c = 0 := ⟨0, rfl⟩
            obtain ⟨w, hw⟩ : ∃ w, tmWide k = w := ⟨_, rfl⟩
            have e2 : tkHd s1 = ⟨k, 0, [], c, s2⟩ := by rw [hc]; unfold tkHd; rw [ep, if_neg (show ¬ k = 1 by omega), if_neg (show ¬ k = 2 by omega), if_neg (show ¬ k = 3 by omega)]
            rw [e2] at hq
            simp only [hw] at hq
            have hL := hrunL s2 (by omega) (by omega)
            have hT := hrunT s2 (by omega) (by omega) c
            refine ⟨Option Cap × Nat, fun p => ⟨[(0, .g (.ptr b 0)), (2, .lp 2 0), (3, .lp 3 0), (28, .g (.i (c : Nat))), (29, .g (.i p.2))], [(3, [.i (k : Nat), .i (0 : Nat), .str [], rowS p.1 3 ((rpt (tkLevel N) p.2 s2).1.map lvA), .sl .full 0 []]), (2, [.i 0, .i 0, .str [], .sl .full 0 [], .sl .full 0 []])], bufH p.1 (F (tkC (rpt (tkLevel N) p.2 s2).2))⟩,
              fun p => p.2 ≤ c ∧ (p.1 = none → p.2 = 0), fun p => c - p.2, ⟨(none, 0), ⟨Nat.zero_le _, fun _ => rfl⟩, ?_⟩, ?_⟩
            · exact ⟨⟨Le.refl _, ⟨rfl, rfl⟩, ⟨rfl, rfl⟩, le_of_eq (by rw [hc]; rfl), Le.refl _, trivial⟩, ⟨⟨rfl, LeL.refl _⟩, ⟨rfl, LeL.refl _⟩, trivial⟩, List.Sublist.refl _⟩
            · rintro ⟨q, j⟩ ⟨hj, hz⟩
              simp only at hj hz
              refine ifB_dec (fun h1 => ?_) (fun h1 => ?_)
              · simp only at h1
                have hlt : j < c := by omega
                have hr := hL j (by omega)
                have hsn : ((rpt (tkLevel N) j s2).1.map lvA ++ [lvX (tkLevel N (rpt (tkLevel N) j s2).2).1]) = (rpt (tkLevel N) (j + 1) s2).1.map lvA := by simp [rpt, lvA_eq]
                have hlen := rpt_len (tkLevel N) j s2
                have hnext : ∀ c' : Cap, Le (.sl (.own c') 3 ((rpt (tkLevel N) j s2).1.map lvA ++ [lvX (tkLevel N (rpt (tkLevel N) j s2).2).1])) (rowS (some c') 3 ((rpt (tkLevel N) (j + 1) s2).1.map lvA)) := fun c' => by rw [hsn]; exact Le.refl _
                refine ⟨[0, 1, 2, 3, 4, 5, 6, 7], [], by kernel_rfl, by simp, ?_⟩
                refine ⟨[.ptr b 0], LeL.refl _, ?_⟩
                refine tlevel_con N (hF.buf q) (rpt (tkLevel N) j s2).2 hr.1 hr.2 _ ?_
                intro hz1 hz2; clear hz1 hz2
                cases q with
                | none =>
                  obtain rfl := hz rfl
                  refine ⟨(by show (0 + 1) * (40 + 1) ≤ 140737488355328; decide), fun c hc => ?_⟩
                  refine ⟨in64_of (by first | omega | (dsimp only; omega)) (by first | omega | (dsimp only; omega)), ?_⟩
                  refine ⟨(some c, 1), ⟨by simp only; omega, nofun⟩, by (try dsimp only); omega, ⟨⟨Le.refl _, ⟨rfl, rfl⟩, ⟨rfl, rfl⟩, Le.refl _, Le.refl _, trivial⟩, ⟨⟨rfl, ⟨Le.refl _, Le.refl _, Le.refl _, hnext c, Le.refl _, trivial⟩⟩, ⟨rfl, LeL.refl _⟩, trivial⟩, List.Sublist.refl _⟩⟩
                | some c0 =>
                  refine ⟨?_, _, Heap.Rem.here, fun c hc => ?_⟩
                  · simp only [List.length_map, List.length_cons, List.length_nil, hlen]
                    show _ * (40 + 1) ≤ _
                    omega
                  · refine ⟨in64_of (by first | omega | (dsimp only; omega)) (by first | omega | (dsimp only; omega)), ?_⟩
                    refine ⟨(some c, j + 1), ⟨by simp only; omega, nofun⟩, by (try dsimp only); omega, ⟨⟨Le.refl _, ⟨rfl, rfl⟩, ⟨rfl, rfl⟩, Le.refl _, Le.refl _, trivial⟩, ⟨⟨rfl, ⟨Le.refl _, Le.refl _, Le.refl _, hnext c, Le.refl _, trivial⟩⟩, ⟨rfl, LeL.refl _⟩, trivial⟩, List.Sublist.refl _⟩⟩
              · simp only at h1
                have hj' : c = j := by omega
                subst hj'
                have hlv : Le (rowS q 3 ((rpt (tkLevel N) c s2).1.map lvA)) (.sl .no 3 ((rpt (tkLevel N) c s2).1.map lvA)) := rowS_le fun h => by rw [hz h]; rfl
                refine ⟨k, rfl, _, tmwide_at hk7, ?_⟩
                refine ⟨Option Cap × Nat, fun p => ⟨[(0, .g (.ptr b 0)), (2, .lp 2 0), (3, .lp 3 0), (43, .g (.i (w))), (44, .g (.i p.2))], [(3, [.i (k : Nat), .i (0 : Nat), .str [], .sl .no 3 ((rpt (tkLevel N) c s2).1.map lvA), rowS p.1 5 ((rpt (tkTerm N) p.2 (rpt (tkLevel N) c s2).2).1.map tmA)]), (2, [.i 0, .i 0, .str [], .sl .full 0 [], .sl .full 0 []])], bufH p.1 (F (tkC (rpt (tkTerm N) p.2 (rpt (tkLevel N) c s2).2).2))⟩,
                  fun p => p.2 ≤ w ∧ (p.1 = none → p.2 = 0), fun p => w - p.2, ⟨(none, 0), ⟨Nat.zero_le _, fun _ => rfl⟩, ?_⟩, ?_⟩
                · exact ⟨⟨Le.refl _, ⟨rfl, rfl⟩, ⟨rfl, rfl⟩, le_of_eq (by show AV.i _ = AV.i _; rw [hw]), Le.refl _, trivial⟩, ⟨⟨rfl, ⟨Le.refl _, Le.refl _, Le.refl _, hlv, Le.refl _, trivial⟩⟩, ⟨rfl, LeL.refl _⟩, trivial⟩, bufH_sub q _⟩
                · rintro ⟨q, j⟩ ⟨hj, hz⟩
                  simp only at hj hz
                  refine ifB_dec (fun h1 => ?_) (fun h1 => ?_)
                  · simp only at h1
                    have hlt : j < w := by omega
                    have hr := hT j (by omega)
                    have hsn : ((rpt (tkTerm N) j (rpt (tkLevel N) c s2).2).1.map tmA ++ [tmX (tkTerm N (rpt (tkTerm N) j (rpt (tkLevel N) c s2).2).2).1]) = (rpt (tkTerm N) (j + 1) (rpt (tkLevel N) c s2).2).1.map tmA := by simp [rpt, tmA_eq]
                    have hlen := rpt_len (tkTerm N) j (rpt (tkLevel N) c s2).2
                    have hnext : ∀ c' : Cap, Le (.sl (.own c') 5 ((rpt (tkTerm N) j (rpt (tkLevel N) c s2).2).1.map tmA ++ [tmX (tkTerm N (rpt (tkTerm N) j (rpt (tkLevel N) c s2).2).2).1])) (rowS (some c') 5 ((rpt (tkTerm N) (j + 1) (rpt (tkLevel N) c s2).2).1.map tmA)) := fun c' => by rw [hsn]; exact Le.refl _
                    refine ⟨[0, 1, 2, 3, 4, 5, 6, 7], [], by kernel_rfl, by simp, ?_⟩
                    refine ⟨[.ptr b 0], LeL.refl _, ?_⟩
                    refine ih (hF.buf q) (rpt (tkTerm N) j (rpt (tkLevel N) c s2).2).2 hr.1 hr.2 _ ?_
                    intro hz1 hz2; clear hz1 hz2
                    cases q with
                    | none =>
                      obtain rfl := hz rfl
                      refine ⟨(by show (0 + 1) * (80 + 1) ≤ 140737488355328; decide), fun c hc => ?_⟩
                      refine ⟨in64_of (by first | omega | (dsimp only; omega)) (by first | omega | (dsimp only; omega)), ?_⟩
                      refine ⟨(some c, 1), ⟨by simp only; omega, nofun⟩, by (try dsimp only); omega, ⟨⟨Le.refl _, ⟨rfl, rfl⟩, ⟨rfl, rfl⟩, Le.refl _, Le.refl _, trivial⟩, ⟨⟨rfl, ⟨Le.refl _, Le.refl _, Le.refl _, Le.refl _, hnext c, trivial⟩⟩, ⟨rfl, LeL.refl _⟩, trivial⟩, List.Sublist.refl _⟩⟩
                    | some c0 =>
                      refine ⟨?_, _, Heap.Rem.here, fun c hc => ?_⟩
                      · simp only [List.length_map, List.length_cons, List.length_nil, hlen]
                        show _ * (80 + 1) ≤ _
                        omega
                      · refine ⟨in64_of (by first | omega | (dsimp only; omega)) (by first | omega | (dsimp only; omega)), ?_⟩
                        refine ⟨(some c, j + 1), ⟨by simp only; omega, nofun⟩, by (try dsimp only); omega, ⟨⟨Le.refl _, ⟨rfl, rfl⟩, ⟨rfl, rfl⟩, Le.refl _, Le.refl _, trivial⟩, ⟨⟨rfl, ⟨Le.refl _, Le.refl _, Le.refl _, Le.refl _, hnext c, trivial⟩⟩, ⟨rfl, LeL.refl _⟩, trivial⟩, List.Sublist.refl _⟩⟩
                  · simp only at h1
                    have hj' : w = j := by omega
                    subst hj'
                    have hfin : Le (.agg [.i (k : Nat), .i (0 : Nat), .str [], .sl .no 3 ((rpt (tkLevel N) c s2).1.map lvA), rowS q 5 ((rpt (tkTerm N) (w) (rpt (tkLevel N) c s2).2).1.map tmA)]) (tmX (.mk (k : Nat) (0 : Nat) [] (rpt (tkLevel N) c s2).1 (rpt (tkTerm N) (w) (rpt (tkLevel N) c s2).2).1)) := Le.agg ⟨Le.refl _, Le.refl _, Le.refl _, Le.refl _, rowS_le fun h => by rw [hz h]; rfl, trivial⟩
                    exact ⟨_, _, hfin, bufH_sub q _, hq⟩
end Go.Proofs.YtnjnfegafmhgnaaGreatDoor

/-
  pack's taker: whole, decl; taking, TakeLevel, TakeTerm, TakeDecl. No condition.
-/
namespace Go.Proofs.YtnjnfegafmhgnaaGreatDoor
open Go.RowKit

set_option maxRecDepth 100000 in
theorem twhole_con {b : Nat} {F : AObj → Heap} (hF : Hole b F) (s : Tk) (Q : AV → Heap → Prop) (hq : Q (tmX (tkWhole s).1) (F (tkC (tkWhole s).2))) : Con Tryz.prog 150 [.ptr b 0] (F (tkC s)) Q := by
  refine con_of_awp (esc := fun _ => false) tab_ok mixed Tryz.func150 rfl (ent Tryz.func150 (by kernel_rfl) rfl) (by kernel_rfl) ?_
  intro hw hn
  refine ⟨_, _, hF (tkC s) (tkC ⟨s.rest, s.lost, 2000⟩), le33, ?_⟩
  refine ⟨[.ptr b 0], LeL.refl _, ?_⟩
  refine tterm_con 2000 hF ⟨s.rest, s.lost, 2000⟩ (ok_begin _ _) (Int.le_refl _) _ ?_
  intro hz1 hz2; clear hz1 hz2
  exact ⟨_, _, Le.refl _, List.Sublist.refl _, hq⟩

set_option maxRecDepth 100000 in
theorem taking_con (_ : Own) (bs : List UInt8) (H : Heap) (Q : AV → Heap → Prop) (hq : ∀ b, b ∉ H.keys → Q (.ptr b 0) ((b, tkC ⟨bs, false, 2000⟩) :: H)) : Con Tryz.prog 99 [byX bs] H Q := by
  refine con_of_awp (esc := ([5].contains ·)) tab_ok mixed Tryz.func99 rfl (ent Tryz.func99 (by kernel_rfl) rfl) (by kernel_rfl) ?_
  intro hw hn b hb
  exact ⟨_, _, Le.refl _, List.Sublist.refl _, hq b hb⟩

/-! what is left gets no longer -/
def Shr {α : Type} (f : Tk → α × Tk) : Prop := ∀ s : Tk, (f s).2.rest.length ≤ s.rest.length
theorem shr_rpt {α : Type} {f : Tk → α × Tk} (h : Shr f) (n : Nat) : Shr (rpt f n) := fun s => by
  induction n with
  | zero => exact Nat.le_refl _
  | succ n ih => exact Nat.le_trans (h _) ih
theorem shr_by (n : Nat) : Shr (tkBy n) := fun s => by unfold tkBy Tk.lose; split <;> simp
theorem shr_num (n : Nat) : Shr (tkNum n) := rest_num n
theorem shr_text : Shr tkText := fun _ => Nat.le_trans (shr_by _ _) (shr_num _ _)
theorem shr_level : ∀ N : Nat, Shr (tkLevel N)
  | 0 => fun s => Nat.le_refl _
  | N + 1 => fun s => by
    simp only [tkLevel]
    split
    · exact Nat.le_refl _
    · refine Nat.le_trans (shr_rpt (shr_level N) _ _) ?_
      have h : (tkNum 5 (tkNode s)).2.rest.length ≤ s.rest.length := shr_num 5 (tkNode s)
      generalize tkNum 5 (tkNode s) = p at *
      unfold lvNumT
      split
      · exact Nat.le_trans (shr_num _ _) h
      · exact h
theorem shr_hd (s : Tk) : (tkHd s).s.rest.length ≤ s.rest.length := by
  have h := shr_num 7 s
  unfold tkHd
  generalize tkNum 7 s = r at *
  by_cases h1 : r.1 = 1
  · rw [if_pos h1]; exact Nat.le_trans (shr_num 1099511627776 r.2) h
  · rw [if_neg h1]
    by_cases h2 : r.1 = 2
    · rw [if_pos h2]; exact h
    · rw [if_neg h2]
      by_cases h3 : r.1 = 3
      · rw [if_pos h3]; exact Nat.le_trans (shr_num 4 (tkText r.2).2) (Nat.le_trans (shr_text r.2) h)
      · rw [if_neg h3]; exact h
theorem shr_term : ∀ N : Nat, Shr (tkTerm N)
  | 0 => fun s => Nat.le_refl _
  | N + 1 => fun s => by
    simp only [tkTerm]
    split
    · exact Nat.le_refl _
    · exact Nat.le_trans (shr_rpt (shr_term N) _ _) (Nat.le_trans (shr_rpt (shr_level N) _ _) (shr_hd (tkNode s)))
theorem shr_whole : Shr tkWhole := fun s => shr_term 2000 ⟨s.rest, s.lost, 2000⟩
theorem shr_ctor : Shr tkCtor := fun s => Nat.le_trans (shr_whole _) (shr_text s)
theorem shr_val (k : Nat) (s : Tk) : (tkVal k s).s.rest.length ≤ s.rest.length := by
  unfold tkVal
  by_cases h1 : 2 ≤ k ∧ k ≤ 4
  · rw [if_pos h1]; exact shr_whole s
  · rw [if_neg h1]
    by_cases h2 : k = 5
    · rw [if_pos h2]; exact Nat.le_trans (shr_rpt shr_ctor _ _) (Nat.le_trans (shr_num 8 (tkNum 16 s).2) (shr_num 16 s))
    · rw [if_neg h2]; exact Nat.le_refl _
theorem shr_decl : Shr tkDecl := fun s =>
  Nat.le_trans (shr_val _ _) (Nat.le_trans (shr_whole _) (Nat.le_trans (shr_num 4 _) (Nat.le_trans (shr_text _) (shr_num 5 s))))

set_option maxRecDepth 100000 in
set_option maxHeartbeats 1000000 in
theorem takeLevel_con (o : Own) (bs : List UInt8) (hl : bs.length ≤ 1099511627776) (H : Heap) (Q : AV → Heap → Prop) (hno : ((tkLevel 2000 ⟨bs, false, 2000⟩).2.lost || !lvRight 4 (tkLevel 2000 ⟨bs, false, 2000⟩).1) = true → Q (.tup [lvX lv0, .sl .full 0 [], .b false]) H)
    (hyes : (tkLevel 2000 ⟨bs, false, 2000⟩).2.lost = false → lvRight 4 (tkLevel 2000 ⟨bs, false, 2000⟩).1 = true → Q (.tup [lvX (tkLevel 2000 ⟨bs, false, 2000⟩).1, byX (tkLevel 2000 ⟨bs, false, 2000⟩).2.rest, .b true]) H) :
    Con Tryz.prog 44 [.sl o 1 (bs.map byteV)] H Q := by
  refine con_of_awp (esc := fun _ => false) tab_ok mixed Tryz.func44 rfl (ent Tryz.func44 (by kernel_rfl) rfl) (by kernel_rfl) ?_
  intro hw hn
  refine ⟨[byX bs], ⟨Le.own _ _ _, trivial⟩, ?_⟩
  refine taking_con o bs H _ fun b hb => ?_
  intro hz1 hz2; clear hz1 hz2
  have hF := Hole.top b H
  refine ⟨[.ptr b 0], LeL.refl _, ?_⟩
  refine tlevel_con 2000 hF ⟨bs, false, 2000⟩ (ok_begin _ _) (Int.le_refl _) _ ?_
  intro hz1 hz2; clear hz1 hz2
  have hshr : (tkLevel 2000 ⟨bs, false, 2000⟩).2.rest.length ≤ bs.length := shr_level 2000 ⟨bs, false, 2000⟩
  generalize (tkLevel 2000 ⟨bs, false, 2000⟩) = p at *
  obtain ⟨l, r1, q1, l1⟩ := p
  simp only at hshr hno hyes
  have hin := hF.mem (tkC ⟨r1, q1, l1⟩)
  have hz : Le (.tup [.agg [.i 0, .i 0, .sl .full 0 []], .sl .full 0 [], .b false]) (.tup [lvX lv0, .sl .full 0 [], .b false]) := Le.tup ⟨le_lv0, Le.refl _, Le.refl _, trivial⟩
  refine ⟨_, hin, ?_⟩
  cases q1 with
  | true => exact ⟨_, H, hz, List.sublist_cons_self _ _, hno rfl⟩
  | false =>
    refine ⟨_, LeL.refl _, lvRight_con _ _ _ _ ?_⟩
    intro hz1 hz2; clear hz1 hz2
    cases hg : lvRight 4 l with
    | false => exact ⟨_, H, hz, List.sublist_cons_self _ _, hno (by simp [hg])⟩
    | true =>
      refine ⟨[0, 1, 2, 3, 4, 5, 6, 7, 8], [(b, tkC ⟨r1, false, l1⟩)], by kernel_rfl, pin1 hin, ?_⟩
      refine ⟨_, List.mem_singleton.2 rfl, ?_⟩
      refine ⟨_, LeL.refl _, Clone_con _ _ (show r1.length ≤ _ by omega) _ _ ?_⟩
      intro hz1 hz2; clear hz1 hz2
      refine ⟨pin1 hin, ?_⟩
      exact ⟨_, H, Le.refl _, List.sublist_cons_self _ _, hyes rfl hg⟩
set_option maxRecDepth 100000 in
set_option maxHeartbeats 1000000 in
theorem takeTerm_con (o : Own) (bs : List UInt8) (hl : bs.length ≤ 1099511627776) (H : Heap) (Q : AV → Heap → Prop) (hno : ((tkTerm 2000 ⟨bs, false, 2000⟩).2.lost || !packOk (tkTerm 2000 ⟨bs, false, 2000⟩).1) = true → Q (.tup [tmX tm0, .sl .full 0 [], .b false]) H)
    (hyes : (tkTerm 2000 ⟨bs, false, 2000⟩).2.lost = false → packOk (tkTerm 2000 ⟨bs, false, 2000⟩).1 = true → Q (.tup [tmX (tkTerm 2000 ⟨bs, false, 2000⟩).1, byX (tkTerm 2000 ⟨bs, false, 2000⟩).2.rest, .b true]) H) :
    Con Tryz.prog 45 [.sl o 1 (bs.map byteV)] H Q := by
  refine con_of_awp (esc := fun _ => false) tab_ok mixed Tryz.func45 rfl (ent Tryz.func45 (by kernel_rfl) rfl) (by kernel_rfl) ?_
  intro hw hn
  refine ⟨[byX bs], ⟨Le.own _ _ _, trivial⟩, ?_⟩
  refine taking_con o bs H _ fun b hb => ?_
  intro hz1 hz2; clear hz1 hz2
  have hF := Hole.top b H
  refine ⟨[.ptr b 0], LeL.refl _, ?_⟩
  refine tterm_con 2000 hF ⟨bs, false, 2000⟩ (ok_begin _ _) (Int.le_refl _) _ ?_
  intro hz1 hz2; clear hz1 hz2
  have hshr : (tkTerm 2000 ⟨bs, false, 2000⟩).2.rest.length ≤ bs.length := shr_term 2000 ⟨bs, false, 2000⟩
  generalize (tkTerm 2000 ⟨bs, false, 2000⟩) = p at *
  obtain ⟨l, r1, q1, l1⟩ := p
  simp only at hshr hno hyes
  have hin := hF.mem (tkC ⟨r1, q1, l1⟩)
  have hz : Le (.tup [.agg [.i 0, .i 0, .str [], .sl .full 0 [], .sl .full 0 []], .sl .full 0 [], .b false]) (.tup [tmX tm0, .sl .full 0 [], .b false]) := Le.tup ⟨le_tm0, Le.refl _, Le.refl _, trivial⟩
  refine ⟨_, hin, ?_⟩
  cases q1 with
  | true => exact ⟨_, H, hz, List.sublist_cons_self _ _, hno rfl⟩
  | false =>
    refine ⟨_, LeL.refl _, packRight_con _ _ _ ?_⟩
    intro hz1 hz2; clear hz1 hz2
    cases hg : packOk l with
    | false => exact ⟨_, H, hz, List.sublist_cons_self _ _, hno (by simp [hg])⟩
    | true =>
      refine ⟨[0, 1, 2, 3, 4, 5, 6, 7, 8], [(b, tkC ⟨r1, false, l1⟩)], by kernel_rfl, pin1 hin, ?_⟩
      refine ⟨_, List.mem_singleton.2 rfl, ?_⟩
      refine ⟨_, LeL.refl _, Clone_con _ _ (show r1.length ≤ _ by omega) _ _ ?_⟩
      intro hz1 hz2; clear hz1 hz2
      refine ⟨pin1 hin, ?_⟩
      exact ⟨_, H, Le.refl _, List.sublist_cons_self _ _, hyes rfl hg⟩

theorem leL_of_eq {xs ys : List AV} (h : xs = ys) : LeL xs ys := by rw [h]; exact LeL.refl _
set_option maxRecDepth 100000 in
theorem tnum_at {b : Nat} {F : AObj → Heap} (hF : Hole b F) (s : Tk) (most : Nat) {n : Nat} {s' : Tk} (e : tkNum most s = (n, s')) (Q : AV → Heap → Prop) (hq : Q (.i n) (F (tkC s'))) : Con Tryz.prog 148 [.ptr b 0, .i most] (F (tkC s)) Q := tnum_con hF s most Q (by rw [e]; exact hq)
set_option maxRecDepth 100000 in
theorem ttext_at {b : Nat} {F : AObj → Heap} (hF : Hole b F) (s : Tk) {n : List UInt8} {s' : Tk} (e : tkText s = (n, s')) (Q : AV → Heap → Prop) (hq : Q (.str n) (F (tkC s'))) : Con Tryz.prog 149 [.ptr b 0] (F (tkC s)) Q := ttext_con hF s Q (by rw [e]; exact hq)
set_option maxRecDepth 100000 in
theorem twhole_at {b : Nat} {F : AObj → Heap} (hF : Hole b F) (s : Tk) {n : Tm} {s' : Tk} (e : tkWhole s = (n, s')) (Q : AV → Heap → Prop) (hq : Q (tmX n) (F (tkC s'))) : Con Tryz.prog 150 [.ptr b 0] (F (tkC s)) Q := twhole_con hF s Q (by rw [e]; exact hq)
/-- the state written out -/
theorem aText_at {P : Program} {tab : Tab} {esc : Nat → Bool} {ops : Array Oper} {r : List Oper} {s : St} {K : St → Prop} (s' : St) (h : s = s') (k : aText P tab esc ops r s' K) : aText P tab esc ops r s K := by rw [h]; exact k
theorem awp_at {P : Program} {tab : Tab} {esc : Nat → Bool} {N : Nat} {c : Code} {Q : Exit → St → Prop} {s : St} (s' : St) (h : s = s') (k : awp P tab esc N c Q s') : awp P tab esc N c Q s := by rw [h]; exact k
def dc0 : Dc := ⟨0, 0, [], tm0, tm0, 0, []⟩
theorem le_dc0 : Le (.agg [.i 0, .i 0, .str [], .i 0, .i 0, .str [], .sl .full 0 [], .sl .full 0 [], .i 0, .i 0, .str [], .sl .full 0 [], .sl .full 0 [], .i 0, .sl .full 0 []]) (dcX dc0) :=
  Le.agg ⟨Le.refl _, Le.refl _, Le.refl _, Le.refl _, Le.refl _, Le.refl _, Le.nil _ _, Le.nil _ _, Le.refl _, Le.refl _, Le.refl _, Le.nil _ _, Le.nil _ _, Le.refl _, Le.nil _ _, trivial⟩

set_option maxRecDepth 100000 in
set_option maxHeartbeats 1000000 in
theorem tdecl_con {b : Nat} {F : AObj → Heap} (hF : Hole b F) (s : Tk) (Q : AV → Heap → Prop) (hq : Q (dcX (tkDecl s).1) (F (tkC (tkDecl s).2))) : Con Tryz.prog 103 [.ptr b 0] (F (tkC s)) Q := by
  refine con_of_awp (esc := fun _ => false) tab_ok mixed Tryz.func103 rfl (ent Tryz.func103 (by kernel_rfl) rfl) (by kernel_rfl) ?_
  intro hw hn
  unfold tkDecl at hq
  simp only at hq
  refine ⟨[.ptr b 0, .i (5 : Nat)], LeL.refl _, ?_⟩
  have hk5 := tkNum_le 5 s
  obtain ⟨k, s1, e1⟩ : ∃ k s1, tkNum 5 s = (k, s1) := ⟨_, _, rfl⟩
  obtain ⟨nm, s2, e2⟩ : ∃ nm s2, tkText s1 = (nm, s2) := ⟨_, _, rfl⟩
  obtain ⟨pr, s3, e3⟩ : ∃ pr s3, tkNum 4 s2 = (pr, s3) := ⟨_, _, rfl⟩
  obtain ⟨ty, s4, e4⟩ : ∃ ty s4, tkWhole s3 = (ty, s4) := ⟨_, _, rfl⟩
  rw [e1] at hk5
  simp only [e1, e2, e3, e4] at hq hk5
  refine tnum_at hF s 5 e1 _ ?_
  intro hz1 hz2; clear hz1 hz2
  refine aText_at ⟨[(6, .g (.i k)), (5, .g (.ptr b 0)), (2, .lp 2 0), (0, .g (.ptr b 0))], [(2, [.i 0, .i 0, .str [], .i 0, .i 0, .str [], .sl .full 0 [], .sl .full 0 [], .i 0, .i 0, .str [], .sl .full 0 [], .sl .full 0 [], .i 0, .sl .full 0 []])], F (tkC s1)⟩ (by kernel_rfl) ?_
  refine ⟨_, LeL.refl _, ?_⟩
  refine ttext_at hF s1 e2 _ ?_
  intro hz1 hz2; clear hz1 hz2
  refine aText_at ⟨[(9, .g (.str nm)), (8, .g (.ptr b 0)), (3, .lp 3 0), (7, .g (.agg [.i k, .i 0, .str [], .i 0, .i 0, .str [], .sl .full 0 [], .sl .full 0 [], .i 0, .i 0, .str [], .sl .full 0 [], .sl .full 0 [], .i 0, .sl .full 0 []])), (6, .g (.i k)), (5, .g (.ptr b 0)), (2, .lp 2 0), (0, .g (.ptr b 0))], [(3, [.i k, .i 0, .str [], .i 0, .i 0, .str [], .sl .full 0 [], .sl .full 0 [], .i 0, .i 0, .str [], .sl .full 0 [], .sl .full 0 [], .i 0, .sl .full 0 []]), (2, [.i 0, .i 0, .str [], .i 0, .i 0, .str [], .sl .full 0 [], .sl .full 0 [], .i 0, .i 0, .str [], .sl .full 0 [], .sl .full 0 [], .i 0, .sl .full 0 []])], F (tkC s2)⟩ (by kernel_rfl) ?_
  refine ⟨[.ptr b 0, .i (4 : Nat)], LeL.refl _, ?_⟩
  refine tnum_at hF s2 4 e3 _ ?_
  intro hz1 hz2; clear hz1 hz2
  refine aText_at ⟨[(12, .g (.i pr)), (11, .g (.ptr b 0)), (10, .lp 3 2), (9, .g (.str nm)), (8, .g (.ptr b 0)), (3, .lp 3 0), (7, .g (.agg [.i k, .i 0, .str [], .i 0, .i 0, .str [], .sl .full 0 [], .sl .full 0 [], .i 0, .i 0, .str [], .sl .full 0 [], .sl .full 0 [], .i 0, .sl .full 0 []])), (6, .g (.i k)), (5, .g (.ptr b 0)), (2, .lp 2 0), (0, .g (.ptr b 0))], [(3, [.i k, .i 0, .str nm, .i 0, .i 0, .str [], .sl .full 0 [], .sl .full 0 [], .i 0, .i 0, .str [], .sl .full 0 [], .sl .full 0 [], .i 0, .sl .full 0 []]), (2, [.i 0, .i 0, .str [], .i 0, .i 0, .str [], .sl .full 0 [], .sl .full 0 [], .i 0, .i 0, .str [], .sl .full 0 [], .sl .full 0 [], .i 0, .sl .full 0 []])], F (tkC s3)⟩ (by kernel_rfl) ?_
  refine ⟨_, LeL.refl _, ?_⟩
  refine twhole_at hF s3 e4 _ ?_
  intro hz1 hz2; clear hz1 hz2
  refine aText_at ⟨[(15, .g (tmX ty)), (14, .g (.ptr b 0)), (13, .lp 3 1), (12, .g (.i pr)), (11, .g (.ptr b 0)), (10, .lp 3 2), (9, .g (.str nm)), (8, .g (.ptr b 0)), (3, .lp 3 0), (7, .g (.agg [.i k, .i 0, .str [], .i 0, .i 0, .str [], .sl .full 0 [], .sl .full 0 [], .i 0, .i 0, .str [], .sl .full 0 [], .sl .full 0 [], .i 0, .sl .full 0 []])), (6, .g (.i k)), (5, .g (.ptr b 0)), (2, .lp 2 0), (0, .g (.ptr b 0))], [(3, [.i k, .i pr, .str nm, .i 0, .i 0, .str [], .sl .full 0 [], .sl .full 0 [], .i 0, .i 0, .str [], .sl .full 0 [], .sl .full 0 [], .i 0, .sl .full 0 []]), (2, [.i 0, .i 0, .str [], .i 0, .i 0, .str [], .sl .full 0 [], .sl .full 0 [], .i 0, .i 0, .str [], .sl .full 0 [], .sl .full 0 [], .i 0, .sl .full 0 []])], F (tkC s4)⟩ (by kernel_rfl) ?_
  refine ⟨_, LeL.refl _, valued_con _ _ _ ?_⟩
  intro hz1 hz2; clear hz1 hz2
  refine aText_at ⟨[(20, .g (.b (decide (2 ≤ (k : Int) ∧ (k : Int) ≤ 4)))), (19, .g (.i k)), (18, .lp 3 0), (16, .lp 3 3), (15, .g (tmX ty)), (14, .g (.ptr b 0)), (13, .lp 3 1), (12, .g (.i pr)), (11, .g (.ptr b 0)), (10, .lp 3 2), (9, .g (.str nm)), (8, .g (.ptr b 0)), (3, .lp 3 0), (7, .g (.agg [.i k, .i 0, .str [], .i 0, .i 0, .str [], .sl .full 0 [], .sl .full 0 [], .i 0, .i 0, .str [], .sl .full 0 [], .sl .full 0 [], .i 0, .sl .full 0 []])), (6, .g (.i k)), (5, .g (.ptr b 0)), (2, .lp 2 0), (0, .g (.ptr b 0))], [(3, [.i k, .i pr, .str nm, .i ty.kind, .i ty.n, .str ty.name, .sl .no 3 (ty.levels.map lvA), .sl .no 5 (ty.args.map tmA), .i 0, .i 0, .str [], .sl .full 0 [], .sl .full 0 [], .i 0, .sl .full 0 []]), (2, [.i 0, .i 0, .str [], .i 0, .i 0, .str [], .sl .full 0 [], .sl .full 0 [], .i 0, .i 0, .str [], .sl .full 0 [], .sl .full 0 [], .i 0, .sl .full 0 []])], F (tkC s4)⟩ (by kernel_rfl) ?_
  by_cases hv : 2 ≤ k ∧ k ≤ 4
  · rw [show decide (2 ≤ (k : Int) ∧ (k : Int) ≤ 4) = true by simp; omega]
    have e : tkVal k s4 = ⟨(tkWhole s4).1, 0, [], (tkWhole s4).2⟩ := by unfold tkVal; rw [if_pos hv]
    obtain ⟨v, s5, e5⟩ : ∃ v s5, tkWhole s4 = (v, s5) := ⟨_, _, rfl⟩
    rw [e5] at e
    rw [e] at hq
    simp only at hq
    refine ⟨_, LeL.refl _, ?_⟩
    refine twhole_at hF s4 e5 _ ?_
    intro hz1 hz2; clear hz1 hz2
    have hfin : Le (.agg [.i k, .i pr, .str nm, .i ty.kind, .i ty.n, .str ty.name, .sl .no 3 (ty.levels.map lvA), .sl .no 5 (ty.args.map tmA), .i v.kind, .i v.n, .str v.name, .sl .no 3 (v.levels.map lvA), .sl .no 5 (v.args.map tmA), .i 0, .sl .full 0 []]) (dcX ⟨k, pr, nm, ty, v, (0 : Nat), []⟩) :=
      Le.agg ⟨Le.refl _, Le.refl _, Le.refl _, Le.refl _, Le.refl _, Le.refl _, Le.refl _, Le.refl _, Le.refl _, Le.refl _, Le.refl _, Le.refl _, Le.refl _, Le.refl _, Le.nil _ _, trivial⟩
    exact ⟨_, _, Le.trans (le_of_eq (by kernel_rfl)) hfin, List.Sublist.refl _, hq⟩
  · rw [show decide (2 ≤ (k : Int) ∧ (k : Int) ≤ 4) = false by simp; omega]
    refine ifB_dec (fun k5 => ?_) (fun k5 => ?_)
    · obtain rfl : k = 5 := by omega
      have e : tkVal 5 s4 = ⟨tm0, (tkNum 16 s4).1, (rpt tkCtor (tkNum 8 (tkNum 16 s4).2).1 (tkNum 8 (tkNum 16 s4).2).2).1, (rpt tkCtor (tkNum 8 (tkNum 16 s4).2).1 (tkNum 8 (tkNum 16 s4).2).2).2⟩ := by unfold tkVal; rw [if_neg hv, if_pos rfl]
      obtain ⟨fx, s5, e5⟩ : ∃ fx s5, tkNum 16 s4 = (fx, s5) := ⟨_, _, rfl⟩
      obtain ⟨n, s6, e6⟩ : ∃ n s6, tkNum 8 s5 = (n, s6) := ⟨_, _, rfl⟩
      have hc8 := tkNum_le 8 s5
      rw [e6] at hc8
      simp only [e5, e6] at e hc8
      rw [e] at hq
      simp only at hq
      refine ⟨[.ptr b 0, .i (16 : Nat)], LeL.refl _, ?_⟩
      refine tnum_at hF s4 16 e5 _ ?_
      intro hz1 hz2; clear hz1 hz2
      refine ⟨[.ptr b 0, .i (8 : Nat)], LeL.refl _, ?_⟩
      refine tnum_at hF s5 8 e6 _ ?_
      intro hz1 hz2; clear hz1 hz2
      refine ⟨Option Cap × Nat, fun p => ⟨[(0, .g (.ptr b 0)), (2, .lp 2 0), (3, .lp 3 0), (32, .g (.i n)), (33, .g (.i p.2))],
          [(3, [.i (5 : Nat), .i pr, .str nm, .i ty.kind, .i ty.n, .str ty.name, .sl .no 3 (ty.levels.map lvA), .sl .no 5 (ty.args.map tmA), .i 0, .i 0, .str [], .sl .full 0 [], .sl .full 0 [], .i fx, rowS p.1 6 ((rpt tkCtor p.2 s6).1.map ctX)]), (2, [.i 0, .i 0, .str [], .i 0, .i 0, .str [], .sl .full 0 [], .sl .full 0 [], .i 0, .i 0, .str [], .sl .full 0 [], .sl .full 0 [], .i 0, .sl .full 0 []])], bufH p.1 (F (tkC (rpt tkCtor p.2 s6).2))⟩,
        fun p => p.2 ≤ n ∧ (p.1 = none → p.2 = 0), fun p => n - p.2, ⟨(none, 0), ⟨Nat.zero_le _, fun _ => rfl⟩, ?_⟩, ?_⟩
      · exact ⟨⟨Le.refl _, ⟨rfl, rfl⟩, ⟨rfl, rfl⟩, Le.refl _, Le.refl _, trivial⟩, ⟨⟨rfl, leL_of_eq (by kernel_rfl)⟩, ⟨rfl, LeL.refl _⟩, trivial⟩, List.Sublist.refl _⟩
      · rintro ⟨q, j⟩ ⟨hj, hz⟩
        simp only at hj hz
        refine ifB_dec (fun h1 => ?_) (fun h1 => ?_)
        · simp only at h1
          have hlt : j < n := by omega
          have hlen := rpt_len tkCtor j s6
          have hsn : ∀ (t0 : List UInt8) (u : Tm), (⟨t0, u⟩ : Ct) = (tkCtor (rpt tkCtor j s6).2).1 → ((rpt tkCtor j s6).1.map ctX ++ [ctX ⟨t0, u⟩]) = (rpt tkCtor (j + 1) s6).1.map ctX := fun t0 u h => by rw [h]; simp [rpt]
          obtain ⟨t0, s7, e7⟩ : ∃ t0 s7, tkText (rpt tkCtor j s6).2 = (t0, s7) := ⟨_, _, rfl⟩
          obtain ⟨u, s8, e8⟩ : ∃ u s8, tkWhole s7 = (u, s8) := ⟨_, _, rfl⟩
          have hst : (rpt tkCtor (j + 1) s6).2 = (tkWhole (tkText (rpt tkCtor j s6).2).2).2 := rfl
          have hct : (⟨(tkText (rpt tkCtor j s6).2).1, (tkWhole (tkText (rpt tkCtor j s6).2).2).1⟩ : Ct) = (tkCtor (rpt tkCtor j s6).2).1 := rfl
          simp only [e7, e8] at hst hct
          have hnext : ∀ c' : Cap, Le (.sl (.own c') 6 ((rpt tkCtor j s6).1.map ctX ++ [ctX ⟨t0, u⟩])) (rowS (some c') 6 ((rpt tkCtor (j + 1) s6).1.map ctX)) := fun c' => by rw [hsn t0 u hct]; exact Le.refl _
          refine ⟨[.ptr b 0], LeL.refl _, ?_⟩
          refine ttext_at (hF.buf q) (rpt tkCtor j s6).2 e7 _ ?_
          intro hz1 hz2; clear hz1 hz2
          refine ⟨[0, 1, 2, 3, 4, 5, 6, 7, 8, 9], [], by kernel_rfl, by simp, ?_⟩
          refine ⟨[.ptr b 0], LeL.refl _, ?_⟩
          refine twhole_at (hF.buf q) s7 e8 _ ?_
          intro hz1 hz2; clear hz1 hz2
          cases q with
          | none =>
            obtain rfl := hz rfl
            refine ⟨(by show (0 + 1) * (96 + 1) ≤ 140737488355328; decide), fun c hc => ?_⟩
            refine ⟨in64_of (by first | omega | (dsimp only; omega)) (by first | omega | (dsimp only; omega)), ?_⟩
            refine ⟨(some c, 1), ⟨by simp only; omega, nofun⟩, by (try dsimp only); omega, ⟨⟨Le.refl _, ⟨rfl, rfl⟩, ⟨rfl, rfl⟩, Le.refl _, Le.refl _, trivial⟩, ⟨⟨rfl, ⟨Le.refl _, Le.refl _, Le.refl _, Le.refl _, Le.refl _, Le.refl _, Le.refl _, Le.refl _, Le.refl _, Le.refl _, Le.refl _, Le.refl _, Le.refl _, Le.refl _, hnext c, trivial⟩⟩, ⟨rfl, LeL.refl _⟩, trivial⟩, sub_eq ?_⟩⟩
            show bufH (some c) (F (tkC (rpt tkCtor (0 + 1) s6).2)) = _
            rw [hst]; rfl
          | some c0 =>
            refine ⟨?_, _, Heap.Rem.here, fun c hc => ?_⟩
            · simp only [List.length_map, List.length_cons, List.length_nil, hlen]
              show _ * (96 + 1) ≤ _
              omega
            · refine ⟨in64_of (by first | omega | (dsimp only; omega)) (by first | omega | (dsimp only; omega)), ?_⟩
              refine ⟨(some c, j + 1), ⟨by simp only; omega, nofun⟩, by (try dsimp only); omega, ⟨⟨Le.refl _, ⟨rfl, rfl⟩, ⟨rfl, rfl⟩, Le.refl _, Le.refl _, trivial⟩, ⟨⟨rfl, ⟨Le.refl _, Le.refl _, Le.refl _, Le.refl _, Le.refl _, Le.refl _, Le.refl _, Le.refl _, Le.refl _, Le.refl _, Le.refl _, Le.refl _, Le.refl _, Le.refl _, hnext c, trivial⟩⟩, ⟨rfl, LeL.refl _⟩, trivial⟩, sub_eq ?_⟩⟩
              show bufH (some c) (F (tkC (rpt tkCtor (j + 1) s6).2)) = _
              rw [hst]; rfl
        · simp only at h1
          have hj' : n = j := by omega
          subst hj'
          have hfin : Le (.agg [.i (5 : Nat), .i pr, .str nm, .i ty.kind, .i ty.n, .str ty.name, .sl .no 3 (ty.levels.map lvA), .sl .no 5 (ty.args.map tmA), .i 0, .i 0, .str [], .sl .full 0 [], .sl .full 0 [], .i fx, rowS q 6 ((rpt tkCtor n s6).1.map ctX)]) (dcX ⟨(5 : Nat), pr, nm, ty, tm0, fx, (rpt tkCtor n s6).1⟩) :=
            Le.agg ⟨Le.refl _, Le.refl _, Le.refl _, Le.refl _, Le.refl _, Le.refl _, Le.refl _, Le.refl _, Le.refl _, Le.refl _, Le.refl _, Le.nil _ _, Le.nil _ _, Le.refl _, rowS_le fun h => by rw [hz h]; rfl, trivial⟩
          exact ⟨_, _, Le.trans (le_of_eq (by kernel_rfl)) hfin, bufH_sub q _, hq⟩
    · have e : tkVal k s4 = ⟨tm0, 0, [], s4⟩ := by unfold tkVal; rw [if_neg hv, if_neg (by omega)]
      rw [e] at hq
      simp only at hq
      have hfin : Le (.agg [.i k, .i pr, .str nm, .i ty.kind, .i ty.n, .str ty.name, .sl .no 3 (ty.levels.map lvA), .sl .no 5 (ty.args.map tmA), .i 0, .i 0, .str [], .sl .full 0 [], .sl .full 0 [], .i 0, .sl .full 0 []]) (dcX ⟨k, pr, nm, ty, tm0, (0 : Nat), []⟩) :=
        Le.agg ⟨Le.refl _, Le.refl _, Le.refl _, Le.refl _, Le.refl _, Le.refl _, Le.refl _, Le.refl _, Le.refl _, Le.refl _, Le.refl _, Le.nil _ _, Le.nil _ _, Le.refl _, Le.nil _ _, trivial⟩
      exact ⟨_, _, Le.trans (le_of_eq (by kernel_rfl)) hfin, List.Sublist.refl _, hq⟩
set_option maxRecDepth 100000 in
set_option maxHeartbeats 1000000 in
theorem takeDecl_con (o : Own) (bs : List UInt8) (hl : bs.length ≤ 1099511627776) (H : Heap) (Q : AV → Heap → Prop) (hno : ((tkDecl ⟨bs, false, 2000⟩).2.lost || !formed (tkDecl ⟨bs, false, 2000⟩).1) = true → Q (.tup [dcX dc0, .sl .full 0 [], .b false]) H)
    (hyes : (tkDecl ⟨bs, false, 2000⟩).2.lost = false → formed (tkDecl ⟨bs, false, 2000⟩).1 = true → Q (.tup [dcX (tkDecl ⟨bs, false, 2000⟩).1, byX (tkDecl ⟨bs, false, 2000⟩).2.rest, .b true]) H) :
    Con Tryz.prog 46 [.sl o 1 (bs.map byteV)] H Q := by
  refine con_of_awp (esc := fun _ => false) tab_ok mixed Tryz.func46 rfl (ent Tryz.func46 (by kernel_rfl) rfl) (by kernel_rfl) ?_
  intro hw hn
  refine ⟨[byX bs], ⟨Le.own _ _ _, trivial⟩, ?_⟩
  refine taking_con o bs H _ fun b hb => ?_
  intro hz1 hz2; clear hz1 hz2
  have hF := Hole.top b H
  refine ⟨[.ptr b 0], LeL.refl _, ?_⟩
  refine tdecl_con hF ⟨bs, false, 2000⟩ _ ?_
  intro hz1 hz2; clear hz1 hz2
  have hshr : (tkDecl ⟨bs, false, 2000⟩).2.rest.length ≤ bs.length := shr_decl ⟨bs, false, 2000⟩
  generalize (tkDecl ⟨bs, false, 2000⟩) = p at *
  obtain ⟨l, r1, q1, l1⟩ := p
  simp only at hshr hno hyes
  have hin := hF.mem (tkC ⟨r1, q1, l1⟩)
  have hz : Le (.tup [.agg [.i 0, .i 0, .str [], .i 0, .i 0, .str [], .sl .full 0 [], .sl .full 0 [], .i 0, .i 0, .str [], .sl .full 0 [], .sl .full 0 [], .i 0, .sl .full 0 []], .sl .full 0 [], .b false]) (.tup [dcX dc0, .sl .full 0 [], .b false]) := Le.tup ⟨le_dc0, Le.refl _, Le.refl _, trivial⟩
  refine ⟨_, hin, ?_⟩
  cases q1 with
  | true => exact ⟨_, H, hz, List.sublist_cons_self _ _, hno rfl⟩
  | false =>
    refine ⟨_, LeL.refl _, formed_con _ _ _ ?_⟩
    intro hz1 hz2; clear hz1 hz2
    cases hg : formed l with
    | false => exact ⟨_, H, hz, List.sublist_cons_self _ _, hno (by simp [hg])⟩
    | true =>
      refine ⟨[0, 1, 2, 3, 4, 5, 6, 7, 8], [(b, tkC ⟨r1, false, l1⟩)], by kernel_rfl, pin1 hin, ?_⟩
      refine ⟨_, List.mem_singleton.2 rfl, ?_⟩
      refine ⟨_, LeL.refl _, Clone_con _ _ (show r1.length ≤ _ by omega) _ _ ?_⟩
      intro hz1 hz2; clear hz1 hz2
      refine ⟨pin1 hin, ?_⟩
      exact ⟨_, H, Le.refl _, List.sublist_cons_self _ _, hyes rfl hg⟩
end Go.Proofs.YtnjnfegafmhgnaaGreatDoor

/-
  pack's Decl and Hash. No condition.
-/
namespace Go.Proofs.YtnjnfegafmhgnaaGreatDoor
open Go.RowKit

theorem cts_snoc {ls : List Ct} {k : Nat} (h : k < ls.length) : ((ls.take (k + 1)).map ctB).flatten = ((ls.take k).map ctB).flatten ++ ctB ls[k] := by
  rw [List.take_succ_eq_append_getElem h, List.map_append, List.flatten_append]; simp
theorem ctB_len {d : Dc} (hf : FormedD d) (h5 : d.kind = 5) {c : Ct} (hc : c ∈ d.ctors) : (ctB c).length ≤ 128050 := by
  obtain ⟨h1, h2⟩ := (hf.fam h5).2.2.2 c hc
  obtain ⟨h3, h4, _⟩ := closed_pok h2
  have := tmB_len _ h3
  have := name_len h1
  have := enc_le6 c.name.length (by omega)
  unfold ctB stB
  simp only [List.length_append]
  omega
theorem cts_len {d : Dc} (hf : FormedD d) (h5 : d.kind = 5) : ∀ k, k ≤ d.ctors.length → ((d.ctors.take k).map ctB).flatten.length ≤ 128050 * k := fun k hk => by
  induction k with
  | zero => simp
  | succ k ih =>
    rw [cts_snoc (by omega), List.length_append]
    have := ctB_len hf h5 (List.getElem_mem (show k < d.ctors.length by omega))
    have := ih (by omega)
    omega

theorem Ans.as {P : Program} {f : FuncId} {args : List AV} {q q' : Bool} (h : Ans P f args (.b q)) (e : q = q') : Ans P f args (.b q') := e ▸ h

set_option maxRecDepth 100000 in
set_option maxHeartbeats 1000000 in
theorem packDecl_con (d : Dc) (H : Heap) (Q : AV → Heap → Prop) (hno : formed d = false → Q (.tup [.sl .full 0 [], .b false]) H) (hyes : formed d = true → ∀ c : Cap, c.b ∉ H.keys → Q (.tup [.sl (.own c) 1 ((dcB d).map byteV), .b true]) ((c.b, .cap c) :: H)) :
    Con Tryz.prog 36 [dcX d] H Q := by
  refine con_of_awp (esc := fun _ => false) tab_ok mixed Tryz.func36 rfl (ent Tryz.func36 (by kernel_rfl) rfl) (by kernel_rfl) ?_
  intro hw hn
  refine ⟨_, LeL.refl _, formed_con _ _ _ ?_⟩
  intro hz1 hz2; clear hz1 hz2
  cases hg : formed d with
  | false => exact ⟨_, H, Le.refl _, List.Sublist.refl _, hno hg⟩
  | true =>
    have hf := formed_says hg
    have hk := hf.kind
    obtain ⟨ht1, ht2, hp0, hp4, _⟩ := closed_pok hf.type
    have hnm := name_len hf.name
    have hy := hyes hg
    obtain ⟨K, hK⟩ : ∃ K : Nat, d.kind = (K : Int) := ⟨d.kind.toNat, by omega⟩
    obtain ⟨P, hP⟩ : ∃ P : Nat, d.params = (P : Int) := ⟨d.params.toNat, by omega⟩
    have eK := enc_le6 K (by omega)
    have eP := enc_le6 P (by omega)
    have eKs : encs [K] = enc K := by simp [encs]
    have ePs : encs [P] = enc P := by simp [encs]
    have eN := enc_le6 d.name.length (by omega)
    have eS : (stB d.name).length = (enc d.name.length).length + d.name.length := by unfold stB; rw [List.length_append]
    have hpos := enc_pos d.name.length
    have hT := tmB_len _ ht1
    have fin : ∀ (ys : List UInt8) (c : Cap) (H1 : Heap), ys = dcB d → H.Sublist H1 → c.b ∉ H1.keys → ∃ r H', Le (.tup [.sl (.own c) 1 (ys.map byteV), .b true]) r ∧ List.Sublist H' ((c.b, .cap c) :: H1) ∧ Q r H' := fun ys c H1 he hs hc =>
      ⟨_, _, le_of_eq (by rw [he]), hs.cons_cons _, hy c fun h => hc ((hs.map _).subset h)⟩
    refine ⟨[0, 1, 2, 4, 5, 6, 3, 7, 8, 9], [], by kernel_rfl, by simp, ?_⟩
    refine ⟨[bufS none [], .sl .full 1 ([K].map nI)], ⟨Le.refl _, le_of_eq (show AV.sl .full 1 [.i d.kind] = .sl .full 1 ([K].map nI) by rw [hK]; rfl), trivial⟩, ?_⟩
    refine pput_con [K] .full none [] H H _ (by simp; omega) (by simp) (by simp) (fun _ => rfl) rfl (by simp) fun c hc => ?_
    intro hz1 hz2; clear hz1 hz2
    refine ⟨_, LeL.refl _, ?_⟩
    refine Texts_con d.name _ _ _ (by omega) fun c1 hc1 => ?_
    intro hz1 hz2; clear hz1 hz2
    refine ⟨?_, ifNil_or (fun h => ?_) (fun h => ⟨_, Heap.Rem.there Heap.Rem.here, fun c2 hc2 => ?_⟩)⟩
    · simp only [List.length_map, List.length_append, eKs, List.length_nil]
      show _ * (1 + 1) ≤ _
      omega
    · have h3 : (stB d.name).length = 0 := by simpa using congrArg List.length h
      omega
    · have hc2' : c2.b ∉ c1.b :: H.keys := hc2
      refine awp_at ⟨[(4, .g (.sl (.own c2) 1 (([] ++ encs [K]).map byteV ++ (stB d.name).map byteV))), (18, .g (.sl (.own c2) 1 (([] ++ encs [K]).map byteV ++ (stB d.name).map byteV))), (17, .g (.sl (.own c1) 1 ((stB d.name).map byteV))), (13, .g (.sl (.own c) 1 (([] ++ encs [K]).map byteV))), (16, .g (.sl .full 1 [.str d.name])), (15, .g (.str d.name)), (14, .lp 1 2), (12, .g (.sl .full 1 [.i d.kind])), (11, .g (.i d.kind)), (10, .lp 1 0), (9, .g (.b false)), (8, .g (.b true)), (7, .g (dcX d)), (3, .g (.b false)), (2, .g (.sl .full 0 [])), (1, .lp 1 0), (0, .g (dcX d))], [(1, (dcX d).cells)], (c2.b, .cap c2) :: (c1.b, .cap c1) :: H⟩ (by kernel_rfl) ?_
      refine ⟨[0, 1, 2, 3, 5, 6, 4, 7, 8], [], by kernel_rfl, by simp, ?_⟩
      refine ⟨[bufS (some c2) (enc K ++ stB d.name), .sl .full 1 ([P].map nI)], ⟨le_of_eq (by show AV.sl _ _ _ = AV.sl _ _ _; rw [eKs]; simp), le_of_eq (show AV.sl .full 1 [.i d.params] = .sl .full 1 ([P].map nI) by rw [hP]; rfl), trivial⟩, ?_⟩
      refine pput_con [P] .full (some c2) (enc K ++ stB d.name) _ ((c1.b, .cap c1) :: H) _ (by simp; omega) (by simp) (by simp) nofun Heap.Rem.here (by rw [List.length_append]; omega) fun c3 hc3 => ?_
      intro hz1 hz2; clear hz1 hz2
      refine ⟨_, LeL.refl _, ?_⟩
      refine putTerm_con _ d.type (some c3) (enc K ++ stB d.name ++ encs [P]) _ ((c1.b, .cap c1) :: H) _ (Nat.le_refl _) ht1 nofun Heap.Rem.here (by simp only [ePs, List.length_append]; omega) fun c4 hc4 => ?_
      intro hz1 hz2; clear hz1 hz2
      obtain ⟨ys, hys⟩ : ∃ ys, ys = enc K ++ stB d.name ++ encs [P] ++ tmB d.type := ⟨_, rfl⟩
      have hyl : ys.length ≤ 200000 := by rw [hys]; simp only [ePs, List.length_append]; omega
      have hdc : dcB d = ys ++ dcTail d := by rw [hys]; unfold dcB; rw [hK, hP]; simp [encs]
      have hsub : List.Sublist H ((c1.b, .cap c1) :: H) := List.sublist_cons_self _ _
      by_cases hv : 2 ≤ d.kind ∧ d.kind ≤ 4
      · obtain ⟨v1, v2, _⟩ := closed_pok (hf.val hv)
        have hV := tmB_len _ v1
        refine ⟨_, LeL.refl _, (valued_con d.kind).as (decide_eq_true hv) _ _ ?_⟩
        intro hz1 hz2; clear hz1 hz2
        refine ⟨[bufS (some c4) ys, tmX d.value], ⟨le_of_eq (by show AV.sl _ _ _ = AV.sl _ _ _; rw [hys]), Le.refl _, trivial⟩, ?_⟩
        refine putTerm_con _ d.value (some c4) ys _ ((c1.b, .cap c1) :: H) _ (Nat.le_refl _) v1 nofun Heap.Rem.here (by omega) fun c5 hc5 => ?_
        intro hz1 hz2; clear hz1 hz2
        exact fin (ys ++ tmB d.value) c5 _ (by rw [hdc]; unfold dcTail; rw [if_pos hv]) hsub hc5
      · refine ⟨_, LeL.refl _, (valued_con d.kind).as (decide_eq_false hv) _ _ ?_⟩
        intro hz1 hz2; clear hz1 hz2
        refine ifB_dec (fun h5 => ?_) (fun h5 => ?_)
        · obtain ⟨f1, f2, f3, f4⟩ := hf.fam h5
          obtain ⟨X, hX⟩ : ∃ X : Nat, d.fixed = (X : Int) := ⟨d.fixed.toNat, by omega⟩
          have eX := enc_le6 X (by omega)
          have eC := enc_le6 d.ctors.length (by omega)
          have eXs : encs [X, d.ctors.length] = enc X ++ enc d.ctors.length := by simp [encs]
          have hcl := cts_len hf h5
          refine ⟨[bufS (some c4) ys, .sl .full 1 ([X, d.ctors.length].map nI)], ⟨le_of_eq (by show AV.sl _ _ _ = AV.sl _ _ _; rw [hys]), le_of_eq (show AV.sl .full 1 [.i d.fixed, .i (d.ctors.map ctX).length] = .sl .full 1 ([X, d.ctors.length].map nI) by rw [hX, List.length_map]; rfl), trivial⟩, ?_⟩
          refine pput_con [X, d.ctors.length] .full (some c4) ys _ ((c1.b, .cap c1) :: H) _ (by simp; omega) (by simp) (by simp) nofun Heap.Rem.here (by omega) fun c5 hc5 => ?_
          intro hz1 hz2; clear hz1 hz2
          refine ⟨Cap × Nat, fun p => ⟨[(2, .g (.sl .full 0 [])), (3, .g (.b false)), (4, .g (bufS (some p.1) (ys ++ encs [X, d.ctors.length] ++ ((d.ctors.take p.2).map ctB).flatten))), (48, .g (.sl .no 6 (d.ctors.map ctX))), (49, .g (.i d.ctors.length)), (50, .g (.i p.2))], [(1, (dcX d).cells)], (p.1.b, .cap p.1) :: H⟩,
            fun p => p.1.b ∉ H.keys ∧ p.2 ≤ d.ctors.length, fun p => d.ctors.length - p.2, ⟨(c5, 0), ⟨fun h => hc5 (List.mem_cons_of_mem _ h), Nat.zero_le _⟩, ?_⟩, ?_⟩
          · refine ⟨⟨Le.refl _, Le.refl _, le_of_eq (by show AV.sl _ _ _ = AV.sl _ _ _; simp), Le.refl _, le_of_eq (by show AV.i _ = AV.i _; rw [List.length_map]), Le.refl _, trivial⟩, ⟨⟨rfl, LeL.refl _⟩, trivial⟩, List.Sublist.cons_cons _ hsub⟩
          · rintro ⟨c, k⟩ ⟨hc, hk⟩
            simp only at hc hk
            refine ifB_dec (fun h1 => ?_) (fun h1 => ?_)
            · simp only at h1
              have hlt : k < d.ctors.length := by omega
              have hck := hcl k (by omega)
              obtain ⟨hcn, hct⟩ := f4 _ (List.getElem_mem hlt)
              have hcnl := name_len hcn
              obtain ⟨hp1, hp2, _⟩ := closed_pok hct
              have hsn := cts_snoc hlt
              have hel : (encs [X, d.ctors.length]).length ≤ 12 := by rw [eXs, List.length_append]; omega
              have eN1 := enc_le6 d.ctors[k].name.length (by omega)
              have eS1 : (stB d.ctors[k].name).length = (enc d.ctors[k].name.length).length + d.ctors[k].name.length := by unfold stB; rw [List.length_append]
              have hpos1 := enc_pos d.ctors[k].name.length
              refine ⟨k, rfl, _, ctAt hlt, ?_⟩
              refine ⟨[0, 1, 2, 3, 6, 7, 4, 5, 8, 9], [], by kernel_rfl, by simp, ?_⟩
              refine ⟨_, LeL.refl _, ?_⟩
              refine Texts_con d.ctors[k].name _ _ _ (by omega) fun c6 hc6 => ?_
              intro hz1 hz2; clear hz1 hz2
              refine ⟨?_, ifNil_or (fun h => ?_) (fun h => ⟨_, Heap.Rem.there Heap.Rem.here, fun c7 hc7 => ?_⟩)⟩
              · simp only [List.length_map, List.length_append]
                show _ * (1 + 1) ≤ _
                omega
              · have h3 : (stB d.ctors[k].name).length = 0 := by simpa using congrArg List.length h
                omega
              · refine ⟨[bufS (some c7) (ys ++ encs [X, d.ctors.length] ++ ((d.ctors.take k).map ctB).flatten ++ stB d.ctors[k].name), tmX d.ctors[k].type], ⟨le_of_eq (by show AV.sl _ _ _ = AV.sl _ _ _; simp), Le.refl _, trivial⟩, ?_⟩
                refine putTerm_con _ d.ctors[k].type (some c7) (ys ++ encs [X, d.ctors.length] ++ ((d.ctors.take k).map ctB).flatten ++ stB d.ctors[k].name) _ ((c6.b, .cap c6) :: H) _ (Nat.le_refl _) hp1 nofun Heap.Rem.here (by simp only [List.length_append]; omega) fun c8 hc8 => ?_
                intro hz1 hz2; clear hz1 hz2
                refine ⟨by constructor <;> simp only <;> omega, ?_⟩
                refine ⟨(c8, k + 1), ⟨fun h => hc8 (List.mem_cons_of_mem _ h), by simp only; omega⟩, by (try dsimp only); omega, ⟨⟨Le.refl _, Le.refl _, ?_, Le.refl _, Le.refl _, Le.refl _, trivial⟩, ⟨⟨rfl, LeL.refl _⟩, trivial⟩, List.Sublist.cons_cons _ (List.sublist_cons_self _ _)⟩⟩
                refine le_of_eq ?_
                show AV.sl _ _ _ = AV.sl _ _ _
                rw [hsn]
                unfold ctB
                simp
            · simp only at h1
              have hk' : d.ctors.length = k := by omega
              subst hk'
              exact fin (ys ++ encs [X, d.ctors.length] ++ ((d.ctors.take d.ctors.length).map ctB).flatten) c H (by rw [hdc]; unfold dcTail; rw [if_neg hv, if_pos h5, hX, List.take_length, eXs]; simp) (List.Sublist.refl _) hc
        · exact fin (enc K ++ stB d.name ++ encs [P] ++ tmB d.type) c4 _ (by rw [hdc, hys]; unfold dcTail; rw [if_neg hv, if_neg h5]; simp) hsub hc4
end Go.Proofs.YtnjnfegafmhgnaaGreatDoor

/-
  pack's Hash; the reference's SameDecl, CopyBytes, DeclNodes; what is too great. No condition.
-/
namespace Go.Proofs.YtnjnfegafmhgnaaGreatDoor
open Go.RowKit

/-- a byte more of a hash -/
def hstep (h : Int) (c : UInt8) : Int := IntKind.u64.wrap (IntKind.u64.wrap ((BitVec.ofInt IntKind.u64.bits h ^^^ BitVec.ofInt IntKind.u64.bits (IntKind.u64.wrap ((c.toNat : Nat) : Int))).toNat : Nat) * 1099511628211)
def hashB (bs : List UInt8) : Int := bs.foldl hstep 14695981039346656037
def dcHash (d : Dc) : Int := if formed d = true then hashB (dcB d) else 0
theorem hash_snoc {bs : List UInt8} {k : Nat} (h : k < bs.length) : hashB (bs.take (k + 1)) = hstep (hashB (bs.take k)) bs[k] := by
  unfold hashB
  rw [List.take_succ_eq_append_getElem h, List.foldl_append]; rfl

set_option maxRecDepth 100000 in
theorem packHash_con (d : Dc) : Ans Tryz.prog 41 [dcX d] (.v (.int .u64 (dcHash d))) := by
  intro H Q hq
  refine con_of_awp (esc := fun _ => false) tab_ok mixed Tryz.func41 rfl (ent Tryz.func41 (by kernel_rfl) rfl) (by kernel_rfl) ?_
  intro hw hn
  refine ⟨_, LeL.refl _, ?_⟩
  refine packDecl_con d _ _ (fun h => ?_) (fun h c hc => ?_)
  · intro hz1 hz2; clear hz1 hz2
    refine ⟨_, H, le_of_eq ?_, List.Sublist.refl _, hq⟩
    unfold dcHash; rw [h]; rfl
  · intro hwf _
    have hl : (dcB d).length ≤ 9223372036854775807 := by
      have := Wf.len (hwf.tup (x := .sl (.own c) 1 ((dcB d).map byteV)) (by simp))
      simpa using this
    clear hwf
    refine ⟨Nat, fun k => ⟨[(2, .g (.v (.int .u64 0))), (5, .g (.v (.int .u64 (hashB ((dcB d).take k))))), (15, .g (byX (dcB d))), (16, .g (.i (dcB d).length)), (17, .g (.i k))], [], H⟩, fun k => k ≤ (dcB d).length, fun k => (dcB d).length - k, ⟨0, Nat.zero_le _, ?_⟩, ?_⟩
    · refine ⟨⟨Le.refl _, Le.refl _, Le.own _ _ _, le_of_eq ?_, Le.refl _, trivial⟩, trivial, List.sublist_cons_self _ _⟩
      show AV.i _ = AV.i _
      rw [List.length_map]
    · intro k hk
      refine ifB_dec (fun h1 => ?_) (fun h1 => ?_)
      · have hlt : k < (dcB d).length := by omega
        refine ⟨k, rfl, _, byAt hlt, ?_⟩
        refine ⟨in64_of (by first | omega | (dsimp only; omega)) (by first | omega | (dsimp only; omega)), ?_⟩
        refine ⟨k + 1, (by omega), by (try dsimp only); omega, ⟨⟨Le.refl _, le_of_eq ?_, Le.refl _, Le.refl _, Le.refl _, trivial⟩, trivial, List.Sublist.refl _⟩⟩
        rw [hash_snoc hlt]
        rfl
      · have hk' : k = (dcB d).length := by omega
        refine ⟨_, H, le_of_eq ?_, List.Sublist.refl _, hq⟩
        rw [hk', List.take_length]
        unfold dcHash; rw [if_pos h]; rfl


set_option maxRecDepth 100000 in
theorem SameDecl_con (d : Dc) : Ans Tryz.prog 43 [dcX d, dcX d] (.b true) := by
  intro H Q hq
  refine con_of_awp (esc := fun _ => false) tab_ok mixed Tryz.func43 rfl (ent Tryz.func43 (by kernel_rfl) rfl) (by kernel_rfl) ?_
  intro hw hn
  have same : ∀ t : Tm, Ans Tryz.prog 22 [tmX t, tmX t] (.b true) := fun t => (SameTerm_con _ t t (Nat.le_refl _)).as ((tmEq_iff t t).2 rfl)
  refine ifB_t rfl ?_
  refine ifB_t rfl ?_
  refine ifB_t rfl ?_
  refine ifB_t rfl ?_
  refine ⟨_, LeL.refl _, same _ _ _ ?_⟩
  intro hz1 hz2; clear hz1 hz2
  refine ⟨_, LeL.refl _, same _ _ _ ?_⟩
  intro hz1 hz2; clear hz1 hz2
  refine ifB_t rfl ?_
  have hlen : d.ctors.length ≤ 9223372036854775807 := by
    have := Wf.len ((hw (dcX d) (by simp)).cell (x := .sl .no 6 (d.ctors.map ctX)) (by simp))
    simpa using this
  refine ⟨Nat, fun k => ⟨[(2, .lp 2 0), (3, .lp 3 0), (4, .g (.b false)), (5, .g (.i k))], [(3, (dcX d).cells), (2, (dcX d).cells)], H⟩, fun k => k ≤ d.ctors.length, fun k => d.ctors.length - k, ⟨0, Nat.zero_le _, ?_⟩, ?_⟩
  · exact ⟨⟨⟨rfl, rfl⟩, ⟨rfl, rfl⟩, Le.refl _, Le.refl _, trivial⟩, ⟨⟨rfl, LeL.refl _⟩, ⟨rfl, LeL.refl _⟩, trivial⟩, List.Sublist.refl _⟩
  · intro k hk
    refine ifB_dec (fun h1 => ?_) (fun h1 => ?_)
    · simp only [List.length_map] at h1
      have hlt : k < d.ctors.length := by omega
      refine ⟨[0, 1, 2, 3, 4, 5, 6, 7, 8, 9, 10, 11, 12, 13, 14, 15, 16, 17, 18, 19, 20, 21, 22, 23, 24, 25, 26, 27, 28], [], by kernel_rfl, by simp, ?_⟩
      refine ⟨k, rfl, _, ctAt hlt, k, rfl, _, ctAt hlt, ?_⟩
      refine ifB_t rfl ?_
      refine ⟨k, rfl, _, ctAt hlt, k, rfl, _, ctAt hlt, ?_⟩
      refine ⟨_, LeL.refl _, same _ _ _ ?_⟩
      intro hz1 hz2; clear hz1 hz2
      refine ⟨in64_of (by first | omega | (dsimp only; omega)) (by first | omega | (dsimp only; omega)), ?_⟩
      refine ⟨k + 1, (by omega), by (try dsimp only); omega, ⟨⟨⟨rfl, rfl⟩, ⟨rfl, rfl⟩, Le.refl _, Le.refl _, trivial⟩, ⟨⟨rfl, LeL.refl _⟩, ⟨rfl, LeL.refl _⟩, trivial⟩, List.Sublist.refl _⟩⟩
    · exact ⟨_, H, Le.refl _, List.Sublist.refl _, hq⟩
end Go.Proofs.YtnjnfegafmhgnaaGreatDoor

/-
  What is too great; bytes that the document fixes (law 08's alive). No condition.
-/
namespace Go.Proofs.YtnjnfegafmhgnaaGreatDoor
open Go.RowKit

theorem ctor_name {d : Dc} (h : Wf (dcX d)) {c : Ct} (hc : c ∈ d.ctors) : c.name.length ≤ 1125899906842624 := by
  have h1 := (h.cell (x := .sl .no 6 (d.ctors.map ctX)) (by simp)).elem (x := ctX c) (List.mem_map.2 ⟨c, hc, rfl⟩)
  exact (h1 (.str c.name) (by simp [ctX, AV.cells])).str
set_option maxRecDepth 100000 in
theorem DeclNodes_some (d : Dc) (most : Nat) (hm : most ≤ 1099511627776) (H : Heap) (Q : AV → Heap → Prop) (hq : ∀ n : Int, Q (.i n) H) : Con Tryz.prog 64 [dcX d, .i most] H Q := by
  refine con_of_awp (esc := fun _ => false) tab_ok mixed Tryz.func64 rfl (ent Tryz.func64 (by kernel_rfl) rfl) (by kernel_rfl) ?_
  intro hw hn
  have hd := hw (dcX d) (by simp)
  have hname := (hd.cell (x := .str d.name) (by simp)).str
  have hcn := fun c hc => ctor_name hd (c := c) hc
  have hlen : d.ctors.length ≤ 9223372036854775807 := by
    have := Wf.len (hd.cell (x := .sl .no 6 (d.ctors.map ctX)) (by simp))
    simpa using this
  clear hd
  have e16 : Int.tdiv (d.name.length : Int) 16 = ((d.name.length / 16 : Nat) : Int) := rfl
  refine ifB_dec (fun h0 => ?_) (fun h0 => ?_)
  · refine ⟨in64_of (by first | omega | (dsimp only; omega)) (by first | omega | (dsimp only; omega)), ?_⟩
    exact ⟨_, H, Le.refl _, List.Sublist.refl _, hq _⟩
  · simp only [List.length_map] at h0
    refine ⟨[0, 1, 2, 4, 5, 6, 9, 10, 11, 12, 3, 7, 8, 13, 14], [], by kernel_rfl, by simp, ?_⟩
    refine ⟨by decide, in64_of (by omega) (by omega), ?_⟩
    have hb1 : min d.type.big (most + 1) ≤ most + 1 := Nat.min_le_right _ _
    have hb2 : min d.value.big (most + 1) ≤ most + 1 := Nat.min_le_right _ _
    refine ⟨_, LeL.refl _, tmBig_con most hm _ d.type (Nat.le_refl _) _ _ ?_⟩
    intro hz1 hz2; clear hz1 hz2
    refine ⟨_, LeL.refl _, tmBig_con most hm _ d.value (Nat.le_refl _) _ _ ?_⟩
    intro hz1 hz2; clear hz1 hz2
    refine ⟨in64_of (by omega) (by omega), in64_of (by omega) (by omega), ?_⟩
    refine ⟨Nat × Int, fun p => ⟨[(1, .g (.i most)), (2, .lp 2 0), (4, .g (.i 0)), (5, .g (.i p.2)), (6, .g (.i p.1))], [(2, (dcX d).cells)], H⟩,
      fun p => p.1 ≤ d.ctors.length ∧ 0 ≤ p.2 ∧ p.2 ≤ 4503599627370496, fun p => d.ctors.length - p.1, ⟨(0, ((min d.type.big (most + 1) : Nat) : Int) + ((min d.value.big (most + 1) : Nat) : Int) + Int.tdiv (d.name.length : Int) 16), ⟨Nat.zero_le _, by simp only; omega, by simp only; omega⟩, ?_⟩, ?_⟩
    · exact ⟨⟨Le.refl _, ⟨rfl, rfl⟩, Le.refl _, Le.refl _, Le.refl _, trivial⟩, ⟨⟨rfl, LeL.refl _⟩, trivial⟩, List.Sublist.refl _⟩
    · rintro ⟨k, m⟩ ⟨hk, hm0, hm1⟩
      simp only at hk hm0 hm1
      have fin : ∃ r H', Le (.i (min m ((most : Int) + 1))) r ∧ List.Sublist H' H ∧ Q r H' := ⟨_, H, Le.refl _, List.Sublist.refl _, hq _⟩
      refine ifB_dec (fun h1 => ?_) (fun h1 => ?_)
      · simp only [List.length_map] at h1
        have hlt : k < d.ctors.length := by omega
        refine ifB_dec (fun h2 => ?_) (fun h2 => ?_)
        · simp only at h2
          refine ⟨[0, 1, 2, 3, 4, 5, 6, 7, 9, 10, 11, 12, 13, 14, 15, 16, 8, 17, 18, 19], [], by kernel_rfl, by simp, ?_⟩
          have hcl := hcn _ (List.getElem_mem hlt)
          have e17 : Int.tdiv (d.ctors[k].name.length : Int) 16 = ((d.ctors[k].name.length / 16 : Nat) : Int) := rfl
          have hb3 : min d.ctors[k].type.big (most + 1) ≤ most + 1 := Nat.min_le_right _ _
          refine ⟨k, rfl, _, ctAt hlt, k, rfl, _, ctAt hlt, by decide, in64_of (by omega) (by omega), ?_⟩
          refine ⟨_, LeL.refl _, tmBig_con most hm _ d.ctors[k].type (Nat.le_refl _) _ _ ?_⟩
          intro hz1 hz2; clear hz1 hz2
          refine ⟨in64_of (by omega) (by omega), in64_of (by simp only; omega) (by simp only; omega), in64_of (by simp only; omega) (by simp only; omega), ?_⟩
          exact ⟨(k + 1, m + (((min d.ctors[k].type.big (most + 1) : Nat) : Int) + Int.tdiv (d.ctors[k].name.length : Int) 16)), ⟨by simp only; omega, by simp only; omega, by simp only; omega⟩, by (try dsimp only); omega, ⟨⟨Le.refl _, ⟨rfl, rfl⟩, Le.refl _, Le.refl _, Le.refl _, trivial⟩, ⟨⟨rfl, LeL.refl _⟩, trivial⟩, List.Sublist.refl _⟩⟩
        · refine ⟨in64_of (by first | omega | (dsimp only; omega)) (by first | omega | (dsimp only; omega)), ?_⟩
          exact fin
      · refine ⟨in64_of (by first | omega | (dsimp only; omega)) (by first | omega | (dsimp only; omega)), ?_⟩
        exact fin

set_option maxRecDepth 100000 in
theorem Great8_some (d : Dc) (H : Heap) (Q : AV → Heap → Prop) (hq : ∀ q : Bool, Q (.b q) H) : Con Tryz.prog 12 [dcX d] H Q := by
  refine con_of_awp (esc := fun _ => false) tab_ok mixed Tryz.func12 rfl (ent Tryz.func12 (by kernel_rfl) rfl) (by kernel_rfl) ?_
  intro hw hn
  refine ifB_dec (fun h1 => ?_) (fun h1 => ?_)
  · exact ⟨_, H, Le.refl _, List.Sublist.refl _, hq true⟩
  · refine ⟨_, LeL.refl _, DeclNodes_some d 4000 (by decide) _ _ fun n => ?_⟩
    intro hz1 hz2; clear hz1 hz2
    refine ifB_dec (fun h2 => ?_) (fun h2 => ?_)
    · exact ⟨_, H, Le.refl _, List.Sublist.refl _, hq true⟩
    · exact ⟨_, H, Le.refl _, List.Sublist.refl _, hq false⟩
set_option maxRecDepth 100000 in
theorem Great4_some (t : Tm) (H : Heap) (Q : AV → Heap → Prop) (hq : ∀ q : Bool, Q (.b q) H) : Con Tryz.prog 30 [tmX t] H Q := by
  refine con_of_awp (esc := fun _ => false) tab_ok mixed Tryz.func30 rfl (ent Tryz.func30 (by kernel_rfl) rfl) (by kernel_rfl) ?_
  intro hw hn
  refine ⟨_, LeL.refl _, tmBig_con 2500 (by decide) _ t (Nat.le_refl _) _ _ ?_⟩
  intro hz1 hz2; clear hz1 hz2
  refine ifB_dec (fun h2 => ?_) (fun h2 => ?_)
  · exact ⟨_, H, Le.refl _, List.Sublist.refl _, hq true⟩
  · exact ⟨_, H, Le.refl _, List.Sublist.refl _, hq false⟩
end Go.Proofs.YtnjnfegafmhgnaaGreatDoor

/-
  Bytes that the document fixes (law 08's alive). No condition.
-/
namespace Go.Proofs.YtnjnfegafmhgnaaGreatDoor
open Go.RowKit

/-- elements, each at least another one -/
def LeE : List AV → List AV → Prop
  | [], [] => True
  | x :: xs, y :: ys => LeL x.cells y.cells ∧ LeE xs ys
  | _, _ => False
theorem LeL.length : ∀ {xs ys : List AV}, LeL xs ys → xs.length = ys.length
  | [], [], _ => rfl
  | x :: xs, y :: ys, h => by simp only [LeL] at h; simp [LeL.length h.2]
  | [], y :: ys, h => by simp [LeL] at h
  | x :: xs, [], h => by simp [LeL] at h
theorem LeE.atE {M : Mem} : ∀ {xs ys : List AV} {b o : Nat}, LeE xs ys → Go.Proofs.YtnjnfegafmhgnaaGreatDoor.atE M xs b o → Go.Proofs.YtnjnfegafmhgnaaGreatDoor.atE M ys b o
  | [], [], _, _, _, h => h
  | x :: xs, y :: ys, b, o, h, ha => by
    obtain ⟨h1, h2⟩ := atE.cons.1 ha
    exact atE.cons.2 ⟨h.1.atL h1, LeE.atE h.2 (by rw [← h.1.length]; exact h2)⟩
theorem LeE.length : ∀ {xs ys : List AV}, LeE xs ys → xs.length = ys.length
  | [], [], _ => rfl
  | x :: xs, y :: ys, h => by simp [LeE.length h.2]
theorem LeE.wide {s : Nat} : ∀ {xs ys : List AV}, LeE xs ys → (∀ x ∈ xs, x.cells.length = s) → ∀ y ∈ ys, y.cells.length = s
  | [], [], _, _, y, hy => by cases hy
  | x :: xs, z :: ys, h, hx, y, hy => by
    rcases List.mem_cons.1 hy with rfl | hy
    · rw [← h.1.length]; exact hx x (by simp)
    · exact LeE.wide h.2 (fun a ha => hx a (List.mem_cons_of_mem _ ha)) y hy
theorem Le.slE {o : Own} {s : Nat} {xs ys : List AV} (h : LeE xs ys) : Le (.sl o s xs) (.sl .no s ys) := fun M u hu => by
  simp only [rep] at hu ⊢
  obtain ⟨a, cap, h1, h2, h3, h4, h5, h6, h7⟩ := hu
  have hl := h.length
  refine ⟨a, cap, by rw [← hl]; exact h1, by rw [← hl]; exact h2, h3, h4, ⟨fun hs => ?_, LeE.wide h h5.2⟩, trivial, fun h0 => ?_⟩
  · have := h5.1 hs
    subst this
    cases ys with
    | nil => rfl
    | cons y ys => exact h.elim
  · rw [← hl] at h0
    obtain ⟨b, off, e, ha⟩ := h7 h0
    exact ⟨b, off, e, h.atE ha⟩
theorem le_sortL : Le (.sl .full 3 [.agg [.i 1, .i 0, .sl .full 0 []]]) (.sl .no 3 (tmSort0.levels.map lvA)) := Le.slE ⟨⟨Le.refl _, Le.refl _, Le.nil _ _, trivial⟩, trivial⟩
theorem le_sort0 : Le (.agg [.i 2, .i 0, .str [], .sl .full 3 [.agg [.i 1, .i 0, .sl .full 0 []]], .sl .full 0 []]) (tmX tmSort0) := Le.agg ⟨Le.refl _, Le.refl _, Le.refl _, le_sortL, Le.nil _ _, trivial⟩
theorem le_dcA : Le (.agg [.i 1, .i 0, .str [97], .i 2, .i 0, .str [], .sl .full 3 [.agg [.i 1, .i 0, .sl .full 0 []]], .sl .full 0 [], .i 0, .i 0, .str [], .sl .full 0 [], .sl .full 0 [], .i 0, .sl .full 0 []]) (dcX dcA) :=
  Le.agg ⟨Le.refl _, Le.refl _, Le.refl _, Le.refl _, Le.refl _, Le.refl _, le_sortL, Le.nil _ _, Le.refl _, Le.refl _, Le.refl _, Le.nil _ _, Le.nil _ _, Le.refl _, Le.nil _ _, trivial⟩
theorem hashA : dcHash dcA = 12626791137399600213 := by
  unfold dcHash
  rw [if_pos dcA_formed, dcA_bytes]
  decide +kernel
theorem dcA_take : ∃ L', tkDecl ⟨dcB dcA, false, 2000⟩ = (dcA, ⟨[], false, L'⟩) := by
  obtain ⟨L', hb⟩ := dc_back dcA_formed [] 2000
  rw [List.append_nil] at hb
  exact ⟨L', hb⟩
section
variable {H : Heap} {Q : AV → Heap → Prop}
set_option maxRecDepth 100000 in
theorem packTerm_yes {l : Tm} (h : packOk l = true) (hq : ∀ c : Cap, c.b ∉ H.keys → Q (.tup [.sl (.own c) 1 ((tmB l).map byteV), .b true]) ((c.b, .cap c) :: H)) : Con Tryz.prog 34 [tmX l] H Q :=
  packTerm_con l H Q (fun h0 => by rw [h] at h0; cases h0) fun _ => hq
set_option maxRecDepth 100000 in
theorem packLevel_yes {l : Lv} (h : lvRight 4 l = true) (hq : ∀ c : Cap, c.b ∉ H.keys → Q (.tup [.sl (.own c) 1 ((lvB l).map byteV), .b true]) ((c.b, .cap c) :: H)) : Con Tryz.prog 32 [lvX l] H Q :=
  packLevel_con l H Q (fun h0 => by rw [h] at h0; cases h0) fun _ => hq
set_option maxRecDepth 100000 in
theorem packDecl_yes {l : Dc} (h : formed l = true) (hq : ∀ c : Cap, c.b ∉ H.keys → Q (.tup [.sl (.own c) 1 ((dcB l).map byteV), .b true]) ((c.b, .cap c) :: H)) : Con Tryz.prog 36 [dcX l] H Q :=
  packDecl_con l H Q (fun h0 => by rw [h] at h0; cases h0) fun _ => hq
set_option maxRecDepth 100000 in
theorem takeTerm_yes {o : Own} {bs r : List UInt8} {t : Tm} {L : Int} (hl : bs.length ≤ 1099511627776) (e : tkTerm 2000 ⟨bs, false, 2000⟩ = (t, ⟨r, false, L⟩)) (h : packOk t = true) (hq : Q (.tup [tmX t, byX r, .b true]) H) : Con Tryz.prog 45 [.sl o 1 (bs.map byteV)] H Q :=
  takeTerm_con o bs hl H Q (fun h0 => by rw [e] at h0; simp [h] at h0) fun _ _ => by rw [e]; exact hq
set_option maxRecDepth 100000 in
theorem takeLevel_yes {o : Own} {bs r : List UInt8} {t : Lv} {L : Int} (hl : bs.length ≤ 1099511627776) (e : tkLevel 2000 ⟨bs, false, 2000⟩ = (t, ⟨r, false, L⟩)) (h : lvRight 4 t = true) (hq : Q (.tup [lvX t, byX r, .b true]) H) : Con Tryz.prog 44 [.sl o 1 (bs.map byteV)] H Q :=
  takeLevel_con o bs hl H Q (fun h0 => by rw [e] at h0; simp [h] at h0) fun _ _ => by rw [e]; exact hq
set_option maxRecDepth 100000 in
theorem takeDecl_yes {o : Own} {bs r : List UInt8} {t : Dc} {L : Int} (hl : bs.length ≤ 1099511627776) (e : tkDecl ⟨bs, false, 2000⟩ = (t, ⟨r, false, L⟩)) (h : formed t = true) (hq : Q (.tup [dcX t, byX r, .b true]) H) : Con Tryz.prog 46 [.sl o 1 (bs.map byteV)] H Q :=
  takeDecl_con o bs hl H Q (fun h0 => by rw [e] at h0; simp [h] at h0) fun _ _ => by rw [e]; exact hq
end

set_option maxRecDepth 100000 in
set_option maxHeartbeats 1000000 in
theorem alive8_con : Ans Tryz.prog 28 [] (.b true) := by
  intro H Q hq
  obtain ⟨L', hb⟩ := dcA_take
  have hbl : (dcB dcA).length ≤ 1099511627776 := by rw [dcA_bytes]; decide
  refine con_of_awp (esc := fun _ => false) tab_ok mixed Tryz.func28 rfl (ent Tryz.func28 (by kernel_rfl) rfl) (by kernel_rfl) ?_
  intro hw hn
  refine ⟨[tmX tmSort0], ⟨le_sort0, trivial⟩, packTerm_yes sort0_ok fun c1 hc1 => ?_⟩
  intro hz1 hz2; clear hz1 hz2
  refine ⟨[.sl .no 1 (([1, 5, 9] : List UInt8).map byteV)], ⟨Le.own _ _ _, trivial⟩, takeTerm_yes (by decide) var5_take var5_ok ?_⟩
  intro hz1 hz2; clear hz1 hz2
  refine ⟨[dcX dcA], ⟨le_dcA, trivial⟩, packDecl_yes dcA_formed fun c2 hc2 => ?_⟩
  intro hz1 hz2; clear hz1 hz2
  refine ⟨[.sl (.own c2) 1 ((dcB dcA).map byteV)], LeL.refl _, ?_⟩
  refine takeDecl_yes (o := .own c2) (bs := dcB dcA) (r := []) (t := dcA) hbl hb dcA_formed ?_
  intro hz1 hz2; clear hz1 hz2
  refine ⟨[.sl .no 1 (([3, 1, 2] : List UInt8).map byteV)], ⟨Le.own _ _ _, trivial⟩, takeLevel_yes (by decide) succ2_take succ2_right ?_⟩
  intro hz1 hz2; clear hz1 hz2
  refine ⟨_, LeL.refl _, packLevel_yes succ2_right fun c3 hc3 => ?_⟩
  intro hz1 hz2; clear hz1 hz2
  have same : ∀ (o o' : Own) (bs cs : List UInt8), bs = cs → Ans Tryz.prog 38 [.sl o 1 (bs.map byteV), .sl o' 1 (cs.map byteV)] (.b true) := fun o o' bs cs h => (SameBytes_con bs cs).as (decide_eq_true h)
  refine ⟨[.sl (.own c1) 1 ((tmB tmSort0).map byteV), .sl .full 1 (([2, 1, 0] : List UInt8).map byteV)], LeL.refl _, same _ _ _ _ sort0_bytes _ _ ?_⟩
  intro hz1 hz2; clear hz1 hz2
  refine ⟨[byX [9], .sl .full 1 (([9] : List UInt8).map byteV)], LeL.refl _, same _ _ _ _ rfl _ _ ?_⟩
  intro hz1 hz2; clear hz1 hz2
  refine ⟨[.sl (.own c2) 1 ((dcB dcA).map byteV), .sl .full 1 (([1, 1, 97, 0, 2, 1, 0] : List UInt8).map byteV)], LeL.refl _, same _ _ _ _ dcA_bytes _ _ ?_⟩
  intro hz1 hz2; clear hz1 hz2
  refine ⟨[dcX dcA, dcX dcA], ⟨Le.refl _, le_dcA, trivial⟩, SameDecl_con dcA _ _ ?_⟩
  intro hz1 hz2; clear hz1 hz2
  refine ⟨[.sl (.own c3) 1 ((lvB lvSucc2).map byteV), .sl .full 1 (([3, 1, 2] : List UInt8).map byteV)], LeL.refl _, same _ _ _ _ succ2_bytes _ _ ?_⟩
  intro hz1 hz2; clear hz1 hz2
  refine ⟨[dcX dcA], ⟨le_dcA, trivial⟩, (formed_con dcA).as dcA_formed _ _ ?_⟩
  intro hz1 hz2; clear hz1 hz2
  refine ⟨[dcX dcA], ⟨le_dcA, trivial⟩, packHash_con dcA _ _ ?_⟩
  intro hz1 hz2; clear hz1 hz2
  refine ifB_f (fun h => ?_) ?_
  · rw [hashA] at h; revert h; decide
  · exact ⟨_, H, Le.refl _, .cons _ (.cons _ (.cons _ (List.Sublist.refl _))), hq⟩
end Go.Proofs.YtnjnfegafmhgnaaGreatDoor
