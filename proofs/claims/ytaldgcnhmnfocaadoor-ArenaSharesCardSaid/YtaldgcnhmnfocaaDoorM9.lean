/-
  Texts put together: G1, G2, G3, G4, G5, G6, G7, G8, G9, G10, G11, G12. No condition.
-/
import Derived.Test.YtaldgcnhmnfocaaDoorM7
/-
  What is taken from bytes: numbers, names, levels, terms, declarations, in plain lists. No condition.
-/
namespace Go.Proofs.YtaldgcnhmnfocaaDoor
open Go.RowKit

/-- what is left to take; was something lost; how many nodes there may be still -/
structure Tk where
  rest : List UInt8
  lost : Bool
  left : Int
def Tk.lose (s : Tk) : Tk := ⟨s.rest, true, s.left⟩
def tkNum (most : Nat) (s : Tk) : Nat × Tk :=
  if (dec s.rest).2 ≠ 0 ∧ (dec s.rest).1 ≤ most then ((dec s.rest).1, ⟨s.rest.drop (dec s.rest).2, s.lost, s.left⟩) else (0, s.lose)
/-- so many bytes -/
def tkBy (n : Nat) (s : Tk) : List UInt8 × Tk := if s.lost = true ∨ s.rest.length < n then ([], s.lose) else (s.rest.take n, ⟨s.rest.drop n, s.lost, s.left⟩)
def tkText (s : Tk) : List UInt8 × Tk := tkBy (tkNum 40 s).1 (tkNum 40 s).2
def tkNode (s : Tk) : Tk := ⟨s.rest, s.lost || decide (s.left - 1 < 0), s.left - 1⟩
/-- so many, one behind the other -/
def rpt {α : Type} (f : Tk → α × Tk) : Nat → Tk → List α × Tk
  | 0, s => ([], s)
  | n + 1, s => ((rpt f n s).1 ++ [(f (rpt f n s).2).1], (f (rpt f n s).2).2)
theorem rpt_len {α : Type} (f : Tk → α × Tk) (n : Nat) (s : Tk) : (rpt f n s).1.length = n := by
  induction n with
  | zero => rfl
  | succ n ih => simp [rpt, ih]
def lv0 : Lv := .mk 0 0 []
def wideOf (k : Nat) : Nat := [0, 0, 0, 1, 2, 2].getD k 0
/-- a level's number, where it has one -/
def lvNumT (s : Nat × Tk) : Nat × Tk := if s.1 = 1 ∨ s.1 = 2 then tkNum 100 s.2 else (0, s.2)
def tkLevel : Nat → Tk → Lv × Tk
  | 0, s => (lv0, tkNode s)
  | N + 1, s =>
    if (tkNode s).lost = true then (lv0, tkNode s) else
      (.mk (tkNum 5 (tkNode s)).1 (lvNumT (tkNum 5 (tkNode s))).1 (rpt (tkLevel N) (wideOf (tkNum 5 (tkNode s)).1) (lvNumT (tkNum 5 (tkNode s))).2).1,
        (rpt (tkLevel N) (wideOf (tkNum 5 (tkNode s)).1) (lvNumT (tkNum 5 (tkNode s))).2).2)
def tmWide (k : Nat) : Nat := [0, 0, 0, 0, 2, 2, 2, 3].getD k 0
/-- what stands at a term's head: its kind, number, name; how many levels -/
structure Hd where
  kind : Nat
  n : Nat
  name : List UInt8
  lvs : Nat
  s : Tk
def tkHd (s : Tk) : Hd :=
  if (tkNum 7 s).1 = 1 then ⟨1, (tkNum 1099511627776 (tkNum 7 s).2).1, [], 0, (tkNum 1099511627776 (tkNum 7 s).2).2⟩
  else if (tkNum 7 s).1 = 2 then ⟨2, 0, [], 1, (tkNum 7 s).2⟩
  else if (tkNum 7 s).1 = 3 then ⟨3, 0, (tkText (tkNum 7 s).2).1, (tkNum 4 (tkText (tkNum 7 s).2).2).1, (tkNum 4 (tkText (tkNum 7 s).2).2).2⟩
  else ⟨(tkNum 7 s).1, 0, [], 0, (tkNum 7 s).2⟩
def tkTerm : Nat → Tk → Tm × Tk
  | 0, s => (tm0, tkNode s)
  | N + 1, s =>
    if (tkNode s).lost = true then (tm0, tkNode s) else
      (.mk (tkHd (tkNode s)).kind (tkHd (tkNode s)).n (tkHd (tkNode s)).name (rpt (tkLevel N) (tkHd (tkNode s)).lvs (tkHd (tkNode s)).s).1
          (rpt (tkTerm N) (tmWide (tkHd (tkNode s)).kind) (rpt (tkLevel N) (tkHd (tkNode s)).lvs (tkHd (tkNode s)).s).2).1,
        (rpt (tkTerm N) (tmWide (tkHd (tkNode s)).kind) (rpt (tkLevel N) (tkHd (tkNode s)).lvs (tkHd (tkNode s)).s).2).2)
def tkWhole (s : Tk) : Tm × Tk := tkTerm 2000 ⟨s.rest, s.lost, 2000⟩
def tkCtor (s : Tk) : Ct × Tk := (⟨(tkText s).1, (tkWhole (tkText s).2).1⟩, (tkWhole (tkText s).2).2)
/-- a declaration's value, or its family -/
structure Vl where
  value : Tm
  fixed : Nat
  ctors : List Ct
  s : Tk
def tkVal (k : Nat) (s : Tk) : Vl :=
  if 2 ≤ k ∧ k ≤ 4 then ⟨(tkWhole s).1, 0, [], (tkWhole s).2⟩
  else if k = 5 then ⟨tm0, (tkNum 16 s).1, (rpt tkCtor (tkNum 8 (tkNum 16 s).2).1 (tkNum 8 (tkNum 16 s).2).2).1, (rpt tkCtor (tkNum 8 (tkNum 16 s).2).1 (tkNum 8 (tkNum 16 s).2).2).2⟩
  else ⟨tm0, 0, [], s⟩
def tkDecl (s : Tk) : Dc × Tk :=
  let k := tkNum 5 s
  let nm := tkText k.2
  let p := tkNum 4 nm.2
  let ty := tkWhole p.2
  let v := tkVal k.1 ty.2
  (⟨k.1, p.1, nm.1, ty.1, v.value, v.fixed, v.ctors⟩, v.s)

/-! numbers that are taken -/
theorem tkNum_le (most : Nat) (s : Tk) : (tkNum most s).1 ≤ most := by
  unfold tkNum; split
  · rename_i h; exact h.2
  · exact Nat.zero_le _
theorem tkNum_left (most : Nat) (s : Tk) : (tkNum most s).2.left = s.left := by unfold tkNum Tk.lose; split <;> rfl
theorem tkNum_lost (most : Nat) (s : Tk) : s.lost = true → (tkNum most s).2.lost = true := by unfold tkNum Tk.lose; split <;> intro h <;> simp [h]
theorem tkBy_left (n : Nat) (s : Tk) : (tkBy n s).2.left = s.left := by unfold tkBy Tk.lose; split <;> rfl
theorem tkBy_lost (n : Nat) (s : Tk) : s.lost = true → (tkBy n s).2.lost = true := by unfold tkBy Tk.lose; split <;> intro h <;> simp [h]
theorem tkText_left (s : Tk) : (tkText s).2.left = s.left := by unfold tkText; rw [tkBy_left, tkNum_left]
theorem tkText_lost (s : Tk) (h : s.lost = true) : (tkText s).2.lost = true := by unfold tkText; exact tkBy_lost _ _ (tkNum_lost _ _ h)
theorem rest_num (most : Nat) (s : Tk) : (tkNum most s).2.rest.length ≤ s.rest.length := by unfold tkNum Tk.lose; split <;> simp
theorem tkHd_left (s : Tk) : (tkHd s).s.left = s.left := by
  unfold tkHd
  split
  · simp only [tkNum_left]
  · split
    · simp only [tkNum_left]
    · split
      · simp only [tkNum_left, tkText_left]
      · simp only [tkNum_left]
theorem tkHd_lost (s : Tk) (h : s.lost = true) : (tkHd s).s.lost = true := by
  have h0 := tkNum_lost 7 s h
  unfold tkHd
  generalize tkNum 7 s = r at h0
  by_cases h1 : r.1 = 1
  · rw [if_pos h1]
    exact tkNum_lost 1099511627776 r.2 h0
  · rw [if_neg h1]
    by_cases h2 : r.1 = 2
    · rw [if_pos h2]
      exact h0
    · rw [if_neg h2]
      by_cases h3 : r.1 = 3
      · rw [if_pos h3]
        exact tkNum_lost 4 (tkText r.2).2 (tkText_lost _ h0)
      · rw [if_neg h3]
        exact h0
theorem tkHd_kind (s : Tk) : (tkHd s).kind ≤ 7 := by
  have h := tkNum_le 7 s
  unfold tkHd
  split
  · show 1 ≤ 7; decide
  · split
    · show 2 ≤ 7; decide
    · split
      · show 3 ≤ 7; decide
      · exact h
theorem tkHd_lvs (s : Tk) : (tkHd s).lvs ≤ 4 ∧ ((tkHd s).lvs ≠ 0 → tmWide (tkHd s).kind = 0) := by
  unfold tkHd
  split
  · exact ⟨Nat.zero_le _, fun h => absurd rfl h⟩
  · split
    · exact ⟨(by show 1 ≤ 4; decide), fun _ => rfl⟩
    · split
      · exact ⟨tkNum_le _ _, fun _ => rfl⟩
      · exact ⟨Nat.zero_le _, fun h => absurd rfl h⟩
theorem lvNumT_left (s : Nat × Tk) : (lvNumT s).2.left = s.2.left := by unfold lvNumT; split; exact tkNum_left _ _; rfl
theorem lvNumT_lost (s : Nat × Tk) (h : s.2.lost = true) : (lvNumT s).2.lost = true := by unfold lvNumT; split; exact tkNum_lost _ _ h; exact h
theorem wideOf_le (k : Nat) : wideOf k ≤ 2 := by
  match k with
  | 0 | 1 | 2 | 3 | 4 | 5 => decide
  | k + 6 => exact Nat.zero_le _
theorem tmWide_le (k : Nat) : tmWide k ≤ 3 := by
  match k with
  | 0 | 1 | 2 | 3 | 4 | 5 | 6 | 7 => decide
  | k + 8 => exact Nat.zero_le _

/-! how far the counter of nodes can go -/
/-- what may still be spent -/
def Tk.pot (s : Tk) : Int := if s.lost = true then s.left else s.left - 7 * max s.left 0
theorem Tk.pot_le (s : Tk) : s.pot ≤ s.left := by unfold Tk.pot; split <;> omega
/-- a step that leaves the counter as it is -/
theorem pot_same {s s' : Tk} (h : s'.left = s.left) (k : s.lost = true → s'.lost = true) : s.pot ≤ s'.pot := by
  unfold Tk.pot
  rw [h]
  cases hs : s.lost with
  | true => simp [k hs]
  | false =>
    cases hs' : s'.lost with
    | true => simp; omega
    | false => simp
theorem tkNode_pot (s : Tk) : s.pot - 1 ≤ (tkNode s).pot ∧ ((tkNode s).lost = false → s.pot + 6 ≤ (tkNode s).pot ∧ s.lost = false ∧ 1 ≤ s.left) := by
  unfold tkNode Tk.pot
  cases hs : s.lost with
  | true => simp
  | false =>
    by_cases h : s.left - 1 < 0
    · simp [h]; omega
    · simp [h]; omega
/-- a taker that takes one node -/
structure Stp {α : Type} (N : Nat) (f : Tk → α × Tk) : Prop where
  left : ∀ s : Tk, (f s).2.left ≤ s.left
  pot : ∀ s : Tk, s.pot - 1 ≤ (f s).2.pot
theorem rpt_pot {α : Type} {N : Nat} {f : Tk → α × Tk} (h : Stp N f) (n : Nat) (s : Tk) : (rpt f n s).2.left ≤ s.left ∧ s.pot - n ≤ (rpt f n s).2.pot := by
  induction n with
  | zero => simp [rpt]
  | succ n ih =>
    have h1 := h.left (rpt f n s).2
    have h2 := h.pot (rpt f n s).2
    simp only [rpt]
    constructor <;> omega
theorem tkNode_left (s : Tk) : (tkNode s).left = s.left - 1 := rfl
theorem stp_level : ∀ N : Nat, Stp N (tkLevel N)
  | 0 => ⟨fun s => by simp only [tkLevel]; rw [tkNode_left]; omega, fun s => (tkNode_pot s).1⟩
  | N + 1 => by
    have ih := stp_level N
    refine ⟨fun s => ?_, fun s => ?_⟩
    · simp only [tkLevel]
      split
      · simp only [tkNode_left]; omega
      · have h1 := (rpt_pot ih (wideOf (tkNum 5 (tkNode s)).1) (lvNumT (tkNum 5 (tkNode s))).2).1
        rw [lvNumT_left, tkNum_left, tkNode_left] at h1
        simp only; omega
    · simp only [tkLevel]
      split
      · exact (tkNode_pot s).1
      · rename_i hl
        have h1 := (rpt_pot ih (wideOf (tkNum 5 (tkNode s)).1) (lvNumT (tkNum 5 (tkNode s))).2).2
        have h2 := wideOf_le (tkNum 5 (tkNode s)).1
        have h3 := ((tkNode_pot s).2 (by simpa using hl)).1
        have h4 : (tkNode s).pot ≤ (lvNumT (tkNum 5 (tkNode s))).2.pot := pot_same (by rw [lvNumT_left, tkNum_left]) fun h => lvNumT_lost _ (tkNum_lost _ _ h)
        simp only; omega
theorem stp_term : ∀ N : Nat, Stp N (tkTerm N)
  | 0 => ⟨fun s => by simp only [tkTerm]; rw [tkNode_left]; omega, fun s => (tkNode_pot s).1⟩
  | N + 1 => by
    have ih := stp_term N
    have il := stp_level N
    refine ⟨fun s => ?_, fun s => ?_⟩
    · simp only [tkTerm]
      split
      · simp only [tkNode_left]; omega
      · have h1 := (rpt_pot il (tkHd (tkNode s)).lvs (tkHd (tkNode s)).s).1
        have h2 := (rpt_pot ih (tmWide (tkHd (tkNode s)).kind) (rpt (tkLevel N) (tkHd (tkNode s)).lvs (tkHd (tkNode s)).s).2).1
        rw [tkHd_left, tkNode_left] at h1
        simp only; omega
    · simp only [tkTerm]
      split
      · exact (tkNode_pot s).1
      · rename_i hl
        have h1 := (rpt_pot il (tkHd (tkNode s)).lvs (tkHd (tkNode s)).s).2
        have h2 := (rpt_pot ih (tmWide (tkHd (tkNode s)).kind) (rpt (tkLevel N) (tkHd (tkNode s)).lvs (tkHd (tkNode s)).s).2).2
        have h3 := ((tkNode_pot s).2 (by simpa using hl)).1
        have h4 : (tkNode s).pot ≤ (tkHd (tkNode s)).s.pot := pot_same (tkHd_left _) fun h => tkHd_lost _ h
        have h5 := (tkHd_lvs (tkNode s)).1
        have h6 := tmWide_le (tkHd (tkNode s)).kind
        simp only; omega
/-- where the counter stands well -/
structure Tk.ok (s : Tk) : Prop where
  up : s.left ≤ 2000
  lo : -20000 ≤ s.pot
theorem Tk.ok.i64 {s : Tk} (h : s.ok) : in64 (s.left - 1) := by
  have := h.up; have := h.lo; have := s.pot_le
  exact in64_of (by omega) (by omega)
theorem Tk.ok.same {s s' : Tk} (h : s.ok) (hl : s'.left = s.left) (k : s.lost = true → s'.lost = true) : s'.ok := ⟨by rw [hl]; exact h.up, Int.le_trans h.lo (pot_same hl k)⟩
theorem Tk.ok.num {s : Tk} (h : s.ok) (most : Nat) : (tkNum most s).2.ok := h.same (tkNum_left _ _) (tkNum_lost _ _)
theorem Tk.ok.text {s : Tk} (h : s.ok) : (tkText s).2.ok := h.same (tkText_left _) (tkText_lost _)
theorem ok_begin (bs : List UInt8) (q : Bool) : (⟨bs, q, 2000⟩ : Tk).ok := ⟨by simp, by unfold Tk.pot; cases q <;> simp <;> omega⟩
end Go.Proofs.YtaldgcnhmnfocaaDoor

/-
  What is written is taken so: levels, terms, declarations, in plain lists. No condition.
-/
namespace Go.Proofs.YtaldgcnhmnfocaaDoor
open Go.RowKit

theorem tkNum_enc {n most : Nat} (h : n ≤ most) (h40 : n ≤ 1099511627776) (r : List UInt8) (q : Bool) (L : Int) : tkNum most ⟨enc n ++ r, q, L⟩ = (n, ⟨r, q, L⟩) := by
  have hp := enc_pos n
  unfold tkNum
  simp only [enc_dec h40]
  rw [if_pos ⟨by omega, h⟩]
  simp
theorem tkText_stB {nm : List UInt8} (h : nm.length ≤ 40) (r : List UInt8) (L : Int) : tkText ⟨stB nm ++ r, false, L⟩ = (nm, ⟨r, false, L⟩) := by
  unfold tkText stB
  rw [List.append_assoc, tkNum_enc h (by omega)]
  unfold tkBy
  rw [if_neg (by simp)]
  simp
theorem rpt_rows {α : Type} {f : Tk → α × Tk} {B : α → List UInt8} {c : α → Nat} (xs : List α) (h : ∀ x ∈ xs, ∀ (r : List UInt8) (L : Int), (c x : Int) ≤ L → f ⟨B x ++ r, false, L⟩ = (x, ⟨r, false, L - c x⟩)) (r : List UInt8) (L : Int) (hL : ((xs.map c).sum : Int) ≤ L) :
    rpt f xs.length ⟨(xs.map B).flatten ++ r, false, L⟩ = (xs, ⟨r, false, L - (xs.map c).sum⟩) := by
  have key : ∀ k, k ≤ xs.length → rpt f k ⟨(xs.map B).flatten ++ r, false, L⟩ = (xs.take k, ⟨((xs.drop k).map B).flatten ++ r, false, L - ((xs.take k).map c).sum⟩) := by
    intro k
    induction k with
    | zero => intro _; simp [rpt]
    | succ k ih =>
      intro hk
      have hlt : k < xs.length := by omega
      have hs : ((xs.take (k + 1)).map c).sum = ((xs.take k).map c).sum + c xs[k] := by rw [List.take_succ_eq_append_getElem hlt, List.map_append, List.sum_append_nat]; rfl
      have hle : ((xs.take (k + 1)).map c).sum ≤ (xs.map c).sum := by
        have e : xs.map c = (xs.take (k + 1)).map c ++ (xs.drop (k + 1)).map c := by rw [← List.map_append, List.take_append_drop]
        rw [e, List.sum_append_nat]; omega
      simp only [rpt, ih (by omega)]
      rw [List.drop_eq_getElem_cons hlt]
      simp only [List.map_cons, List.flatten_cons, List.append_assoc]
      rw [h _ (List.getElem_mem hlt) _ _ (by omega), hs, List.take_succ_eq_append_getElem hlt]
      simp only [Prod.mk.injEq, Tk.mk.injEq, true_and]
      omega
  have := key xs.length (Nat.le_refl _)
  simpa using this
/-- the same, whatever the counter -/
theorem rpt_rows' {α : Type} {f : Tk → α × Tk} {B : α → List UInt8} (xs : List α) (h : ∀ x ∈ xs, ∀ (r : List UInt8) (L : Int), ∃ L', f ⟨B x ++ r, false, L⟩ = (x, ⟨r, false, L'⟩)) (r : List UInt8) (L : Int) :
    ∃ L', rpt f xs.length ⟨(xs.map B).flatten ++ r, false, L⟩ = (xs, ⟨r, false, L'⟩) := by
  have key : ∀ k, k ≤ xs.length → ∃ L', rpt f k ⟨(xs.map B).flatten ++ r, false, L⟩ = (xs.take k, ⟨((xs.drop k).map B).flatten ++ r, false, L'⟩) := by
    intro k
    induction k with
    | zero => intro _; exact ⟨L, by simp [rpt]⟩
    | succ k ih =>
      intro hk
      have hlt : k < xs.length := by omega
      obtain ⟨L1, h1⟩ := ih (by omega)
      obtain ⟨L2, h2⟩ := h _ (List.getElem_mem hlt) (((xs.drop (k + 1)).map B).flatten ++ r) L1
      refine ⟨L2, ?_⟩
      simp only [rpt, h1]
      rw [List.drop_eq_getElem_cons hlt]
      simp only [List.map_cons, List.flatten_cons, List.append_assoc]
      rw [h2, List.take_succ_eq_append_getElem hlt]
  obtain ⟨L', h'⟩ := key xs.length (Nat.le_refl _)
  exact ⟨L', by simpa using h'⟩
theorem lvBL_flat : ∀ ls : List Lv, lvBL ls = (ls.map lvB).flatten
  | [] => rfl
  | l :: ls => by rw [lvBL, lvBL_flat ls]; simp
theorem tmBL_flat : ∀ ls : List Tm, tmBL ls = (ls.map tmB).flatten
  | [] => rfl
  | l :: ls => by rw [tmBL, tmBL_flat ls]; simp
theorem lvNodes_sum : ∀ ls : List Lv, Lv.nodesL ls = (ls.map Lv.nodes).sum
  | [] => rfl
  | l :: ls => by rw [Lv.nodesL, lvNodes_sum ls]; simp
theorem tmNodes_sum : ∀ ls : List Tm, Tm.nodesL ls = (ls.map Tm.nodes).sum
  | [] => rfl
  | l :: ls => by rw [Tm.nodesL, tmNodes_sum ls]; simp
theorem lvNode_cases {n k m : Int} {len : Nat} (h : lvNode n k m len = true) : (k = 1 ∧ len = 0) ∨ (k = 2 ∧ len = 0) ∨ (k = 3 ∧ m = 0 ∧ len = 1) ∨ ((k = 4 ∨ k = 5) ∧ m = 0 ∧ len = 2) := by
  unfold lvNode at h
  by_cases h1 : k = 1
  · simp [h1] at h; exact Or.inl ⟨h1, by simp [h]⟩
  · by_cases h2 : k = 2
    · simp [h2] at h; exact Or.inr (Or.inl ⟨h2, by simp [h]⟩)
    · by_cases h3 : k = 3
      · simp [h3] at h; exact Or.inr (Or.inr (Or.inl ⟨h3, h⟩))
      · by_cases h4 : k = 4 ∨ k = 5
        · simp [h1, h2, h3, h4] at h; exact Or.inr (Or.inr (Or.inr ⟨h4, h⟩))
        · simp [h1, h2, h3, h4] at h
theorem node_next {r : List UInt8} {L : Int} (h : 1 ≤ L) : tkNode ⟨r, false, L⟩ = ⟨r, false, L - 1⟩ := by
  unfold tkNode
  simp
  omega
theorem lv_back {n : Int} (hn4 : n ≤ 4) : ∀ (N : Nat) (l : Lv) (r : List UInt8) (L : Int), l.nodes ≤ N → (l.nodes : Int) ≤ L → lvFit n l = true → tkLevel N ⟨lvB l ++ r, false, L⟩ = (l, ⟨r, false, L - l.nodes⟩) := by
  intro N
  induction N with
  | zero => intro l _ _ h; have := l.nodes_pos; omega
  | succ N ih =>
    intro l r L hN hL hfit
    have hnd := l.nodes_eq
    have hin := lvFit_in hn4 hfit
    have hnode := hfit
    rw [lvFit_parts, Bool.and_eq_true] at hnode
    have hc := lvNode_cases hnode.1
    have e1 : tkNum 5 ⟨lvB l ++ r, false, L - 1⟩ = (l.kind.toNat, ⟨(if l.kind = 1 ∨ l.kind = 2 then enc l.n.toNat else []) ++ (lvBL l.args ++ r), false, L - 1⟩) := by
      rw [lvB_eq, List.append_assoc, List.append_assoc]
      exact tkNum_enc (by omega) (by omega) _ _ _
    have e2 : lvNumT (l.kind.toNat, ⟨(if l.kind = 1 ∨ l.kind = 2 then enc l.n.toNat else []) ++ (lvBL l.args ++ r), false, L - 1⟩) = (l.n.toNat, ⟨lvBL l.args ++ r, false, L - 1⟩) := by
      unfold lvNumT
      by_cases hk : l.kind = 1 ∨ l.kind = 2
      · rw [if_pos (by simp only; omega), if_pos hk]
        exact tkNum_enc (by omega) (by omega) _ _ _
      · rw [if_neg (by simp only; omega), if_neg hk]
        have : l.n = 0 := by omega
        simp [this]
    have e3 : wideOf l.kind.toNat = l.args.length := by
      rcases hc with ⟨h1, h2⟩ | ⟨h1, h2⟩ | ⟨h1, _, h2⟩ | ⟨h1 | h1, _, h2⟩ <;> rw [h1, h2] <;> rfl
    have e4 := rpt_rows (f := tkLevel N) (B := lvB) (c := Lv.nodes) l.args (fun x hx r' L' hl => ih x r' L' (by have := Lv.nodesL_mem hx; omega) hl (lvFit_arg hfit hx)) r (L - 1) (by rw [← lvNodes_sum]; omega)
    rw [← lvBL_flat, ← lvNodes_sum] at e4
    have hno : (tkNode ⟨lvB l ++ r, false, L⟩) = ⟨lvB l ++ r, false, L - 1⟩ := node_next (by omega)
    simp only [tkLevel, hno, e1, e2, e3, e4]
    rw [if_neg (by decide)]
    refine Prod.ext ?_ ?_
    · show Lv.mk _ _ _ = l
      rw [show ((l.kind.toNat : Nat) : Int) = l.kind by omega, show ((l.n.toNat : Nat) : Int) = l.n by omega, Lv.eta]
    · simp only [Tk.mk.injEq, true_and]; omega
theorem tmNode_cases {v k m : Int} {nm : List UInt8} {ls xs : Nat} (h : tmNode v k m nm ls xs = true) : (k = 1 ∧ 0 ≤ m ∧ nm = [] ∧ ls = 0 ∧ xs = 0) ∨ (k = 2 ∧ m = 0 ∧ nm = [] ∧ ls = 1 ∧ xs = 0) ∨ (k = 3 ∧ m = 0 ∧ ls ≤ 4 ∧ xs = 0) ∨ ((k = 4 ∨ k = 5 ∨ k = 6) ∧ m = 0 ∧ nm = [] ∧ ls = 0 ∧ xs = 2) ∨ (k = 7 ∧ m = 0 ∧ nm = [] ∧ ls = 0 ∧ xs = 3) := by
  unfold tmNode at h
  by_cases h1 : k = 1
  · simp [h1] at h; exact Or.inl ⟨h1, h.1.1.1.1, by simp [h], h.1.2, h.2⟩
  · by_cases h2 : k = 2
    · simp [h2] at h; exact Or.inr (Or.inl ⟨h2, h.1.1.1, by simp [h], h.1.2, h.2⟩)
    · by_cases h3 : k = 3
      · simp [h3] at h; exact Or.inr (Or.inr (Or.inl ⟨h3, h.1.1.1, h.1.2, h.2⟩))
      · by_cases h4 : k = 4 ∨ k = 5 ∨ k = 6
        · simp [h1, h2, h3, h4] at h; exact Or.inr (Or.inr (Or.inr (Or.inl ⟨h4, h.1.1.1, by simp [h], h.1.2, h.2⟩)))
        · by_cases h7 : k = 7
          · simp [h7] at h; exact Or.inr (Or.inr (Or.inr (Or.inr ⟨h7, h.1.1.1, by simp [h], h.1.2, h.2⟩)))
          · simp [h1, h2, h3, h4, h7] at h
theorem hd_back {v : Int} {l : Tm} (hp : Pok l) (h : tmNode v l.kind l.n l.name l.levels.length l.args.length = true) (r : List UInt8) (L : Int) :
    tkHd ⟨enc l.kind.toNat ++ (tmHd l ++ r), false, L⟩ = ⟨l.kind.toNat, l.n.toNat, l.name, l.levels.length, ⟨r, false, L⟩⟩ := by
  have e1 : tkNum 7 ⟨enc l.kind.toNat ++ (tmHd l ++ r), false, L⟩ = (l.kind.toNat, ⟨tmHd l ++ r, false, L⟩) := tkNum_enc (by have := hp.kind; omega) (by have := hp.kind; omega) _ _ _
  unfold tkHd
  rw [e1]
  rcases tmNode_cases h with ⟨h1, h2, h3, h4, h5⟩ | ⟨h1, h2, h3, h4, h5⟩ | ⟨h1, h2, h4, h5⟩ | ⟨h1, h2, h3, h4, h5⟩ | ⟨h1, h2, h3, h4, h5⟩
  · have hm := (hp.num h1).2
    have e2 : tmHd l = enc l.n.toNat := by unfold tmHd; rw [if_pos h1]
    rw [if_pos (by simp only [h1]; rfl), e2]
    simp only
    rw [tkNum_enc (by omega) (by omega), h1, h3, h4]
    rfl
  · have e2 : tmHd l = [] := by unfold tmHd; rw [if_neg (by omega), if_neg (by omega)]
    rw [if_neg (by simp only [h1]; decide), if_pos (by simp only [h1]; rfl), e2, h1, h2, h3, h4]
    rfl
  · have hnm := hp.name
    have e2 : tmHd l = stB l.name ++ enc l.levels.length := by unfold tmHd; rw [if_neg (by omega), if_pos h1]
    rw [if_neg (by simp only [h1]; decide), if_neg (by simp only [h1]; decide), if_pos (by simp only [h1]; rfl), e2]
    simp only [List.append_assoc]
    rw [tkText_stB hnm]
    simp only
    rw [tkNum_enc (by omega) (by omega), h1, h2]
    rfl
  · have e2 : tmHd l = [] := by unfold tmHd; rw [if_neg (by omega), if_neg (by omega)]
    rw [if_neg (by simp only; omega), if_neg (by simp only; omega), if_neg (by simp only; omega), e2, h2, h3, h4]
    rfl
  · have e2 : tmHd l = [] := by unfold tmHd; rw [if_neg (by omega), if_neg (by omega)]
    rw [if_neg (by simp only; omega), if_neg (by simp only; omega), if_neg (by simp only; omega), e2, h2, h3, h4]
    rfl
theorem tmFitL_mem {n k : Int} : ∀ {ts : List Tm} {i : Nat} {v : Int} {a : Tm}, tmFitL n k ts i v = true → a ∈ ts → ∃ v', tmFit n a v' = true
  | t :: ts, i, v, a, h, ha => by
    simp only [tmFitL, Bool.and_eq_true] at h
    rcases List.mem_cons.1 ha with rfl | ha
    · exact ⟨_, h.1⟩
    · exact tmFitL_mem h.2 ha
theorem tm_back {n : Int} (hn4 : n ≤ 4) : ∀ (N : Nat) (l : Tm) (v : Int) (r : List UInt8) (L : Int), l.nodes ≤ N → (l.nodes : Int) ≤ L → tmFit n l v = true → PokAll l → tkTerm N ⟨tmB l ++ r, false, L⟩ = (l, ⟨r, false, L - l.nodes⟩) := by
  intro N
  induction N with
  | zero => intro l _ _ _ h; have := l.nodes_pos; omega
  | succ N ih =>
    intro l v r L hN hL hfit hpk
    have hnd := l.nodes_eq
    have hp := hpk.pok
    have hf := hfit
    rw [tmFit_eq] at hf
    simp only [Bool.and_eq_true] at hf
    obtain ⟨⟨h1, h2⟩, h3⟩ := hf
    have hk := hp.kind
    have e1 := hd_back hp h1 (lvBL l.levels ++ (tmBL l.args ++ r)) (L - 1)
    have e2 := rpt_rows (f := tkLevel N) (B := lvB) (c := Lv.nodes) l.levels (fun x hx r' L' hl => lv_back hn4 N x r' L' (by have := Lv.nodesL_mem hx; omega) hl (lvRight_fit (List.all_eq_true.1 h2 x hx))) (tmBL l.args ++ r) (L - 1) (by rw [← lvNodes_sum]; omega)
    rw [← lvBL_flat, ← lvNodes_sum] at e2
    have e3 := rpt_rows (f := tkTerm N) (B := tmB) (c := Tm.nodes) l.args (fun x hx r' L' hl => by
      obtain ⟨v', hv'⟩ := tmFitL_mem h3 hx
      exact ih x v' r' L' (by have := Tm.nodesL_mem hx; omega) hl hv' (hpk.arg hx)) r (L - 1 - Lv.nodesL l.levels) (by rw [← tmNodes_sum]; omega)
    rw [← tmBL_flat, ← tmNodes_sum] at e3
    have e4 : tmWide l.kind.toNat = l.args.length := by
      rcases tmNode_cases h1 with ⟨h1, _, _, _, h2⟩ | ⟨h1, _, _, _, h2⟩ | ⟨h1, _, _, h2⟩ | ⟨h1 | h1 | h1, _, _, _, h2⟩ | ⟨h1, _, _, _, h2⟩ <;> rw [h1, h2] <;> rfl
    have hno : tkNode ⟨tmB l ++ r, false, L⟩ = ⟨enc l.kind.toNat ++ (tmHd l ++ (lvBL l.levels ++ (tmBL l.args ++ r))), false, L - 1⟩ := by
      rw [node_next (by omega), tmB_eq]; simp
    simp only [tkTerm, hno, e1, e2, e4, e3]
    rw [if_neg (by decide)]
    have hm : 0 ≤ l.n := by rcases tmNode_cases h1 with ⟨_, h, _⟩ | ⟨_, h, _⟩ | ⟨_, h, _⟩ | ⟨_, h, _⟩ | ⟨_, h, _⟩ <;> omega
    refine Prod.ext ?_ ?_
    · show Tm.mk _ _ _ _ _ = l
      rw [show ((l.kind.toNat : Nat) : Int) = l.kind by omega, show ((l.n.toNat : Nat) : Int) = l.n by omega, Tm.eta]
    · simp only [Tk.mk.injEq, true_and]; omega
end Go.Proofs.YtaldgcnhmnfocaaDoor

/-
  An application's bytes, in plain lists; what the laws' fixed texts come to. No condition.
-/
namespace Go.Proofs.YtaldgcnhmnfocaaDoor
open Go.RowKit

mutual
theorem big_nodes : ∀ t : Tm, t.nodes ≤ t.big
  | .mk k n nm ls xs => by
    have := big_nodesL xs
    simp only [Tm.nodes, Tm.big]; omega
theorem big_nodesL : ∀ ts : List Tm, Tm.nodesL ts ≤ Tm.bigL ts
  | [] => Nat.le_refl _
  | t :: ts => by
    have := big_nodes t
    have := big_nodesL ts
    simp only [Tm.nodesL, Tm.bigL]; omega
end
def tmApp (a b : Tm) : Tm := .mk 4 0 [] [] [a, b]
theorem app_ok {a b : Tm} (ha : a.nodes ≤ 900) (hb : b.nodes ≤ 900) : packOk (tmApp a b) = (packOk a && packOk b) := by
  have h3 : (tmApp a b).nodes ≤ 2000 := by simp [tmApp, Tm.nodes, Tm.nodesL, Lv.nodesL]; omega
  have h1 : a.nodes ≤ 2000 := by omega
  have h2 : b.nodes ≤ 2000 := by omega
  unfold packOk tmRight
  simp only [h1, h2, h3, decide_true]
  have e1 : tmFit 4 (tmApp a b) (min 1099511627776 1125899906842624) = (tmFit 4 a (min 1099511627776 1125899906842624) && tmFit 4 b (min 1099511627776 1125899906842624)) := by
    simp [tmApp, tmFit, tmFitL, tmNode, lvRightL, tmBind]
  have e2 : tmNear (tmApp a b) = (tmNear a && tmNear b) := by simp [tmApp, tmNear, tmNearL]
  rw [e1, e2]
  generalize tmFit 4 a _ = p
  generalize tmFit 4 b _ = q
  generalize tmNear a = u
  generalize tmNear b = v
  cases p <;> cases q <;> cases u <;> cases v <;> rfl
theorem app_bytes (a b : Tm) : tmB (tmApp a b) = 4 :: (tmB a ++ tmB b) := by
  simp [tmApp, tmB, tmBL, lvBL, enc_lt]

/-! the texts that the document fixes -/
def lvNum0 : Lv := .mk 1 0 []
def tmSort0 : Tm := .mk 2 0 [] [lvNum0] []
def dcA : Dc := ⟨1, 0, [97], tmSort0, tm0, 0, []⟩
def lvSucc2 : Lv := .mk 3 0 [.mk 1 2 []]
theorem sort0_ok : packOk tmSort0 = true := by decide
theorem sort0_bytes : tmB tmSort0 = [2, 1, 0] := by simp [tmSort0, lvNum0, tmB, tmBL, lvB, lvBL, enc_lt]
theorem dcA_formed : formed dcA = true := by decide
theorem succ2_right : lvRight 4 lvSucc2 = true := by decide
theorem succ2_bytes : lvB lvSucc2 = [3, 1, 2] := by simp [lvSucc2, lvB, lvBL, enc_lt]
def tmVar5 : Tm := .mk 1 5 [] [] []
theorem var5_ok : packOk tmVar5 = true := by decide
theorem var5_bytes : tmB tmVar5 = [1, 5] := by simp [tmVar5, tmB, tmBL, lvBL, enc_lt]
theorem var5_take : tkTerm 2000 ⟨[1, 5, 9], false, 2000⟩ = (tmVar5, ⟨[9], false, 1999⟩) := by
  have h := packOk_pok var5_ok
  have h2 := tm_back (n := 4) (by decide) 2000 tmVar5 100 [9] 2000 (by decide) (by decide) (by decide) h.1
  rw [var5_bytes] at h2
  exact h2
theorem succ2_take : tkLevel 2000 ⟨[3, 1, 2], false, 2000⟩ = (lvSucc2, ⟨[], false, 1998⟩) := by
  have h2 := lv_back (n := 4) (by decide) 2000 lvSucc2 [] 2000 (by decide) (by decide) (by decide)
  rw [succ2_bytes] at h2
  exact h2

/-! declarations as bytes -/
def ctB (c : Ct) : List UInt8 := stB c.name ++ tmB c.type
def dcTail (d : Dc) : List UInt8 := if 2 ≤ d.kind ∧ d.kind ≤ 4 then tmB d.value else if d.kind = 5 then enc d.fixed.toNat ++ (enc d.ctors.length ++ (d.ctors.map ctB).flatten) else []
def dcB (d : Dc) : List UInt8 := enc d.kind.toNat ++ (stB d.name ++ (enc d.params.toNat ++ (tmB d.type ++ dcTail d)))
theorem dcA_bytes : dcB dcA = [1, 1, 97, 0, 2, 1, 0] := by
  have h := sort0_bytes
  have e : dcTail dcA = [] := by decide
  unfold dcB
  rw [e, show dcA.type = tmSort0 from rfl, h]
  simp [dcA, stB, enc_lt]
mutual
theorem near_fit : ∀ (t : Tm) (n v : Int), v + t.nodes ≤ 1099511627776 → tmFit n t v = true → tmNear t = true
  | .mk k m nm ls xs, n, v, hv, h => by
    rw [tmFit_eq] at h
    simp only [Bool.and_eq_true, Tm.kind, Tm.n, Tm.name, Tm.levels, Tm.args] at h
    obtain ⟨⟨h1, h2⟩, h3⟩ := h
    simp only [Tm.nodes] at hv
    rw [tmNear, near_fitL xs n k 0 v (by omega) h3, Bool.and_true]
    by_cases hk : k = 1
    · rw [hk] at h1
      simp [tmNode] at h1
      have : m < 1099511627776 := by omega
      simp [hk, this]
    · simp [hk]
theorem near_fitL : ∀ (ts : List Tm) (n k : Int) (i : Nat) (v : Int), v + Tm.nodesL ts + 1 ≤ 1099511627776 → tmFitL n k ts i v = true → tmNearL ts = true
  | [], _, _, _, _, _, _ => rfl
  | t :: ts, n, k, i, v, hv, h => by
    simp only [tmFitL, Bool.and_eq_true] at h
    simp only [Tm.nodesL] at hv
    rw [tmNearL, near_fit t n _ (by split <;> omega) h.1, near_fitL ts n k (i + 1) v (by have := t.nodes_pos; omega) h.2]
    rfl
end
theorem closed_pok {n : Int} {t : Tm} (h : tmRight n 0 t = true) : PokAll t ∧ t.nodes ≤ 2000 ∧ 0 ≤ n ∧ n ≤ 4 ∧ tmFit n t 0 = true := by
  unfold tmRight at h
  simp only [Bool.and_eq_true, decide_eq_true_eq] at h
  obtain ⟨⟨⟨⟨h1, h2⟩, _⟩, h4⟩, h5⟩ := h
  have h5' : tmFit n t 0 = true := h5
  exact ⟨pok_of t n 0 h2 h5' (near_fit t n 0 (by omega) h5'), h4, h1, h2, h5'⟩
theorem whole_back {n : Int} {t : Tm} (h : tmRight n 0 t = true) (r : List UInt8) (L : Int) : tkWhole ⟨tmB t ++ r, false, L⟩ = (t, ⟨r, false, 2000 - t.nodes⟩) := by
  obtain ⟨h1, h2, _, h4, h5⟩ := closed_pok h
  exact tm_back h4 2000 t 0 r 2000 h2 (by omega) h5 h1
theorem name_len {s : List UInt8} (h : nameOk s = true) : s.length ≤ 40 := by
  unfold nameOk at h
  simp only [Bool.and_eq_true, decide_eq_true_eq] at h
  exact h.1.2
theorem tm0_of {t : Tm} (h : tmEq t tm0 = true) : t = tm0 := (tmEq_iff t tm0).1 h
/-- what a declaration that is well formed says -/
structure FormedD (d : Dc) : Prop where
  kind : 1 ≤ d.kind ∧ d.kind ≤ 5
  name : nameOk d.name = true
  type : tmRight d.params 0 d.type = true
  val : 2 ≤ d.kind ∧ d.kind ≤ 4 → tmRight d.params 0 d.value = true
  noval : ¬(2 ≤ d.kind ∧ d.kind ≤ 4) → d.value = tm0
  nofam : d.kind ≠ 5 → d.fixed = 0 ∧ d.ctors = []
  fam : d.kind = 5 → 0 ≤ d.fixed ∧ d.fixed ≤ 16 ∧ d.ctors.length ≤ 8 ∧ ∀ c ∈ d.ctors, nameOk c.name = true ∧ tmRight d.params 0 c.type = true
theorem formed_says {d : Dc} (h : formed d = true) : FormedD d := by
  unfold formed at h
  simp only [Bool.and_eq_true, decide_eq_true_eq] at h
  obtain ⟨⟨⟨⟨h1, h2⟩, h3⟩, h4⟩, h5⟩ := h
  by_cases k5 : d.kind = 5
  · rw [if_pos k5] at h5
    simp only [Bool.and_eq_true, decide_eq_true_eq, Bool.not_eq_true', List.any_eq_false] at h5
    obtain ⟨⟨⟨⟨h6, h7⟩, h8⟩, h9⟩, h10⟩ := h5
    refine ⟨⟨h1, h2⟩, h3, h4, fun h => absurd h (by omega), fun _ => tm0_of h6, fun h => absurd k5 h, fun _ => ⟨h7, h8, h9, fun c hc => ?_⟩⟩
    have := h10 c hc
    unfold ctWrong at this
    cases hn : nameOk c.name <;> cases ht : tmRight d.params 0 c.type <;> simp [hn, ht] at this ⊢
  · rw [if_neg k5] at h5
    by_cases h6 : d.fixed = 0 ∧ d.ctors.length = 0
    · rw [if_pos h6] at h5
      have hf : d.kind ≠ 5 → d.fixed = 0 ∧ d.ctors = [] := fun _ => ⟨h6.1, List.eq_nil_of_length_eq_zero h6.2⟩
      by_cases h7 : 2 ≤ d.kind ∧ d.kind ≤ 4
      · rw [if_pos h7] at h5
        exact ⟨⟨h1, h2⟩, h3, h4, fun _ => h5, fun h => absurd h7 h, hf, fun h => absurd h k5⟩
      · rw [if_neg h7] at h5
        exact ⟨⟨h1, h2⟩, h3, h4, fun h => absurd h h7, fun _ => tm0_of h5, hf, fun h => absurd h k5⟩
    · rw [if_neg h6] at h5; cases h5
theorem dc_back {d : Dc} (h : formed d = true) (r : List UInt8) (L : Int) : ∃ L', tkDecl ⟨dcB d ++ r, false, L⟩ = (d, ⟨r, false, L'⟩) := by
  have hf := formed_says h
  have hk := hf.kind
  obtain ⟨_, _, hp0, hp4, _⟩ := closed_pok hf.type
  have e1 : tkNum 5 ⟨dcB d ++ r, false, L⟩ = (d.kind.toNat, ⟨stB d.name ++ (enc d.params.toNat ++ (tmB d.type ++ (dcTail d ++ r))), false, L⟩) := by
    unfold dcB
    simp only [List.append_assoc]
    exact tkNum_enc (by omega) (by omega) _ _ _
  have e2 := tkText_stB (name_len hf.name) (enc d.params.toNat ++ (tmB d.type ++ (dcTail d ++ r))) L
  have e3 := tkNum_enc (n := d.params.toNat) (most := 4) (by omega) (by omega) (tmB d.type ++ (dcTail d ++ r)) false L
  have e4 := whole_back hf.type (dcTail d ++ r) L
  have ek : ((d.kind.toNat : Nat) : Int) = d.kind := by omega
  have ep : ((d.params.toNat : Nat) : Int) = d.params := by omega
  have main : ∀ v : Vl, (v.value = d.value ∧ (v.fixed : Int) = d.fixed ∧ v.ctors = d.ctors) → ((⟨(d.kind.toNat : Int), (d.params.toNat : Int), d.name, d.type, v.value, (v.fixed : Int), v.ctors⟩ : Dc), v.s) = (d, v.s) := fun v hv => by rw [ek, ep, hv.1, hv.2.1, hv.2.2]
  simp only [tkDecl, e1, e2, e3, e4]
  by_cases h1 : 2 ≤ d.kind ∧ d.kind ≤ 4
  · have hv := whole_back (hf.val h1) r (2000 - d.type.nodes)
    have e5 : tkVal d.kind.toNat ⟨dcTail d ++ r, false, 2000 - d.type.nodes⟩ = ⟨d.value, 0, [], ⟨r, false, 2000 - d.value.nodes⟩⟩ := by
      unfold tkVal dcTail
      rw [if_pos (by omega), if_pos h1, hv]
    have hn := hf.nofam (by omega)
    rw [e5]
    exact ⟨_, main ⟨d.value, 0, [], ⟨r, false, 2000 - d.value.nodes⟩⟩ ⟨rfl, by rw [hn.1]; rfl, by rw [hn.2]⟩⟩
  · by_cases h5 : d.kind = 5
    · obtain ⟨f1, f2, f3, f4⟩ := hf.fam h5
      obtain ⟨L', hr⟩ := rpt_rows' (f := tkCtor) (B := ctB) d.ctors (fun c hc r' L1 => by
        refine ⟨2000 - c.type.nodes, ?_⟩
        unfold tkCtor ctB
        rw [List.append_assoc, tkText_stB (name_len (f4 c hc).1)]
        simp only
        rw [whole_back (f4 c hc).2]) r (2000 - d.type.nodes)
      have e6 := tkNum_enc (n := d.fixed.toNat) (most := 16) (by omega) (by omega) (enc d.ctors.length ++ ((d.ctors.map ctB).flatten ++ r)) false (2000 - d.type.nodes)
      have e7 := tkNum_enc (n := d.ctors.length) (most := 8) f3 (by omega) ((d.ctors.map ctB).flatten ++ r) false (2000 - d.type.nodes)
      have e5 : tkVal d.kind.toNat ⟨dcTail d ++ r, false, 2000 - d.type.nodes⟩ = ⟨tm0, d.fixed.toNat, d.ctors, ⟨r, false, L'⟩⟩ := by
        unfold tkVal dcTail
        rw [if_neg (by omega), if_pos (by omega), if_neg h1, if_pos h5]
        simp only [List.append_assoc, e6, e7, hr]
      rw [e5]
      exact ⟨_, main ⟨tm0, d.fixed.toNat, d.ctors, ⟨r, false, L'⟩⟩ ⟨(hf.noval h1).symm, by simp only; omega, rfl⟩⟩
    · have e5 : tkVal d.kind.toNat ⟨dcTail d ++ r, false, 2000 - d.type.nodes⟩ = ⟨tm0, 0, [], ⟨r, false, 2000 - d.type.nodes⟩⟩ := by
        unfold tkVal dcTail
        rw [if_neg (by omega), if_neg (by omega), if_neg h1, if_neg h5]
        rfl
      have hn := hf.nofam h5
      rw [e5]
      exact ⟨_, main ⟨tm0, 0, [], ⟨r, false, 2000 - d.type.nodes⟩⟩ ⟨(hf.noval h1).symm, by rw [hn.1]; rfl, by rw [hn.2]⟩⟩
end Go.Proofs.YtaldgcnhmnfocaaDoor

/-
  wire's num, Num; bytes.Clone. No condition.
-/
namespace Go.Proofs.YtaldgcnhmnfocaaDoor
open Go.RowKit


theorem and127 (x : UInt8) : bits BinOp.and IntKind.u8 ((x.toNat : Nat) : Int) 127 = ((x.toNat % 128 : Nat) : Int) := by
  have hx2 := x.toNat_lt
  have := bits_mask .u8 8 (by decide) wraps_u8 7 (by decide) (x.toNat : Int) (by omega) (by omega)
  simpa using this
theorem and_raw (x : UInt8) : IntKind.u8.wrap ↑(BitVec.ofInt IntKind.u8.bits ((x.toNat : Nat) : Int) &&& BitVec.ofInt IntKind.u8.bits 127).toNat = ((x.toNat % 128 : Nat) : Int) := and127 x
theorem shl7 (x : UInt8) {k : Nat} (h6 : k < 6) : ((x.toNat % 128 : Nat) : Int) * 2 ^ (min ((7 * (k : Int)).toNat) 64) = ((x.toNat % 128 * 2 ^ (7 * k) : Nat) : Int) ∧ x.toNat % 128 * 2 ^ (7 * k) ≤ 127 * 34359738368 := by
  have hp : 2 ^ (7 * k) ≤ 34359738368 := by
    have : 7 * k ≤ 35 := by omega
    exact Nat.le_trans (Nat.pow_le_pow_right (by decide) this) (by decide)
  refine ⟨?_, Nat.mul_le_mul (by omega) hp⟩
  rw [show min ((7 * (k : Int)).toNat) 64 = 7 * k by omega, Int.natCast_mul, Int.natCast_pow]; rfl
theorem num_step {l : List UInt8} {k : Nat} (hk : k < l.length) (h6 : k < 6) :
    bits BinOp.or IntKind.i64 ((val (l.take k) : Nat) : Int) (((l[k].toNat % 128 : Nat) : Int) * 2 ^ (min ((7 * (k : Int)).toNat) 64)) = ((val (l.take (k + 1)) : Nat) : Int) := by
  have h := num_val hk h6 (x := l[k]) (by simp [List.getD_eq_getElem?_getD, hk])
  obtain ⟨e1, e2⟩ := shl7 l[k] h6
  have e3 : (((l[k].toNat % 128 : Nat) : Int) * 2 ^ (7 * k)) = ((l[k].toNat % 128 * 2 ^ (7 * k) : Nat) : Int) := by
    rw [Int.natCast_mul, Int.natCast_pow]; rfl
  rw [and127, IntWalk.wrap64_in ((l[k].toNat % 128 : Nat) : Int) (by omega), e3, IntWalk.wrap64_in _ (by omega)] at h
  rw [e1]
  exact h


end Go.Proofs.YtaldgcnhmnfocaaDoor

/-
  pack's taker: a struct behind a pointer: num, text, node. No condition.
-/
namespace Go.Proofs.YtaldgcnhmnfocaaDoor
open Go.RowKit

theorem keepP_t {m : Bool} {pins H : Heap} {A : Prop} (h : m = true) (hA : A) : keepP m pins H A := by subst h; exact hA
theorem le13 : 1 ≤ 3 := by decide
theorem le23 : 2 ≤ 3 := by decide
theorem le33 : 3 ≤ 3 := by decide
theorem pin1 {p : Nat × AObj} {H : Heap} (h : p ∈ H) : ∀ q ∈ [p], q ∈ H := fun q hq => by rw [List.mem_singleton.1 hq]; exact h
/-- a heap with a place left open -/
def Hole (b : Nat) (F : AObj → Heap) : Prop := ∀ x y, Heap.At b x y (F x) (F y)
theorem Hole.mem {b : Nat} {F : AObj → Heap} (h : Hole b F) (x : AObj) : (b, x) ∈ F x := (h x x).mem
theorem Hole.top (b : Nat) (H : Heap) : Hole b (fun y => (b, y) :: H) := fun _ _ => .here
theorem Hole.under {b : Nat} {F : AObj → Heap} (h : Hole b F) (p : Nat × AObj) : Hole b (fun y => p :: F y) := fun x y => .there (h x y)
def tkC (s : Tk) : AObj := .cells [byX s.rest, .b s.lost, .i s.left]
theorem dec_take6 (bs : List UInt8) : dec (bs.take 6) = dec bs := by
  unfold dec
  have e1 : stop6 (bs.take 6) = stop6 bs := by unfold stop6; rw [List.take_take]; rfl
  rw [e1]
  by_cases h6 : stop6 bs < 6
  · have e2 : (bs.take 6).take (stop6 bs + 1) = bs.take (stop6 bs + 1) := by rw [List.take_take, Nat.min_eq_left (by omega)]
    have e3 : (bs.take 6).getD (stop6 bs) 0 = bs.getD (stop6 bs) 0 := by simp [List.getD_eq_getElem?_getD, h6]
    have e4 : (stop6 bs < (bs.take 6).length) = (stop6 bs < bs.length) := propext (by rw [List.length_take]; omega)
    rw [e2, e3]; simp only [e4]
  · rw [if_neg fun h => h6 h.1, if_neg fun h => h6 h.1]
theorem byX_cut (bs : List UInt8) (a n : Nat) (h : n = bs.length - a) : AV.sl .no 1 (((bs.map byteV).drop a).take n) = byX (bs.drop a) := by
  show AV.sl _ _ _ = AV.sl _ _ _
  rw [← List.map_drop, List.take_of_length_le (by simp; omega)]

/-- an operation that its guard leaves out -/
theorem aText_skip {P : Program} {tab : Tab} {esc : Nat → Bool} {ops : Array Oper} {r : List Oper} {s : St} {K : St → Prop} {o : Oper} (hgd : ∀ A B : Prop, B → aG ops o s.e A B)
    (h : aText P tab esc ops r (s.put o.dst .undef) K) : aText P tab esc ops (o :: r) s K := hgd _ _ h



end Go.Proofs.YtaldgcnhmnfocaaDoor

/-
  pack's taker: level. No condition.
-/
namespace Go.Proofs.YtaldgcnhmnfocaaDoor
open Go.RowKit

/-- a row that a loop puts together: nothing yet, or one that it may append to -/
def rowS (q : Option Cap) (w : Nat) (xs : List AV) : AV :=
  match q with
  | none => .sl .full 0 []
  | some c => .sl (.own c) w xs
theorem rowS_le {q : Option Cap} {w : Nat} {xs : List AV} (h : q = none → xs = []) : Le (rowS q w xs) (.sl .no w xs) := by
  cases q with
  | none => rw [h rfl]; exact Le.nil _ _
  | some c => exact Le.own _ _ _
theorem bufH_sub (q : Option Cap) (H : Heap) : List.Sublist H (bufH q H) := by
  cases q with
  | none => exact List.Sublist.refl _
  | some c => exact List.sublist_cons_self _ _
theorem Hole.buf {b : Nat} {F : AObj → Heap} (h : Hole b F) (q : Option Cap) : Hole b (fun y => bufH q (F y)) := by
  cases q with
  | none => exact h
  | some c => exact h.under _
theorem rpt_ok {α : Type} {N : Nat} {f : Tk → α × Tk} (h : Stp N f) {s s3 : Tk} (hok : s.ok) (hl : (tkNode s).lost = false) (h3 : s3.left = s.left - 1) (hp : (tkNode s).pot ≤ s3.pot) (j : Nat) (hj : j ≤ 6) : (rpt f j s3).2.ok ∧ (rpt f j s3).2.left ≤ s.left - 1 := by
  have h1 := rpt_pot h j s3
  have h2 := ((tkNode_pot s).2 hl).1
  have h4 := hok.lo
  have h5 := hok.up
  exact ⟨⟨by omega, by omega⟩, by omega⟩
theorem le_lv0 : Le (.agg [.i 0, .i 0, .sl .full 0 []]) (lvX lv0) := Le.agg ⟨Le.refl _, Le.refl _, Le.nil _ _, trivial⟩
theorem wide_at {k : Nat} (h : k ≤ 5) : ([.i 0, .i 0, .i 0, .i 1, .i 2, .i 2] : List AV)[k]? = some (.i (wideOf k)) := by
  match k, h with
  | 0, _ | 1, _ | 2, _ | 3, _ | 4, _ | 5, _ => rfl
  | k + 6, h => omega


end Go.Proofs.YtaldgcnhmnfocaaDoor

/-
  pack's taker: term. No condition.
-/
namespace Go.Proofs.YtaldgcnhmnfocaaDoor
open Go.RowKit

theorem rpt_ok' {α : Type} {N : Nat} {f : Tk → α × Tk} (h : Stp N f) {s s3 : Tk} {c : Nat} (hok : s.ok) (hl : (tkNode s).lost = false) (h3 : s3.left ≤ s.left - 1) (hp : (tkNode s).pot - c ≤ s3.pot) (j : Nat) (hj : j + c ≤ 6) : (rpt f j s3).2.ok ∧ (rpt f j s3).2.left ≤ s.left - 1 := by
  have h1 := rpt_pot h j s3
  have h2 := ((tkNode_pot s).2 hl).1
  have h4 := hok.lo
  have h5 := hok.up
  exact ⟨⟨by omega, by omega⟩, by omega⟩
theorem le_tm0 : Le (.agg [.i 0, .i 0, .str [], .sl .full 0 [], .sl .full 0 []]) (tmX tm0) := Le.agg ⟨Le.refl _, Le.refl _, Le.refl _, Le.nil _ _, Le.nil _ _, trivial⟩
theorem tmwide_at {k : Nat} (h : k ≤ 7) : ([.i 0, .i 0, .i 0, .i 0, .i 2, .i 2, .i 2, .i 3] : List AV)[k]? = some (.i (tmWide k)) := by
  match k, h with
  | 0, _ | 1, _ | 2, _ | 3, _ | 4, _ | 5, _ | 6, _ | 7, _ => rfl
  | k + 8, h => omega


end Go.Proofs.YtaldgcnhmnfocaaDoor

/-
  pack's taker: whole, decl; taking, TakeLevel, TakeTerm, TakeDecl. No condition.
-/
namespace Go.Proofs.YtaldgcnhmnfocaaDoor
open Go.RowKit



/-! what is left gets no longer -/
def Shr {α : Type} (f : Tk → α × Tk) : Prop := ∀ s : Tk, (f s).2.rest.length ≤ s.rest.length
theorem shr_rpt {α : Type} {f : Tk → α × Tk} (h : Shr f) (n : Nat) : Shr (rpt f n) := fun s => by
  induction n with
  | zero => exact Nat.le_refl _
  | succ n ih => exact Nat.le_trans (h _) ih
theorem shr_by (n : Nat) : Shr (tkBy n) := fun s => by unfold tkBy Tk.lose; split <;> simp
theorem shr_num (n : Nat) : Shr (tkNum n) := rest_num n
theorem shr_text : Shr tkText := fun _ => Nat.le_trans (shr_by _ _) (shr_num _ _)
theorem shr_level : ∀ N : Nat, Shr (tkLevel N)
  | 0 => fun s => Nat.le_refl _
  | N + 1 => fun s => by
    simp only [tkLevel]
    split
    · exact Nat.le_refl _
    · refine Nat.le_trans (shr_rpt (shr_level N) _ _) ?_
      have h : (tkNum 5 (tkNode s)).2.rest.length ≤ s.rest.length := shr_num 5 (tkNode s)
      generalize tkNum 5 (tkNode s) = p at *
      unfold lvNumT
      split
      · exact Nat.le_trans (shr_num _ _) h
      · exact h
theorem shr_hd (s : Tk) : (tkHd s).s.rest.length ≤ s.rest.length := by
  have h := shr_num 7 s
  unfold tkHd
  generalize tkNum 7 s = r at *
  by_cases h1 : r.1 = 1
  · rw [if_pos h1]; exact Nat.le_trans (shr_num 1099511627776 r.2) h
  · rw [if_neg h1]
    by_cases h2 : r.1 = 2
    · rw [if_pos h2]; exact h
    · rw [if_neg h2]
      by_cases h3 : r.1 = 3
      · rw [if_pos h3]; exact Nat.le_trans (shr_num 4 (tkText r.2).2) (Nat.le_trans (shr_text r.2) h)
      · rw [if_neg h3]; exact h
theorem shr_term : ∀ N : Nat, Shr (tkTerm N)
  | 0 => fun s => Nat.le_refl _
  | N + 1 => fun s => by
    simp only [tkTerm]
    split
    · exact Nat.le_refl _
    · exact Nat.le_trans (shr_rpt (shr_term N) _ _) (Nat.le_trans (shr_rpt (shr_level N) _ _) (shr_hd (tkNode s)))
theorem shr_whole : Shr tkWhole := fun s => shr_term 2000 ⟨s.rest, s.lost, 2000⟩
theorem shr_ctor : Shr tkCtor := fun s => Nat.le_trans (shr_whole _) (shr_text s)
theorem shr_val (k : Nat) (s : Tk) : (tkVal k s).s.rest.length ≤ s.rest.length := by
  unfold tkVal
  by_cases h1 : 2 ≤ k ∧ k ≤ 4
  · rw [if_pos h1]; exact shr_whole s
  · rw [if_neg h1]
    by_cases h2 : k = 5
    · rw [if_pos h2]; exact Nat.le_trans (shr_rpt shr_ctor _ _) (Nat.le_trans (shr_num 8 (tkNum 16 s).2) (shr_num 16 s))
    · rw [if_neg h2]; exact Nat.le_refl _
theorem shr_decl : Shr tkDecl := fun s =>
  Nat.le_trans (shr_val _ _) (Nat.le_trans (shr_whole _) (Nat.le_trans (shr_num 4 _) (Nat.le_trans (shr_text _) (shr_num 5 s))))


theorem leL_of_eq {xs ys : List AV} (h : xs = ys) : LeL xs ys := by rw [h]; exact LeL.refl _
/-- the state written out -/
theorem aText_at {P : Program} {tab : Tab} {esc : Nat → Bool} {ops : Array Oper} {r : List Oper} {s : St} {K : St → Prop} (s' : St) (h : s = s') (k : aText P tab esc ops r s' K) : aText P tab esc ops r s K := by rw [h]; exact k
theorem awp_at {P : Program} {tab : Tab} {esc : Nat → Bool} {N : Nat} {c : Code} {Q : Exit → St → Prop} {s : St} (s' : St) (h : s = s') (k : awp P tab esc N c Q s') : awp P tab esc N c Q s := by rw [h]; exact k
def dc0 : Dc := ⟨0, 0, [], tm0, tm0, 0, []⟩
theorem le_dc0 : Le (.agg [.i 0, .i 0, .str [], .i 0, .i 0, .str [], .sl .full 0 [], .sl .full 0 [], .i 0, .i 0, .str [], .sl .full 0 [], .sl .full 0 [], .i 0, .sl .full 0 []]) (dcX dc0) :=
  Le.agg ⟨Le.refl _, Le.refl _, Le.refl _, Le.refl _, Le.refl _, Le.refl _, Le.nil _ _, Le.nil _ _, Le.refl _, Le.refl _, Le.refl _, Le.nil _ _, Le.nil _ _, Le.refl _, Le.nil _ _, trivial⟩

end Go.Proofs.YtaldgcnhmnfocaaDoor

/-
  pack's Decl and Hash. No condition.
-/
namespace Go.Proofs.YtaldgcnhmnfocaaDoor
open Go.RowKit

theorem cts_snoc {ls : List Ct} {k : Nat} (h : k < ls.length) : ((ls.take (k + 1)).map ctB).flatten = ((ls.take k).map ctB).flatten ++ ctB ls[k] := by
  rw [List.take_succ_eq_append_getElem h, List.map_append, List.flatten_append]; simp
theorem ctB_len {d : Dc} (hf : FormedD d) (h5 : d.kind = 5) {c : Ct} (hc : c ∈ d.ctors) : (ctB c).length ≤ 128050 := by
  obtain ⟨h1, h2⟩ := (hf.fam h5).2.2.2 c hc
  obtain ⟨h3, h4, _⟩ := closed_pok h2
  have := tmB_len _ h3
  have := name_len h1
  have := enc_le6 c.name.length (by omega)
  unfold ctB stB
  simp only [List.length_append]
  omega
theorem cts_len {d : Dc} (hf : FormedD d) (h5 : d.kind = 5) : ∀ k, k ≤ d.ctors.length → ((d.ctors.take k).map ctB).flatten.length ≤ 128050 * k := fun k hk => by
  induction k with
  | zero => simp
  | succ k ih =>
    rw [cts_snoc (by omega), List.length_append]
    have := ctB_len hf h5 (List.getElem_mem (show k < d.ctors.length by omega))
    have := ih (by omega)
    omega

theorem Ans.as {P : Program} {f : FuncId} {args : List AV} {q q' : Bool} (h : Ans P f args (.b q)) (e : q = q') : Ans P f args (.b q') := e ▸ h

end Go.Proofs.YtaldgcnhmnfocaaDoor

/-
  pack's Hash; the reference's SameDecl, CopyBytes, DeclNodes; what is too great. No condition.
-/
namespace Go.Proofs.YtaldgcnhmnfocaaDoor
open Go.RowKit

/-- a byte more of a hash -/
def hstep (h : Int) (c : UInt8) : Int := IntKind.u64.wrap (IntKind.u64.wrap ((BitVec.ofInt IntKind.u64.bits h ^^^ BitVec.ofInt IntKind.u64.bits (IntKind.u64.wrap ((c.toNat : Nat) : Int))).toNat : Nat) * 1099511628211)
def hashB (bs : List UInt8) : Int := bs.foldl hstep 14695981039346656037
def dcHash (d : Dc) : Int := if formed d = true then hashB (dcB d) else 0
theorem hash_snoc {bs : List UInt8} {k : Nat} (h : k < bs.length) : hashB (bs.take (k + 1)) = hstep (hashB (bs.take k)) bs[k] := by
  unfold hashB
  rw [List.take_succ_eq_append_getElem h, List.foldl_append]; rfl



end Go.Proofs.YtaldgcnhmnfocaaDoor

/-
  What is too great; bytes that the document fixes (law 08's alive). No condition.
-/
namespace Go.Proofs.YtaldgcnhmnfocaaDoor
open Go.RowKit

theorem ctor_name {d : Dc} (h : Wf (dcX d)) {c : Ct} (hc : c ∈ d.ctors) : c.name.length ≤ 1125899906842624 := by
  have h1 := (h.cell (x := .sl .no 6 (d.ctors.map ctX)) (by simp)).elem (x := ctX c) (List.mem_map.2 ⟨c, hc, rfl⟩)
  exact (h1 (.str c.name) (by simp [ctX, AV.cells])).str

end Go.Proofs.YtaldgcnhmnfocaaDoor

/-
  Bytes that the document fixes (law 08's alive). No condition.
-/
namespace Go.Proofs.YtaldgcnhmnfocaaDoor
open Go.RowKit

/-- elements, each at least another one -/
def LeE : List AV → List AV → Prop
  | [], [] => True
  | x :: xs, y :: ys => LeL x.cells y.cells ∧ LeE xs ys
  | _, _ => False
theorem LeL.length : ∀ {xs ys : List AV}, LeL xs ys → xs.length = ys.length
  | [], [], _ => rfl
  | x :: xs, y :: ys, h => by simp only [LeL] at h; simp [LeL.length h.2]
  | [], y :: ys, h => by simp [LeL] at h
  | x :: xs, [], h => by simp [LeL] at h
theorem LeE.atE {M : Mem} : ∀ {xs ys : List AV} {b o : Nat}, LeE xs ys → Go.Proofs.YtaldgcnhmnfocaaDoor.atE M xs b o → Go.Proofs.YtaldgcnhmnfocaaDoor.atE M ys b o
  | [], [], _, _, _, h => h
  | x :: xs, y :: ys, b, o, h, ha => by
    obtain ⟨h1, h2⟩ := atE.cons.1 ha
    exact atE.cons.2 ⟨h.1.atL h1, LeE.atE h.2 (by rw [← h.1.length]; exact h2)⟩
theorem LeE.length : ∀ {xs ys : List AV}, LeE xs ys → xs.length = ys.length
  | [], [], _ => rfl
  | x :: xs, y :: ys, h => by simp [LeE.length h.2]
theorem LeE.wide {s : Nat} : ∀ {xs ys : List AV}, LeE xs ys → (∀ x ∈ xs, x.cells.length = s) → ∀ y ∈ ys, y.cells.length = s
  | [], [], _, _, y, hy => by cases hy
  | x :: xs, z :: ys, h, hx, y, hy => by
    rcases List.mem_cons.1 hy with rfl | hy
    · rw [← h.1.length]; exact hx x (by simp)
    · exact LeE.wide h.2 (fun a ha => hx a (List.mem_cons_of_mem _ ha)) y hy
theorem Le.slE {o : Own} {s : Nat} {xs ys : List AV} (h : LeE xs ys) : Le (.sl o s xs) (.sl .no s ys) := fun M u hu => by
  simp only [rep] at hu ⊢
  obtain ⟨a, cap, h1, h2, h3, h4, h5, h6, h7⟩ := hu
  have hl := h.length
  refine ⟨a, cap, by rw [← hl]; exact h1, by rw [← hl]; exact h2, h3, h4, ⟨fun hs => ?_, LeE.wide h h5.2⟩, trivial, fun h0 => ?_⟩
  · have := h5.1 hs
    subst this
    cases ys with
    | nil => rfl
    | cons y ys => exact h.elim
  · rw [← hl] at h0
    obtain ⟨b, off, e, ha⟩ := h7 h0
    exact ⟨b, off, e, h.atE ha⟩
theorem le_sortL : Le (.sl .full 3 [.agg [.i 1, .i 0, .sl .full 0 []]]) (.sl .no 3 (tmSort0.levels.map lvA)) := Le.slE ⟨⟨Le.refl _, Le.refl _, Le.nil _ _, trivial⟩, trivial⟩
theorem le_sort0 : Le (.agg [.i 2, .i 0, .str [], .sl .full 3 [.agg [.i 1, .i 0, .sl .full 0 []]], .sl .full 0 []]) (tmX tmSort0) := Le.agg ⟨Le.refl _, Le.refl _, Le.refl _, le_sortL, Le.nil _ _, trivial⟩
theorem le_dcA : Le (.agg [.i 1, .i 0, .str [97], .i 2, .i 0, .str [], .sl .full 3 [.agg [.i 1, .i 0, .sl .full 0 []]], .sl .full 0 [], .i 0, .i 0, .str [], .sl .full 0 [], .sl .full 0 [], .i 0, .sl .full 0 []]) (dcX dcA) :=
  Le.agg ⟨Le.refl _, Le.refl _, Le.refl _, Le.refl _, Le.refl _, Le.refl _, le_sortL, Le.nil _ _, Le.refl _, Le.refl _, Le.refl _, Le.nil _ _, Le.nil _ _, Le.refl _, Le.nil _ _, trivial⟩
theorem hashA : dcHash dcA = 12626791137399600213 := by
  unfold dcHash
  rw [if_pos dcA_formed, dcA_bytes]
  decide +kernel
theorem dcA_take : ∃ L', tkDecl ⟨dcB dcA, false, 2000⟩ = (dcA, ⟨[], false, L'⟩) := by
  obtain ⟨L', hb⟩ := dc_back dcA_formed [] 2000
  rw [List.append_nil] at hb
  exact ⟨L', hb⟩
section
variable {H : Heap} {Q : AV → Heap → Prop}
end

end Go.Proofs.YtaldgcnhmnfocaaDoor
