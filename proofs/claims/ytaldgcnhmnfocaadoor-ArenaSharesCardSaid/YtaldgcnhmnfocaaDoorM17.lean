/-
  Texts put together: T1, T2, T3, T4, V1, V2. No condition.
-/
import Derived.Test.YtaldgcnhmnfocaaDoorM16
import Derived.Test.YtaldgcnhmnfocaaDoorM7
/-
  Terms with others in the place of leaves, in plain words (bind). No condition.
-/
namespace Go.Proofs.YtaldgcnhmnfocaaDoor
open Go.RowKit

/-- what stands in the place of a leaf in deep binders -/
abbrev Leaf := Tm → Int → Option Tm
mutual
/-- a term made anew -/
def bld (f : Leaf) : Tm → Int → Tm
  | .mk k n nm ls xs, d => match f (.mk k n nm ls xs) d with
    | some x => x
    | none => .mk k n nm ls (bldL f k xs 0 d)
def bldL (f : Leaf) (k : Int) : List Tm → Nat → Int → List Tm
  | [], _, _ => []
  | t :: ts, i, d => bld f t (if tmBind k i = true then d + 1 else d) :: bldL f k ts (i + 1) d
end
theorem bld_eq (f : Leaf) (t : Tm) (d : Int) : bld f t d = match f t d with
    | some x => x
    | none => .mk t.kind t.n t.name t.levels (bldL f t.kind t.args 0 d) := by cases t; rw [bld]; rfl
theorem bldL_len (f : Leaf) (k : Int) : ∀ (ts : List Tm) (i : Nat) (d : Int), (bldL f k ts i d).length = ts.length
  | [], _, _ => rfl
  | t :: ts, i, d => by rw [bldL, List.length_cons, List.length_cons, bldL_len f k ts]
theorem bldL_get (f : Leaf) (k : Int) : ∀ (ts : List Tm) (i : Nat) (d : Int) (j : Nat) (h : j < ts.length), (bldL f k ts i d)[j]'(by rw [bldL_len]; exact h) = bld f ts[j] (if tmBind k (i + j) = true then d + 1 else d)
  | t :: ts, i, d, 0, _ => by simp [bldL]
  | t :: ts, i, d, j + 1, h => by
    have := bldL_get f k ts (i + 1) d j (by simpa using h)
    simp only [bldL, List.getElem_cons_succ]
    rw [this, show i + 1 + j = i + (j + 1) by omega]
theorem bldL_take {f : Leaf} {k : Int} {ts : List Tm} {d : Int} {j : Nat} (h : j < ts.length) : (bldL f k ts 0 d).take (j + 1) = (bldL f k ts 0 d).take j ++ [bld f ts[j] (if tmBind k j = true then d + 1 else d)] := by
  rw [List.take_succ_eq_append_getElem (by rw [bldL_len]; exact h), bldL_get f k ts 0 d j h, Nat.zero_add]

/-! the leaves -/
def movedF (c from_ : Int) : Leaf := fun t d => if t.kind = 1 ∧ from_ + d ≤ t.n then some (.mk 1 (t.n + c) [] [] []) else none
def instF (args : List Tm) : Leaf := fun t d => if t.kind = 1 ∧ d ≤ t.n then (if (args.length : Int) ≤ t.n - d then some (.mk 1 (t.n - args.length) [] [] []) else some (tmLift d (args.getD (args.length - 1 - (t.n - d).toNat) tm0) 0)) else none
def replF (nm : List UInt8) (u : Tm) : Leaf := fun t d => if t.kind = 3 ∧ t.name = nm then some (tmLift d u 0) else none
/-- where a text stands first; -1: nowhere -/
def stAtI (nms : List (List UInt8)) (nm : List UInt8) : Int := match nms.findIdx? (fun x => decide (x = nm)) with
  | some i => i
  | none => -1
def absF (nms : List (List UInt8)) : Leaf := fun t d => if t.kind = 3 ∧ 0 ≤ stAtI nms t.name then some (.mk 1 ((nms.length : Int) - 1 - stAtI nms t.name + d) [] [] []) else movedF nms.length 0 t d

/-! a right term's variables have no more than their number -/
theorem fit_var {p v : Int} {k n : Int} {nm : List UInt8} {ls : List Lv} {xs : List Tm} (h : tmFit p (.mk k n nm ls xs) v = true) (hk : k = 1) : 0 ≤ n ∧ n < v ∧ nm = [] ∧ ls = [] ∧ xs = [] := by
  subst hk
  rw [tmFit, Bool.and_eq_true, Bool.and_eq_true, tmNode_1] at h
  obtain ⟨⟨⟨a, b, c, d, e⟩, _⟩, _⟩ := h
  exact ⟨a, b, c, List.eq_nil_of_length_eq_zero d, List.eq_nil_of_length_eq_zero e⟩
theorem fit_args {p v : Int} {k n : Int} {nm : List UInt8} {ls : List Lv} {xs : List Tm} (h : tmFit p (.mk k n nm ls xs) v = true) : tmFitL p k xs 0 v = true := by
  rw [tmFit, Bool.and_eq_true] at h
  exact h.2
theorem fitL_cons {p k v : Int} {t : Tm} {ts : List Tm} {i : Nat} (h : tmFitL p k (t :: ts) i v = true) : tmFit p t (if tmBind k i = true then v + 1 else v) = true ∧ tmFitL p k ts (i + 1) v = true := by
  rw [tmFitL, Bool.and_eq_true] at h
  exact h
/-- a right term that is no leaf has a kind and parts alone -/
theorem fit_inner {p v : Int} {t : Tm} (h : tmFit p t v = true) (hx : t.args ≠ []) : t.n = 0 ∧ t.name = [] ∧ t.levels = [] := by
  rw [tmFit_eq, Bool.and_eq_true, Bool.and_eq_true] at h
  have h1 := h.1.1
  have hl : t.args.length ≠ 0 := fun e => hx (List.eq_nil_of_length_eq_zero e)
  unfold tmNode at h1
  split at h1
  · simp only [Bool.and_eq_true, decide_eq_true_eq] at h1; exact absurd h1.2 hl
  split at h1
  · simp only [Bool.and_eq_true, decide_eq_true_eq] at h1; exact absurd h1.2 hl
  split at h1
  · simp only [Bool.and_eq_true, decide_eq_true_eq] at h1; exact absurd h1.2 hl
  split at h1
  · simp only [Bool.and_eq_true, decide_eq_true_eq] at h1
    exact ⟨h1.1.1.1, h1.1.1.2, List.eq_nil_of_length_eq_zero h1.1.2⟩
  split at h1
  · simp only [Bool.and_eq_true, decide_eq_true_eq] at h1
    exact ⟨h1.1.1.1, h1.1.1.2, List.eq_nil_of_length_eq_zero h1.1.2⟩
  · cases h1

theorem bld_some {f : Leaf} {k n : Int} {nm : List UInt8} {ls : List Lv} {xs : List Tm} {d : Int} {x : Tm} (h : f (.mk k n nm ls xs) d = some x) : bld f (.mk k n nm ls xs) d = x := by rw [bld, h]
theorem bld_stay {f : Leaf} {k n : Int} {nm : List UInt8} {ls : List Lv} {xs : List Tm} {d : Int} (h : f (.mk k n nm ls xs) d = none) : bld f (.mk k n nm ls xs) d = .mk k n nm ls (bldL f k xs 0 d) := by rw [bld, h]
theorem moved_yes {c f k n : Int} {nm : List UInt8} {ls : List Lv} {xs : List Tm} {d : Int} (h : k = 1 ∧ f + d ≤ n) : movedF c f (.mk k n nm ls xs) d = some (.mk 1 (n + c) [] [] []) := if_pos h
theorem moved_no {c f k n : Int} {nm : List UInt8} {ls : List Lv} {xs : List Tm} {d : Int} (h : ¬(k = 1 ∧ f + d ≤ n)) : movedF c f (.mk k n nm ls xs) d = none := if_neg h
theorem instF_no {args : List Tm} {k n : Int} {nm : List UInt8} {ls : List Lv} {xs : List Tm} {d : Int} (h : ¬(k = 1 ∧ d ≤ n)) : instF args (.mk k n nm ls xs) d = none := if_neg h
theorem instF_out {args : List Tm} {k n : Int} {nm : List UInt8} {ls : List Lv} {xs : List Tm} {d : Int} (h : k = 1 ∧ d ≤ n) (h2 : (args.length : Int) ≤ n - d) : instF args (.mk k n nm ls xs) d = some (.mk 1 (n - args.length) [] [] []) := (if_pos h).trans (if_pos h2)
theorem instF_in {args : List Tm} {k n : Int} {nm : List UInt8} {ls : List Lv} {xs : List Tm} {d : Int} (h : k = 1 ∧ d ≤ n) (h2 : ¬(args.length : Int) ≤ n - d) : instF args (.mk k n nm ls xs) d = some (tmLift d (args.getD (args.length - 1 - (n - d).toNat) tm0) 0) := (if_pos h).trans (if_neg h2)

/-! raised: what moves is lifted -/
mutual
theorem bld_moved {p c from_ : Int} : ∀ (t : Tm) (d v : Int), tmFit p t v = true → bld (movedF c from_) t d = tmLift c t (from_ + d)
  | .mk k n nm ls xs, d, v, h => by
    rw [tmLift]
    by_cases h1 : k = 1 ∧ from_ + d ≤ n
    · obtain ⟨a, b, rfl, rfl, rfl⟩ := fit_var h h1.1
      rw [bld_some (moved_yes h1), if_pos h1, tmLiftL, h1.1]
    · rw [bld_stay (moved_no h1), if_neg h1, bldL_moved k xs 0 d v (fit_args h)]
theorem bldL_moved {p c from_ : Int} (k : Int) : ∀ (ts : List Tm) (i : Nat) (d v : Int), tmFitL p k ts i v = true → bldL (movedF c from_) k ts i d = tmLiftL c k ts i (from_ + d)
  | [], _, _, _, _ => rfl
  | t :: ts, i, d, v, h => by
    obtain ⟨h1, h2⟩ := fitL_cons h
    rw [bldL, tmLiftL, bld_moved t _ _ h1, bldL_moved k ts (i + 1) d v h2]
    by_cases hb : tmBind k i = true
    · rw [if_pos hb, if_pos hb, Int.add_assoc]
    · rw [if_neg hb, if_neg hb]
end
mutual
/-- nothing in the place of any leaf -/
theorem bld_none : ∀ (t : Tm) (d : Int), bld (fun _ _ => none) t d = t
  | .mk k n nm ls xs, d => by
    rw [bld_stay rfl, bldL_none k xs 0 d]
theorem bldL_none (k : Int) : ∀ (ts : List Tm) (i : Nat) (d : Int), bldL (fun _ _ => none) k ts i d = ts
  | [], _, _ => rfl
  | t :: ts, i, d => by rw [bldL, bld_none t, bldL_none k ts (i + 1) d]
end

/-! lifts -/
mutual
theorem lift_lift {c e : Int} (hc : 0 ≤ c) : ∀ (t : Tm) (d : Int), tmLift e (tmLift c t d) d = tmLift (c + e) t d
  | .mk k n nm ls xs, d => by
    rw [tmLift, tmLift, tmLift, liftL_lift hc k xs 0 d]
    congr 1
    by_cases h : k = 1 ∧ d ≤ n
    · rw [if_pos h, if_pos ⟨h.1, by omega⟩, if_pos h]; omega
    · rw [if_neg h, if_neg h]
      rw [if_neg h]
theorem liftL_lift {c e : Int} (hc : 0 ≤ c) (k : Int) : ∀ (ts : List Tm) (i : Nat) (d : Int), tmLiftL e k (tmLiftL c k ts i d) i d = tmLiftL (c + e) k ts i d
  | [], _, _ => rfl
  | t :: ts, i, d => by rw [tmLiftL, tmLiftL, tmLiftL, lift_lift hc t, liftL_lift hc k ts (i + 1) d]
end
mutual
theorem lift_zero : ∀ (t : Tm) (d : Int), tmLift 0 t d = t
  | .mk k n nm ls xs, d => by
    rw [tmLift, liftL_zero k xs 0 d]
    congr 1
    split <;> omega
theorem liftL_zero (k : Int) : ∀ (ts : List Tm) (i : Nat) (d : Int), tmLiftL 0 k ts i d = ts
  | [], _, _ => rfl
  | t :: ts, i, d => by rw [tmLiftL, lift_zero t, liftL_zero k ts (i + 1) d]
end
mutual
/-- how much is needed of what is raised -/
theorem loose_raise {c : Int} (hc : 0 ≤ c) : ∀ (t : Tm) (d : Int), tmLoose (tmLift c t d) d = if tmLoose t d = 0 then 0 else tmLoose t d + c
  | .mk k n nm ls xs, d => by
    rw [tmLift, tmLoose, tmLoose]
    by_cases k1 : k = 1
    · rw [if_pos k1, if_pos k1]
      by_cases hd : d ≤ n
      · rw [if_pos ⟨k1, hd⟩, if_neg (by omega)]; omega
      · rw [if_neg (fun h => hd h.2), if_pos (by omega)]; omega
    · rw [if_neg k1, if_neg k1]
      exact looseL_raise hc k xs 0 d
theorem looseL_raise {c : Int} (hc : 0 ≤ c) (k : Int) : ∀ (ts : List Tm) (i : Nat) (d : Int), tmLooseL k (tmLiftL c k ts i d) i d = if tmLooseL k ts i d = 0 then 0 else tmLooseL k ts i d + c
  | [], _, _ => rfl
  | t :: ts, i, d => by
    have h1 := loose_raise hc t (if tmBind k i = true then d + 1 else d)
    have h2 := tmLoose_nonneg t (if tmBind k i = true then d + 1 else d)
    have h3 := tmLooseL_nonneg k ts (i + 1) d
    rw [tmLiftL, tmLooseL, tmLooseL, looseL_raise hc k ts (i + 1) d]
    obtain ⟨e, he⟩ : ∃ e, (if tmBind k i = true then d + 1 else d) = e := ⟨_, rfl⟩
    rw [he] at h1 h2 ⊢
    rw [h1]
    by_cases a1 : tmLoose t e = 0
    · by_cases a2 : tmLooseL k ts (i + 1) d = 0
      · rw [if_pos a1, if_pos a2, if_pos (by omega)]; omega
      · rw [if_pos a1, if_neg a2, if_neg (by omega)]; omega
    · by_cases a2 : tmLooseL k ts (i + 1) d = 0
      · rw [if_neg a1, if_pos a2, if_neg (by omega)]; omega
      · rw [if_neg a1, if_neg a2, if_neg (by omega)]; omega
end
mutual
/-- is a variable below so many used? -/
def tmLow (c : Int) : Tm → Int → Bool
  | .mk k n _ _ xs, d => decide (k = 1 ∧ d ≤ n ∧ n < c + d) || tmLowL c k xs 0 d
def tmLowL (c k : Int) : List Tm → Nat → Int → Bool
  | [], _, _ => false
  | t :: ts, i, d => tmLow c t (if tmBind k i = true then d + 1 else d) || tmLowL c k ts (i + 1) d
end
mutual
theorem low_lift {c : Int} (hc : 0 ≤ c) : ∀ (t : Tm) (d : Int), tmLow c (tmLift c t d) d = false
  | .mk k n nm ls xs, d => by
    rw [tmLift, tmLow, lowL_lift hc k xs 0 d, Bool.or_false, decide_eq_false_iff_not]
    rintro ⟨h1, h2, h3⟩
    split at h2 <;> split at h3 <;> omega
theorem lowL_lift {c : Int} (hc : 0 ≤ c) (k : Int) : ∀ (ts : List Tm) (i : Nat) (d : Int), tmLowL c k (tmLiftL c k ts i d) i d = false
  | [], _, _ => rfl
  | t :: ts, i, d => by rw [tmLiftL, tmLowL, low_lift hc t, lowL_lift hc k ts (i + 1) d]; rfl
end

/-! terms in the place of variables -/
theorem bld_inst_var {args : List Tm} {n d : Int} : bld (instF args) (.mk 1 n [] [] []) d = if d ≤ n then (if (args.length : Int) ≤ n - d then .mk 1 (n - args.length) [] [] [] else tmLift d (args.getD (args.length - 1 - (n - d).toNat) tm0) 0) else .mk 1 n [] [] [] := by
  by_cases h : d ≤ n
  · rw [if_pos h]
    by_cases h2 : (args.length : Int) ≤ n - d
    · rw [if_pos h2, bld_some (instF_out ⟨rfl, h⟩ h2)]
    · rw [if_neg h2, bld_some (instF_in ⟨rfl, h⟩ h2)]
  · rw [if_neg h, bld_stay (instF_no fun e => h e.2)]
    rfl
theorem bld_inst_other {args : List Tm} {k n : Int} {nm : List UInt8} {ls : List Lv} {xs : List Tm} {d : Int} (h : k ≠ 1) : bld (instF args) (.mk k n nm ls xs) d = .mk k n nm ls (bldL (instF args) k xs 0 d) := bld_stay (instF_no fun e => h e.1)
mutual
/-- what is raised, with terms in the new place, is as it was -/
theorem inst_lift {p : Int} {args : List Tm} : ∀ (t : Tm) (d v : Int), tmFit p t v = true → bld (instF args) (tmLift args.length t d) d = t
  | .mk k n nm ls xs, d, v, h => by
    rw [tmLift]
    by_cases h1 : k = 1
    · obtain ⟨a, b, rfl, rfl, rfl⟩ := fit_var h h1
      subst h1
      rw [tmLiftL]
      by_cases h2 : d ≤ n
      · rw [if_pos ⟨rfl, h2⟩, bld_inst_var, if_pos (by omega), if_pos (by omega)]
        congr 1
        omega
      · rw [if_neg (fun e => h2 e.2), bld_inst_var, if_neg h2]
    · rw [bld_inst_other h1, if_neg (fun e => h1 e.1), instL_lift k xs 0 d v (fit_args h)]
theorem instL_lift {p : Int} {args : List Tm} (k : Int) : ∀ (ts : List Tm) (i : Nat) (d v : Int), tmFitL p k ts i v = true → bldL (instF args) k (tmLiftL args.length k ts i d) i d = ts
  | [], _, _, _, _ => rfl
  | t :: ts, i, d, v, h => by
    obtain ⟨h1, h2⟩ := fitL_cons h
    rw [tmLiftL, bldL, inst_lift t _ _ h1, instL_lift k ts (i + 1) d v h2]
end
mutual
theorem inst_under {p : Int} {a : Tm} {c : Int} (hc : 0 ≤ c) : ∀ (t : Tm) (e v : Int), tmFit p t v = true → bld (instF [a]) (tmLift (1 + c) t e) (c + e) = tmLift c t e
  | .mk k n nm ls xs, e, v, h => by
    rw [tmLift, tmLift]
    by_cases h1 : k = 1
    · obtain ⟨x, y, rfl, rfl, rfl⟩ := fit_var h h1
      subst h1
      rw [tmLiftL, tmLiftL]
      by_cases h2 : e ≤ n
      · rw [if_pos ⟨rfl, h2⟩, if_pos ⟨rfl, h2⟩, bld_inst_var, if_pos (by omega), if_pos (by simp only [List.length_cons, List.length_nil]; omega)]
        congr 1
        simp only [List.length_cons, List.length_nil]
        omega
      · rw [if_neg (fun q => h2 q.2), if_neg (fun q => h2 q.2), bld_inst_var, if_neg (by omega)]
    · rw [bld_inst_other h1, if_neg (fun q => h1 q.1), if_neg (fun q => h1 q.1), instL_under hc k xs 0 e v (fit_args h)]
theorem instL_under {p : Int} {a : Tm} {c : Int} (hc : 0 ≤ c) (k : Int) : ∀ (ts : List Tm) (i : Nat) (e v : Int), tmFitL p k ts i v = true → bldL (instF [a]) k (tmLiftL (1 + c) k ts i e) i (c + e) = tmLiftL c k ts i e
  | [], _, _, _, _ => rfl
  | t :: ts, i, e, v, h => by
    obtain ⟨h1, h2⟩ := fitL_cons h
    rw [tmLiftL, bldL, tmLiftL, instL_under hc k ts (i + 1) e v h2]
    congr 1
    by_cases hb : tmBind k i = true
    · rw [if_pos hb, if_pos hb, show c + e + 1 = c + (e + 1) by omega]
      exact inst_under hc t _ _ h1
    · rw [if_neg hb, if_neg hb]
      exact inst_under hc t _ _ h1
end
mutual
/-- one behind the other, or at once -/
theorem inst_steps {p : Int} {a b : Tm} {w : Int} (hb : tmFit p b w = true) : ∀ (t : Tm) (d v : Int), 0 ≤ d → tmFit p t v = true → bld (instF [a]) (bld (instF [tmLift 1 b 0]) t d) d = bld (instF [a, b]) t d
  | .mk k n nm ls xs, d, v, h0, h => by
    by_cases h1 : k = 1
    · obtain ⟨x, y, rfl, rfl, rfl⟩ := fit_var h h1
      subst h1
      rw [bld_inst_var, bld_inst_var]
      simp only [List.length_cons, List.length_nil]
      by_cases h2 : d ≤ n
      · rw [if_pos h2, if_pos h2]
        by_cases h3 : n = d
        · subst h3
          rw [if_neg (by omega), if_neg (by omega), Int.sub_self]
          show bld (instF [a]) (tmLift n (tmLift 1 b 0) 0) n = tmLift n b 0
          rw [lift_lift (by omega)]
          have := inst_under (a := a) h0 b 0 w hb
          rw [Int.add_zero] at this
          exact this
        · rw [if_pos (by omega), bld_inst_var]
          simp only [List.length_cons, List.length_nil]
          rw [if_pos (by omega)]
          by_cases h4 : n = d + 1
          · rw [if_neg (by omega), if_neg (by omega), show n - ((0 + 1 : Nat) : Int) - d = 0 by omega, show n - d = 1 by omega]
            rfl
          · rw [if_pos (by omega), if_pos (by omega)]
            congr 1
            omega
      · rw [if_neg h2, if_neg h2, bld_inst_var, if_neg h2]
    · rw [bld_inst_other h1, bld_inst_other h1, bld_inst_other h1, instL_steps hb k xs 0 d v h0 (fit_args h)]
theorem instL_steps {p : Int} {a b : Tm} {w : Int} (hb : tmFit p b w = true) (k : Int) : ∀ (ts : List Tm) (i : Nat) (d v : Int), 0 ≤ d → tmFitL p k ts i v = true → bldL (instF [a]) k (bldL (instF [tmLift 1 b 0]) k ts i d) i d = bldL (instF [a, b]) k ts i d
  | [], _, _, _, _, _ => rfl
  | t :: ts, i, d, v, h0, h => by
    obtain ⟨h1, h2⟩ := fitL_cons h
    rw [bldL, bldL, bldL, inst_steps hb t _ _ (by split <;> omega) h1, instL_steps hb k ts (i + 1) d v h0 h2]
end
mutual
theorem inst_loose {p : Int} {a b : Tm} : ∀ (t : Tm) (d v : Int), 0 ≤ d → tmFit p t v = true → tmLoose (bld (instF [a, b]) t d) d ≤ max (max (tmLoose t d - 2) (tmLoose a 0)) (tmLoose b 0)
  | .mk k n nm ls xs, d, v, h0, h => by
    have ha := tmLoose_nonneg a 0
    have hb := tmLoose_nonneg b 0
    by_cases h1 : k = 1
    · obtain ⟨x, y, rfl, rfl, rfl⟩ := fit_var h h1
      subst h1
      rw [bld_inst_var]
      simp only [List.length_cons, List.length_nil]
      by_cases h2 : d ≤ n
      · rw [if_pos h2]
        have la := loose_lift h0 a 0
        have lb := loose_lift h0 b 0
        rw [Int.zero_add] at la lb
        by_cases h3 : n = d
        · subst h3
          rw [if_neg (by omega), Int.sub_self]
          show tmLoose (tmLift n b 0) n ≤ _
          omega
        · by_cases h4 : n = d + 1
          · rw [if_neg (by omega), show n - d = 1 by omega]
            show tmLoose (tmLift d a 0) d ≤ _
            omega
          · rw [if_pos (by omega), tmLoose, tmLoose, if_pos rfl, if_pos rfl]
            omega
      · rw [if_neg h2, tmLoose, if_pos rfl]
        omega
    · rw [bld_inst_other h1, tmLoose, tmLoose, if_neg h1, if_neg h1]
      exact instL_loose k xs 0 d v h0 (fit_args h)
theorem instL_loose {p : Int} {a b : Tm} (k : Int) : ∀ (ts : List Tm) (i : Nat) (d v : Int), 0 ≤ d → tmFitL p k ts i v = true → tmLooseL k (bldL (instF [a, b]) k ts i d) i d ≤ max (max (tmLooseL k ts i d - 2) (tmLoose a 0)) (tmLoose b 0)
  | [], _, _, _, _, _ => by
    have ha := tmLoose_nonneg a 0
    rw [bldL, tmLooseL]
    omega
  | t :: ts, i, d, v, h0, h => by
    obtain ⟨h1, h2⟩ := fitL_cons h
    have e1 := inst_loose (a := a) (b := b) t (if tmBind k i = true then d + 1 else d) _ (by split <;> omega) h1
    have e2 := instL_loose (a := a) (b := b) k ts (i + 1) d v h0 h2
    rw [bldL, tmLooseL, tmLooseL]
    omega
end

/-! how often a variable is used -/
mutual
def tmUses (m : Int) : Tm → Int → Nat
  | .mk k n _ _ xs, d => (if k = 1 ∧ n = m + d then 1 else 0) + tmUsesL m k xs 0 d
def tmUsesL (m k : Int) : List Tm → Nat → Int → Nat
  | [], _, _ => 0
  | t :: ts, i, d => tmUses m t (if tmBind k i = true then d + 1 else d) + tmUsesL m k ts (i + 1) d
end
mutual
theorem inst_nodes {p : Int} {a : Tm} : ∀ (t : Tm) (d v : Int), tmFit p t v = true → (bld (instF [a]) t d).nodes + tmUses 0 t d = t.nodes + tmUses 0 t d * a.nodes
  | .mk k n nm ls xs, d, v, h => by
    by_cases h1 : k = 1
    · obtain ⟨x, y, rfl, rfl, rfl⟩ := fit_var h h1
      subst h1
      rw [bld_inst_var, tmUses, tmUsesL, Int.zero_add]
      simp only [List.length_cons, List.length_nil, true_and]
      by_cases h2 : d ≤ n
      · rw [if_pos h2]
        by_cases h3 : n = d
        · subst h3
          rw [if_neg (by omega), if_pos rfl, Int.sub_self]
          show (tmLift n a 0).nodes + 1 = 1 + 1 * a.nodes
          rw [tmLift_nodes]
          omega
        · rw [if_pos (by omega), if_neg h3]
          simp only [Tm.nodes, Tm.nodesL, Lv.nodesL]
          omega
      · rw [if_neg h2, if_neg (by omega)]
        simp only [Tm.nodes, Tm.nodesL, Lv.nodesL]
        omega
    · rw [bld_inst_other h1, tmUses, if_neg (fun e => h1 e.1), Nat.zero_add]
      have := instL_nodes (a := a) k xs 0 d v (fit_args h)
      simp only [Tm.nodes]
      omega
theorem instL_nodes {p : Int} {a : Tm} (k : Int) : ∀ (ts : List Tm) (i : Nat) (d v : Int), tmFitL p k ts i v = true → Tm.nodesL (bldL (instF [a]) k ts i d) + tmUsesL 0 k ts i d = Tm.nodesL ts + tmUsesL 0 k ts i d * a.nodes
  | [], _, _, _, _ => by rw [bldL, tmUsesL]; omega
  | t :: ts, i, d, v, h => by
    obtain ⟨h1, h2⟩ := fitL_cons h
    have e1 := inst_nodes (a := a) t (if tmBind k i = true then d + 1 else d) _ h1
    have e2 := instL_nodes (a := a) k ts (i + 1) d v h2
    rw [bldL, Tm.nodesL, Tm.nodesL, tmUsesL, Nat.add_mul]
    omega
end
mutual
theorem inst_unused {p : Int} {a b : Tm} : ∀ (t : Tm) (d v : Int), tmFit p t v = true → tmUses 0 t d = 0 → bld (instF [a]) t d = bld (instF [b]) t d
  | .mk k n nm ls xs, d, v, h, hu => by
    rw [tmUses] at hu
    by_cases h1 : k = 1
    · obtain ⟨x, y, rfl, rfl, rfl⟩ := fit_var h h1
      subst h1
      rw [Int.zero_add] at hu
      have h3 : n ≠ d := fun e => by rw [if_pos ⟨rfl, e⟩] at hu; omega
      rw [bld_inst_var, bld_inst_var]
      simp only [List.length_cons, List.length_nil]
      by_cases h2 : d ≤ n
      · rw [if_pos h2, if_pos h2, if_pos (by omega), if_pos (by omega)]
      · rw [if_neg h2, if_neg h2]
    · rw [bld_inst_other h1, bld_inst_other h1, instL_unused k xs 0 d v (fit_args h) (by omega)]
theorem instL_unused {p : Int} {a b : Tm} (k : Int) : ∀ (ts : List Tm) (i : Nat) (d v : Int), tmFitL p k ts i v = true → tmUsesL 0 k ts i d = 0 → bldL (instF [a]) k ts i d = bldL (instF [b]) k ts i d
  | [], _, _, _, _, _ => rfl
  | t :: ts, i, d, v, h, hu => by
    obtain ⟨h1, h2⟩ := fitL_cons h
    rw [tmUsesL] at hu
    rw [bldL, bldL, inst_unused t _ _ h1 (by omega), instL_unused k ts (i + 1) d v h2 (by omega)]
end
end Go.Proofs.YtaldgcnhmnfocaaDoor

/-
  Constants abstracted, and replaced, in plain words (bind). No condition.
-/
namespace Go.Proofs.YtaldgcnhmnfocaaDoor
open Go.RowKit

mutual
/-- does a constant stand in a term? -/
def tmHas (c : List UInt8) : Tm → Bool
  | .mk k _ nm _ xs => decide (k = 3 ∧ nm = c) || tmHasL c xs
def tmHasL (c : List UInt8) : List Tm → Bool
  | [] => false
  | t :: ts => tmHas c t || tmHasL c ts
end
mutual
/-- does it stand with levels? -/
def tmLeveled (c : List UInt8) : Tm → Bool
  | .mk k _ nm ls xs => decide (k = 3 ∧ nm = c ∧ ls ≠ []) || tmLeveledL c xs
def tmLeveledL (c : List UInt8) : List Tm → Bool
  | [] => false
  | t :: ts => tmLeveled c t || tmLeveledL c ts
end
theorem fit_const {p v : Int} {k n : Int} {nm : List UInt8} {ls : List Lv} {xs : List Tm} (h : tmFit p (.mk k n nm ls xs) v = true) (hk : k = 3) : n = 0 ∧ nameOk nm = true ∧ ls.length ≤ 4 ∧ xs = [] := by
  subst hk
  rw [tmFit, Bool.and_eq_true, Bool.and_eq_true] at h
  have h1 := h.1.1
  unfold tmNode at h1
  rw [if_neg (by omega), if_neg (by omega), if_pos rfl] at h1
  simp only [Bool.and_eq_true, decide_eq_true_eq] at h1
  exact ⟨h1.1.1.1, h1.1.1.2, h1.1.2, List.eq_nil_of_length_eq_zero h1.2⟩
theorem fit_tV {p v n : Int} (h0 : 0 ≤ n) (h1 : n < v) : tmFit p (.mk 1 n [] [] []) v = true := by
  rw [tmFit, tmFitL, Bool.and_true, Bool.and_eq_true, tmNode_1]
  exact ⟨⟨h0, h1, rfl, rfl, rfl⟩, rfl⟩

/-! where a text stands -/
theorem stAtI_spec {nms : List (List UInt8)} {nm : List UInt8} (h : 0 ≤ stAtI nms nm) : ∃ i : Nat, stAtI nms nm = i ∧ ∃ hi : i < nms.length, nms[i] = nm := by
  unfold stAtI at h ⊢
  cases hf : nms.findIdx? (fun x => decide (x = nm)) with
  | none => rw [hf] at h; simp at h
  | some i =>
    rw [List.findIdx?_eq_some_iff_getElem] at hf
    obtain ⟨hi, h1, _⟩ := hf
    exact ⟨i, rfl, hi, by simpa using h1⟩
theorem stAtI_none {nms : List (List UInt8)} {nm : List UInt8} (h : ¬0 ≤ stAtI nms nm) : nm ∉ nms := by
  unfold stAtI at h
  cases hf : nms.findIdx? (fun x => decide (x = nm)) with
  | some i => rw [hf] at h; exact absurd (by simp) h
  | none =>
    rw [List.findIdx?_eq_none_iff] at hf
    intro hm
    have := hf nm hm
    simp at this
theorem stAtI_lt (nms : List (List UInt8)) (nm : List UInt8) : stAtI nms nm < nms.length ∧ -1 ≤ stAtI nms nm := by
  by_cases h : 0 ≤ stAtI nms nm
  · obtain ⟨i, e, hi, _⟩ := stAtI_spec h
    omega
  · unfold stAtI at h ⊢
    cases hf : nms.findIdx? (fun x => decide (x = nm)) with
    | some i => rw [hf] at h; exact absurd (by simp) h
    | none => simp only; omega

/-! abstracted -/
theorem abs_const {nms : List (List UInt8)} {k n : Int} {nm : List UInt8} {ls : List Lv} {xs : List Tm} {d : Int} (h : k = 3 ∧ 0 ≤ stAtI nms nm) : absF nms (.mk k n nm ls xs) d = some (.mk 1 ((nms.length : Int) - 1 - stAtI nms nm + d) [] [] []) := if_pos h
theorem abs_other {nms : List (List UInt8)} {k n : Int} {nm : List UInt8} {ls : List Lv} {xs : List Tm} {d : Int} (h : ¬(k = 3 ∧ 0 ≤ stAtI nms nm)) : absF nms (.mk k n nm ls xs) d = movedF nms.length 0 (.mk k n nm ls xs) d := if_neg h
theorem bld_abs_const {nms : List (List UInt8)} {k n : Int} {nm : List UInt8} {ls : List Lv} {xs : List Tm} {d : Int} (h : k = 3 ∧ 0 ≤ stAtI nms nm) : bld (absF nms) (.mk k n nm ls xs) d = .mk 1 ((nms.length : Int) - 1 - stAtI nms nm + d) [] [] [] := bld_some (abs_const h)
theorem bld_abs_var {nms : List (List UInt8)} {n d : Int} (h : d ≤ n) : bld (absF nms) (.mk 1 n [] [] []) d = .mk 1 (n + nms.length) [] [] [] := by
  refine bld_some ?_
  rw [abs_other (by omega)]
  exact moved_yes ⟨rfl, by omega⟩
theorem bld_abs_stay {nms : List (List UInt8)} {k n : Int} {nm : List UInt8} {ls : List Lv} {xs : List Tm} {d : Int} (h : ¬(k = 3 ∧ 0 ≤ stAtI nms nm)) (h2 : ¬(k = 1 ∧ d ≤ n)) : bld (absF nms) (.mk k n nm ls xs) d = .mk k n nm ls (bldL (absF nms) k xs 0 d) := by
  refine bld_stay ?_
  rw [abs_other h]
  exact moved_no (fun e => h2 ⟨e.1, by omega⟩)
/-- constants that stand for themselves -/
def constsOf (nms : List (List UInt8)) : List Tm := nms.map fun nm => .mk 3 0 nm [] []
theorem constsOf_len (nms : List (List UInt8)) : (constsOf nms).length = nms.length := List.length_map _
mutual
/-- constants that are abstracted, and put in again, are as they were -/
theorem abs_back {p : Int} {nms : List (List UInt8)} : ∀ (t : Tm) (d v : Int), tmFit p t v = true → (∀ c ∈ nms, tmLeveled c t = false) → bld (instF (constsOf nms)) (bld (absF nms) t d) d = t
  | .mk k n nm ls xs, d, v, h, hl => by
    by_cases h1 : k = 3 ∧ 0 ≤ stAtI nms nm
    · obtain ⟨i, e, hi, hg⟩ := stAtI_spec h1.2
      obtain ⟨a, b, c, f⟩ := fit_const h h1.1
      have hlv : ls = [] := by
        have := hl nm (by rw [← hg]; exact List.getElem_mem hi)
        rw [tmLeveled, Bool.or_eq_false_iff, decide_eq_false_iff_not] at this
        by_cases hz : ls = []
        · exact hz
        · exact absurd ⟨h1.1, rfl, hz⟩ this.1
      rw [bld_abs_const h1, bld_inst_var, if_pos (by omega), if_neg (by rw [constsOf_len]; omega), constsOf_len]
      rw [show nms.length - 1 - ((nms.length : Int) - 1 - stAtI nms nm + d - d).toNat = i by omega]
      rw [List.getD_eq_getElem?_getD, List.getElem?_eq_getElem (by rw [constsOf_len]; exact hi)]
      simp only [Option.getD_some, constsOf, List.getElem_map]
      rw [tmLift, if_neg (by omega), tmLiftL, hg, h1.1, a, hlv, f]
    · by_cases h2 : k = 1
      · obtain ⟨a, b, rfl, rfl, rfl⟩ := fit_var h h2
        subst h2
        by_cases h3 : d ≤ n
        · rw [bld_abs_var h3, bld_inst_var, if_pos (by omega), constsOf_len, if_pos (by omega)]
          congr 1
          omega
        · rw [bld_abs_stay h1 (fun e => h3 e.2), bldL, bld_inst_var, if_neg h3]
      · rw [bld_abs_stay h1 (fun e => h2 e.1), bld_inst_other h2, absL_back k xs 0 d v (fit_args h) fun c hc => ?_]
        have := hl c hc
        rw [tmLeveled, Bool.or_eq_false_iff] at this
        exact this.2
theorem absL_back {p : Int} {nms : List (List UInt8)} (k : Int) : ∀ (ts : List Tm) (i : Nat) (d v : Int), tmFitL p k ts i v = true → (∀ c ∈ nms, tmLeveledL c ts = false) → bldL (instF (constsOf nms)) k (bldL (absF nms) k ts i d) i d = ts
  | [], _, _, _, _, _ => rfl
  | t :: ts, i, d, v, h, hl => by
    obtain ⟨h1, h2⟩ := fitL_cons h
    rw [bldL, bldL, abs_back t _ _ h1 (fun c hc => ?_), absL_back k ts (i + 1) d v h2 (fun c hc => ?_)]
    · have := hl c hc
      rw [tmLeveledL, Bool.or_eq_false_iff] at this
      exact this.2
    · have := hl c hc
      rw [tmLeveledL, Bool.or_eq_false_iff] at this
      exact this.1
end
mutual
theorem abs_nodes {p : Int} {nms : List (List UInt8)} : ∀ (t : Tm) (d v : Int), tmFit p t v = true → (bld (absF nms) t d).nodes ≤ t.nodes
  | .mk k n nm ls xs, d, v, h => by
    by_cases h1 : k = 3 ∧ 0 ≤ stAtI nms nm
    · rw [bld_abs_const h1]
      simp only [Tm.nodes, Tm.nodesL, Lv.nodesL]
      omega
    · by_cases h2 : k = 1 ∧ d ≤ n
      · obtain ⟨a, b, rfl, rfl, rfl⟩ := fit_var h h2.1
        obtain ⟨rfl, h3⟩ := h2
        rw [bld_abs_var h3]
        exact Nat.le_refl _
      · rw [bld_abs_stay h1 h2]
        have := absL_nodes (nms := nms) k xs 0 d v (fit_args h)
        simp only [Tm.nodes]
        omega
theorem absL_nodes {p : Int} {nms : List (List UInt8)} (k : Int) : ∀ (ts : List Tm) (i : Nat) (d v : Int), tmFitL p k ts i v = true → Tm.nodesL (bldL (absF nms) k ts i d) ≤ Tm.nodesL ts
  | [], _, _, _, _ => Nat.le_refl _
  | t :: ts, i, d, v, h => by
    obtain ⟨h1, h2⟩ := fitL_cons h
    have e1 := abs_nodes (nms := nms) t (if tmBind k i = true then d + 1 else d) _ h1
    have e2 := absL_nodes (nms := nms) k ts (i + 1) d v h2
    rw [bldL, Tm.nodesL, Tm.nodesL]
    omega
end
theorem fit_mk {p v v' : Int} {k n : Int} {nm : List UInt8} {ls : List Lv} {xs ys : List Tm} (h : tmFit p (.mk k n nm ls xs) v = true) (hk : k ≠ 1) (hl : ys.length = xs.length) (hy : tmFitL p k ys 0 v' = true) : tmFit p (.mk k n nm ls ys) v' = true := by
  rw [tmFit, Bool.and_eq_true, Bool.and_eq_true] at h ⊢
  rw [hl, tmNode_k (v' := v) hk]
  exact ⟨h.1, hy⟩
mutual
theorem abs_fit {p : Int} {nms : List (List UInt8)} (hp : p ≤ 4) : ∀ (t : Tm) (d v : Int), 0 ≤ v → 0 ≤ d → tmFit p t (v + d) = true → tmFit p (bld (absF nms) t d) (v + nms.length + d) = true
  | .mk k n nm ls xs, d, v, h0, hd, h => by
    by_cases h1 : k = 3 ∧ 0 ≤ stAtI nms nm
    · have := stAtI_lt nms nm
      rw [bld_abs_const h1]
      exact fit_tV (by omega) (by omega)
    · by_cases h2 : k = 1
      · obtain ⟨a, b, rfl, rfl, rfl⟩ := fit_var h h2
        subst h2
        by_cases h3 : d ≤ n
        · rw [bld_abs_var h3]
          exact fit_tV (by omega) (by omega)
        · rw [bld_abs_stay h1 (fun e => h3 e.2), bldL]
          exact fit_tV a (by omega)
      · rw [bld_abs_stay h1 (fun e => h2 e.1)]
        exact fit_mk h h2 (bldL_len _ _ _ _ _) (absL_fit hp k xs 0 d v h0 hd (fit_args h))
theorem absL_fit {p : Int} {nms : List (List UInt8)} (hp : p ≤ 4) (k : Int) : ∀ (ts : List Tm) (i : Nat) (d v : Int), 0 ≤ v → 0 ≤ d → tmFitL p k ts i (v + d) = true → tmFitL p k (bldL (absF nms) k ts i d) i (v + nms.length + d) = true
  | [], _, _, _, _, _, _ => rfl
  | t :: ts, i, d, v, h0, hd, h => by
    obtain ⟨h1, h2⟩ := fitL_cons h
    rw [bldL, tmFitL, Bool.and_eq_true]
    refine ⟨?_, absL_fit hp k ts (i + 1) d v h0 hd h2⟩
    by_cases hb : tmBind k i = true
    · rw [if_pos hb] at h1 ⊢
      rw [if_pos hb, Int.add_assoc (v + _)]
      exact abs_fit hp t (d + 1) v h0 (by omega) (by rw [← Int.add_assoc]; exact h1)
    · rw [if_neg hb] at h1 ⊢
      rw [if_neg hb]
      exact abs_fit hp t d v h0 hd h1
end
mutual
theorem abs_has {p : Int} {nms : List (List UInt8)} {c : List UInt8} (hc : c ∈ nms) : ∀ (t : Tm) (d v : Int), tmFit p t v = true → tmHas c (bld (absF nms) t d) = false
  | .mk k n nm ls xs, d, v, h => by
    by_cases h1 : k = 3 ∧ 0 ≤ stAtI nms nm
    · rw [bld_abs_const h1, tmHas, tmHasL]
      simp
    · by_cases h2 : k = 1 ∧ d ≤ n
      · obtain ⟨a, b, rfl, rfl, rfl⟩ := fit_var h h2.1
        obtain ⟨rfl, h3⟩ := h2
        rw [bld_abs_var h3, tmHas, tmHasL]
        simp
      · rw [bld_abs_stay h1 h2, tmHas, absL_has hc k xs 0 d v (fit_args h), Bool.or_false, decide_eq_false_iff_not]
        rintro ⟨e1, rfl⟩
        refine h1 ⟨e1, ?_⟩
        by_cases h4 : 0 ≤ stAtI nms nm
        · exact h4
        · exact absurd hc (stAtI_none h4)
theorem absL_has {p : Int} {nms : List (List UInt8)} {c : List UInt8} (hc : c ∈ nms) (k : Int) : ∀ (ts : List Tm) (i : Nat) (d v : Int), tmFitL p k ts i v = true → tmHasL c (bldL (absF nms) k ts i d) = false
  | [], _, _, _, _ => rfl
  | t :: ts, i, d, v, h => by
    obtain ⟨h1, h2⟩ := fitL_cons h
    rw [bldL, tmHasL, abs_has hc t _ _ h1, absL_has hc k ts (i + 1) d v h2]
    rfl
end

/-! replaced -/
theorem repl_yes {c : List UInt8} {u : Tm} {k n : Int} {nm : List UInt8} {ls : List Lv} {xs : List Tm} {d : Int} (h : k = 3 ∧ nm = c) : bld (replF c u) (.mk k n nm ls xs) d = tmLift d u 0 := bld_some (if_pos h)
theorem repl_no {c : List UInt8} {u : Tm} {k n : Int} {nm : List UInt8} {ls : List Lv} {xs : List Tm} {d : Int} (h : ¬(k = 3 ∧ nm = c)) : bld (replF c u) (.mk k n nm ls xs) d = .mk k n nm ls (bldL (replF c u) k xs 0 d) := bld_stay (if_neg h)
mutual
theorem has_lift {c : List UInt8} {e : Int} : ∀ (t : Tm) (d : Int), tmHas c (tmLift e t d) = tmHas c t
  | .mk k n nm ls xs, d => by rw [tmLift, tmHas, tmHas, hasL_lift k xs 0 d]
theorem hasL_lift {c : List UInt8} {e : Int} (k : Int) : ∀ (ts : List Tm) (i : Nat) (d : Int), tmHasL c (tmLiftL e k ts i d) = tmHasL c ts
  | [], _, _ => rfl
  | t :: ts, i, d => by rw [tmLiftL, tmHasL, tmHasL, has_lift t, hasL_lift k ts (i + 1) d]
end
mutual
theorem repl_has {p : Int} {c : List UInt8} {u : Tm} : ∀ (t : Tm) (d v : Int), tmFit p t v = true → tmHas c (bld (replF c u) t d) = (tmHas c t && tmHas c u)
  | .mk k n nm ls xs, d, v, h => by
    by_cases h1 : k = 3 ∧ nm = c
    · rw [repl_yes h1, has_lift, tmHas, decide_eq_true h1, Bool.true_or, Bool.true_and]
    · rw [repl_no h1, tmHas, tmHas, decide_eq_false h1, Bool.false_or, Bool.false_or, replL_has k xs 0 d v (fit_args h)]
theorem replL_has {p : Int} {c : List UInt8} {u : Tm} (k : Int) : ∀ (ts : List Tm) (i : Nat) (d v : Int), tmFitL p k ts i v = true → tmHasL c (bldL (replF c u) k ts i d) = (tmHasL c ts && tmHas c u)
  | [], _, _, _, _ => rfl
  | t :: ts, i, d, v, h => by
    obtain ⟨h1, h2⟩ := fitL_cons h
    rw [bldL, tmHasL, tmHasL, repl_has t _ _ h1, replL_has k ts (i + 1) d v h2]
    cases tmHas c t <;> cases tmHasL c ts <;> cases tmHas c u <;> rfl
end
mutual
theorem repl_none {c : List UInt8} {u : Tm} : ∀ (t : Tm) (d : Int), tmHas c t = false → bld (replF c u) t d = t
  | .mk k n nm ls xs, d, h => by
    rw [tmHas, Bool.or_eq_false_iff, decide_eq_false_iff_not] at h
    rw [repl_no h.1, replL_none k xs 0 d h.2]
theorem replL_none {c : List UInt8} {u : Tm} (k : Int) : ∀ (ts : List Tm) (i : Nat) (d : Int), tmHasL c ts = false → bldL (replF c u) k ts i d = ts
  | [], _, _, _ => rfl
  | t :: ts, i, d, h => by
    rw [tmHasL, Bool.or_eq_false_iff] at h
    rw [bldL, repl_none t _ h.1, replL_none k ts (i + 1) d h.2]
end
mutual
theorem repl_self {p : Int} {c : List UInt8} : ∀ (t : Tm) (d v : Int), tmFit p t v = true → tmLeveled c t = false → bld (replF c (.mk 3 0 c [] [])) t d = t
  | .mk k n nm ls xs, d, v, h, hl => by
    rw [tmLeveled, Bool.or_eq_false_iff, decide_eq_false_iff_not] at hl
    by_cases h1 : k = 3 ∧ nm = c
    · obtain ⟨a, b, e, f⟩ := fit_const h h1.1
      have hz : ls = [] := by
        by_cases hz : ls = []
        · exact hz
        · exact absurd ⟨h1.1, h1.2, hz⟩ hl.1
      rw [repl_yes h1, tmLift, if_neg (by omega), tmLiftL, h1.1, h1.2, a, hz, f]
    · rw [repl_no h1, replL_self k xs 0 d v (fit_args h) hl.2]
theorem replL_self {p : Int} {c : List UInt8} (k : Int) : ∀ (ts : List Tm) (i : Nat) (d v : Int), tmFitL p k ts i v = true → tmLeveledL c ts = false → bldL (replF c (.mk 3 0 c [] [])) k ts i d = ts
  | [], _, _, _, _, _ => rfl
  | t :: ts, i, d, v, h, hl => by
    obtain ⟨h1, h2⟩ := fitL_cons h
    rw [tmLeveledL, Bool.or_eq_false_iff] at hl
    rw [bldL, repl_self t _ _ h1 hl.1, replL_self k ts (i + 1) d v h2 hl.2]
end
mutual
theorem repl_fit {p : Int} {c : List UInt8} {u : Tm} {w : Int} (hp : p ≤ 4) (hu : tmFit p u w = true) : ∀ (t : Tm) (d : Int), 0 ≤ d → tmFit p t (w + d) = true → tmFit p (bld (replF c u) t d) (w + d) = true
  | .mk k n nm ls xs, d, hd, h => by
    by_cases h1 : k = 3 ∧ nm = c
    · rw [repl_yes h1]
      exact fit_lift hd u 0 w hu
    · rw [repl_no h1]
      by_cases h2 : k = 1
      · obtain ⟨a, b, rfl, rfl, rfl⟩ := fit_var h h2
        rw [bldL]
        exact h
      · exact fit_mk h h2 (bldL_len _ _ _ _ _) (replL_fit hp hu k xs 0 d hd (fit_args h))
theorem replL_fit {p : Int} {c : List UInt8} {u : Tm} {w : Int} (hp : p ≤ 4) (hu : tmFit p u w = true) (k : Int) : ∀ (ts : List Tm) (i : Nat) (d : Int), 0 ≤ d → tmFitL p k ts i (w + d) = true → tmFitL p k (bldL (replF c u) k ts i d) i (w + d) = true
  | [], _, _, _, _ => rfl
  | t :: ts, i, d, hd, h => by
    obtain ⟨h1, h2⟩ := fitL_cons h
    rw [bldL, tmFitL, Bool.and_eq_true]
    refine ⟨?_, replL_fit hp hu k ts (i + 1) d hd h2⟩
    by_cases hb : tmBind k i = true
    · rw [if_pos hb] at h1 ⊢
      rw [if_pos hb, Int.add_assoc]
      exact repl_fit hp hu t (d + 1) (by omega) (by rw [← Int.add_assoc]; exact h1)
    · rw [if_neg hb] at h1 ⊢
      rw [if_neg hb]
      exact repl_fit hp hu t d hd h1
end

end Go.Proofs.YtaldgcnhmnfocaaDoor

/-
  A term's constants, in order; slices.Contains over texts; bind.Occurs. No condition.
-/
namespace Go.Proofs.YtaldgcnhmnfocaaDoor
open Go.RowKit

/-! a term's constants -/
mutual
theorem has_subs {c : List UInt8} : ∀ t : Tm, tmHas c t = true ↔ c ∈ cnames t.subs
  | .mk k n nm ls xs => by
    rw [tmHas, Tm.subs, cnames, List.filter_cons]
    have ih := hasL_subs (c := c) xs
    rw [cnames] at ih
    by_cases h : k = 3
    · rw [if_pos (by simp [Tm.kind, h]), List.map_cons, List.mem_cons, ← ih]
      simp only [Bool.or_eq_true, decide_eq_true_eq, h, true_and]
      exact ⟨fun e => e.imp Eq.symm id, fun e => e.imp Eq.symm id⟩
    · rw [if_neg (by simp [Tm.kind, h]), ← ih]
      simp [h]
theorem hasL_subs {c : List UInt8} : ∀ ts : List Tm, tmHasL c ts = true ↔ c ∈ cnames (Tm.subsL ts)
  | [] => by simp [tmHasL, Tm.subsL, cnames]
  | t :: ts => by
    have h1 := has_subs (c := c) t
    have h2 := hasL_subs (c := c) ts
    rw [cnames] at h1 h2
    rw [tmHasL, Tm.subsL, cnames, List.filter_append, List.map_append, List.mem_append, Bool.or_eq_true, h1, h2]
end

theorem once_all {l : List (List UInt8)} : ∀ (j : Nat) (h : j < l.length), l[j] ∈ stsOnce l
  | j, h => by
    unfold stsOnce Lib.compact Lib.compactUpTo
    by_cases hk : Lib.keeps l.toArray j = true
    · refine List.mem_map.2 ⟨j, List.mem_filter.2 ⟨List.mem_range.2 h, hk⟩, ?_⟩
      rw [getElem!_pos l.toArray j (by simpa using h)]
      simp
    · unfold Lib.keeps at hk
      simp only [decide_eq_true_eq, not_or, Decidable.not_not] at hk
      obtain ⟨h0, h1⟩ := hk
      rw [getElem!_pos l.toArray j (by simpa using h), getElem!_pos l.toArray (j - 1) (by simp; omega)] at h1
      have ih := once_all (l := l) (j - 1) (by omega)
      unfold stsOnce Lib.compact Lib.compactUpTo at ih
      have e : l[j] = l[j - 1]'(by omega) := by simpa using h1
      rw [e]
      exact ih
termination_by j => j
theorem nmSort_mem {l : List (List UInt8)} {s : List UInt8} : s ∈ nmSort l ↔ s ∈ l := by
  unfold nmSort
  constructor
  · intro h
    exact stsSort_mem.1 (stsOnce_mem h)
  · intro h
    obtain ⟨j, hj, e⟩ := List.getElem_of_mem (stsSort_mem.2 h)
    rw [← e]
    exact once_all j hj
/-- does a constant occur in a right term? -/
def tmOccurs (c : List UInt8) (t : Tm) : Bool := tmRight 4 1125899906842624 t && tmHas c t
theorem occurs_iff (c : List UInt8) (t : Tm) : decide (c ∈ tmConsts t) = tmOccurs c t := by
  unfold tmConsts tmOccurs
  by_cases h : tmRight 4 1125899906842624 t = true
  · rw [if_pos h, h, Bool.true_and, Bool.eq_iff_iff, decide_eq_true_eq, nmSort_mem]
    exact (has_subs t).symm
  · rw [if_neg h, Bool.eq_false_iff.2 h]
    simp
end Go.Proofs.YtaldgcnhmnfocaaDoor

/-
  slices.Index, Contains over texts. No condition.
-/
namespace Go.Proofs.YtaldgcnhmnfocaaDoor
open Go.RowKit

theorem stAtI_hit {ss : List (List UInt8)} {s : List UInt8} {j : Nat} (h : j < ss.length) (he : ss[j] = s) (hn : s ∉ ss.take j) : stAtI ss s = j := by
  unfold stAtI
  have : ss.findIdx? (fun x => decide (x = s)) = some j := by
    rw [List.findIdx?_eq_some_iff_getElem]
    refine ⟨h, by simp [he], fun i hi => ?_⟩
    simp only [decide_eq_true_eq]
    intro e
    exact hn (List.mem_take_iff_getElem.2 ⟨i, by omega, e⟩)
  rw [this]
theorem stAtI_miss {ss : List (List UInt8)} {s : List UInt8} (hn : s ∉ ss) : stAtI ss s = -1 := by
  unfold stAtI
  have : ss.findIdx? (fun x => decide (x = s)) = none := by
    rw [List.findIdx?_eq_none_iff]
    intro x hx
    simp only [decide_eq_false_iff_not]
    rintro rfl
    exact hn hx
  rw [this]
theorem stAtI_mem {ss : List (List UInt8)} {s : List UInt8} : decide (0 ≤ stAtI ss s) = decide (s ∈ ss) := by
  by_cases h : 0 ≤ stAtI ss s
  · obtain ⟨i, _, hi, he⟩ := stAtI_spec h
    rw [decide_eq_true h, decide_eq_true (he ▸ List.getElem_mem hi)]
  · rw [decide_eq_false h, decide_eq_false (stAtI_none h)]
end Go.Proofs.YtaldgcnhmnfocaaDoor

/-
  deps, plain: a walk from names to what they need; what is sorted; what declarations declare and need. No condition.
-/
namespace Go.Proofs.YtaldgcnhmnfocaaDoor
open Go.RowKit

/-! a walk from names to what they need, plain -/
abbrev Sg := List (List UInt8) × List Nat

section
variable (pl : List UInt8 → List Nat) (nd : Nat → List (List UInt8))
/-- a place is gone to -/
def plc (V : List UInt8 → Sg → Sg) (σ : Sg) (i : Nat) : Sg := if i ∈ σ.2 then (σ.1, σ.2 ++ [i]) else (nd i).foldl (fun σ n => V n σ) (σ.1, σ.2 ++ [i])
/-- a name is gone to: names that were, places that were -/
def vis : Nat → List UInt8 → Sg → Sg
  | 0, _, σ => σ
  | N + 1, s, σ => if pl s = [] ∨ s ∈ σ.1 then σ else (pl s).foldl (plc nd (vis N)) (σ.1 ++ [s], σ.2)

variable {pl nd}
theorem vis_yes {N : Nat} {s : List UInt8} {σ : Sg} (h : pl s = [] ∨ s ∈ σ.1) : vis pl nd N s σ = σ := by
  cases N with
  | zero => rfl
  | succ N => rw [vis, if_pos h]
theorem vis_no {N : Nat} {s : List UInt8} {σ : Sg} (h : ¬(pl s = [] ∨ s ∈ σ.1)) : vis pl nd (N + 1) s σ = (pl s).foldl (plc nd (vis pl nd N)) (σ.1 ++ [s], σ.2) := by rw [vis, if_neg h]

/-- what is kept by all steps is kept by the whole walk -/
theorem vis_ind {R : Sg → Sg → Prop} (h0 : ∀ σ, R σ σ) (h1 : ∀ a b c, R a b → R b c → R a c) (hs : ∀ σ s, pl s ≠ [] → s ∉ σ.1 → R σ (σ.1 ++ [s], σ.2)) (hd : ∀ σ i, R σ (σ.1, σ.2 ++ [i])) :
    ∀ (N : Nat) (s : List UInt8) (σ : Sg), R σ (vis pl nd N s σ)
  | 0, _, σ => h0 σ
  | N + 1, s, σ => by
    by_cases h : pl s = [] ∨ s ∈ σ.1
    · rw [vis_yes h]; exact h0 σ
    · rw [vis_no h]
      rw [not_or] at h
      refine h1 _ _ _ (hs σ s h.1 h.2) ?_
      have key : ∀ (is : List Nat) (τ : Sg), R τ (is.foldl (plc nd (vis pl nd N)) τ) := by
        intro is
        induction is with
        | nil => exact h0
        | cons i is ih =>
          intro τ
          rw [List.foldl_cons]
          refine h1 _ _ _ ?_ (ih _)
          unfold plc
          by_cases hi : i ∈ τ.2
          · rw [if_pos hi]; exact hd τ i
          · rw [if_neg hi]
            refine h1 _ _ _ (hd τ i) ?_
            have k2 : ∀ (ns : List (List UInt8)) (τ : Sg), R τ (ns.foldl (fun σ n => vis pl nd N n σ) τ) := by
              intro ns
              induction ns with
              | nil => exact h0
              | cons n ns ih2 =>
                intro τ
                rw [List.foldl_cons]
                exact h1 _ _ _ (vis_ind h0 h1 hs hd N n τ) (ih2 _)
            exact k2 _ _
      exact key _ _
/-- names stay -/
def Sg.le (σ τ : Sg) : Prop := (∀ s ∈ σ.1, s ∈ τ.1) ∧ ∀ i ∈ σ.2, i ∈ τ.2
theorem Sg.le.refl (σ : Sg) : Sg.le σ σ := ⟨fun _ h => h, fun _ h => h⟩
theorem Sg.le.trans {a b c : Sg} (h : Sg.le a b) (k : Sg.le b c) : Sg.le a c := ⟨fun s h1 => k.1 s (h.1 s h1), fun s h1 => k.2 s (h.2 s h1)⟩
theorem vis_le (N : Nat) (s : List UInt8) (σ : Sg) : Sg.le σ (vis pl nd N s σ) :=
  vis_ind (R := Sg.le) Sg.le.refl (fun _ _ _ => Sg.le.trans) (fun _ _ _ _ => ⟨fun _ h => List.mem_append.2 (Or.inl h), fun _ h => h⟩) (fun _ _ => ⟨fun _ h => h, fun _ h => List.mem_append.2 (Or.inl h)⟩) N s σ
/-- each name once, and each has places -/
def Sg.Ok (pl : List UInt8 → List Nat) (σ : Sg) : Prop := σ.1.Nodup ∧ ∀ s ∈ σ.1, pl s ≠ []
theorem Sg.Ok.mark {σ : Sg} {s : List UInt8} (h : Sg.Ok pl σ) (h1 : pl s ≠ []) (h2 : s ∉ σ.1) : Sg.Ok pl (σ.1 ++ [s], σ.2) := by
  refine ⟨?_, fun x hx => ?_⟩
  · simp only
    rw [List.nodup_append]
    refine ⟨h.1, by simp, fun a ha b hb => ?_⟩
    rw [List.mem_singleton] at hb
    subst hb
    rintro rfl
    exact h2 ha
  · rcases List.mem_append.1 hx with hx | hx
    · exact h.2 x hx
    · rw [List.mem_singleton] at hx; subst hx; exact h1
theorem vis_ok (N : Nat) (s : List UInt8) (σ : Sg) : Sg.Ok pl σ → Sg.Ok pl (vis pl nd N s σ) :=
  vis_ind (R := fun a b => Sg.Ok pl a → Sg.Ok pl b) (fun _ h => h) (fun _ _ _ h k x => k (h x)) (fun _ _ h1 h2 h => h.mark h1 h2) (fun _ _ h => h) N s σ

/-! how far it may go -/
/-- names that were not yet -/
def free (keys : List (List UInt8)) (σ : Sg) : Nat := (keys.filter fun s => !decide (s ∈ σ.1)).length
def pot (pl : List UInt8 → List Nat) (keys : List (List UInt8)) (σ : Sg) : Nat := ((keys.filter fun s => !decide (s ∈ σ.1)).map fun s => (pl s).length).sum
theorem filter_len_le {α : Type} {p q : α → Bool} : ∀ {l : List α}, (∀ x ∈ l, p x = true → q x = true) → (l.filter p).length ≤ (l.filter q).length
  | [], _ => Nat.le_refl _
  | a :: l, h => by
    have ih := filter_len_le (l := l) fun x hx => h x (List.mem_cons_of_mem _ hx)
    have ha := h a (by simp)
    cases hp : p a with
    | false =>
      rw [List.filter_cons_of_neg (by simp [hp])]
      cases hq : q a with
      | false => rw [List.filter_cons_of_neg (by simp [hq])]; exact ih
      | true => rw [List.filter_cons_of_pos hq, List.length_cons]; omega
    | true =>
      rw [List.filter_cons_of_pos hp, List.filter_cons_of_pos (ha hp), List.length_cons, List.length_cons]
      omega
theorem free_le {keys : List (List UInt8)} {σ τ : Sg} (h : Sg.le σ τ) : free keys τ ≤ free keys σ := by
  refine filter_len_le fun x _ hx => ?_
  simp only [Bool.not_eq_true', decide_eq_false_iff_not] at hx ⊢
  exact fun k => hx (h.1 x k)
theorem filter_cut {keys : List (List UInt8)} {S : List (List UInt8)} {s : List UInt8} (hn : keys.Nodup) (hk : s ∈ keys) (hs : s ∉ S) (g : List UInt8 → Nat) :
    ((keys.filter fun x => !decide (x ∈ S)).map g).sum = ((keys.filter fun x => !decide (x ∈ S ++ [s])).map g).sum + g s := by
  induction keys with
  | nil => cases hk
  | cons a keys ih =>
    rw [List.nodup_cons] at hn
    by_cases ha : a = s
    · subst ha
      have e : ∀ x ∈ keys, (!decide (x ∈ S)) = !decide (x ∈ S ++ [a]) := fun x hx => by
        have : x ≠ a := by rintro rfl; exact hn.1 hx
        simp [this]
      rw [List.filter_cons_of_pos (by simp [hs]), List.filter_cons_of_neg (by simp), List.filter_congr e, List.map_cons, List.sum_cons]
      omega
    · have ih := ih hn.2 (by rcases List.mem_cons.1 hk with h | h; exact absurd h.symm ha; exact h)
      by_cases h : a ∈ S
      · rw [List.filter_cons_of_neg (by simp [h]), List.filter_cons_of_neg (by simp [h])]
        exact ih
      · rw [List.filter_cons_of_pos (by simp [h]), List.filter_cons_of_pos (by simp [h, ha]), List.map_cons, List.map_cons, List.sum_cons, List.sum_cons]
        omega
theorem sum_ones {α : Type} : ∀ l : List α, (l.map fun _ => 1).sum = l.length
  | [] => rfl
  | a :: l => by rw [List.map_cons, List.sum_cons, sum_ones l, List.length_cons]; omega
theorem free_cut {keys : List (List UInt8)} {σ : Sg} {s : List UInt8} (hn : keys.Nodup) (hk : s ∈ keys) (hs : s ∉ σ.1) : free keys σ = free keys (σ.1 ++ [s], σ.2) + 1 := by
  have := filter_cut hn hk hs fun _ => 1
  rw [sum_ones, sum_ones] at this
  exact this
theorem pot_cut {keys : List (List UInt8)} {σ : Sg} {s : List UInt8} (hn : keys.Nodup) (hk : s ∈ keys) (hs : s ∉ σ.1) : pot pl keys σ = pot pl keys (σ.1 ++ [s], σ.2) + (pl s).length := filter_cut hn hk hs fun s => (pl s).length
theorem free_zero {keys : List (List UInt8)} {σ : Sg} {s : List UInt8} (hk : pl s ≠ [] → s ∈ keys) (h : free keys σ = 0) : pl s = [] ∨ s ∈ σ.1 := by
  by_cases h1 : pl s = []
  · exact Or.inl h1
  · refine Or.inr ?_
    have := List.length_eq_zero_iff.1 h
    rw [List.filter_eq_nil_iff] at this
    simpa using this s (hk h1)
/-- places are gone to but so many times -/
theorem vis_pot {keys : List (List UInt8)} (hn : keys.Nodup) (hk : ∀ s, pl s ≠ [] → s ∈ keys) : ∀ (N : Nat) (s : List UInt8) (σ : Sg), (vis pl nd N s σ).2.length + pot pl keys (vis pl nd N s σ) ≤ σ.2.length + pot pl keys σ
  | 0, _, _ => Nat.le_refl _
  | N + 1, s, σ => by
    by_cases h : pl s = [] ∨ s ∈ σ.1
    · rw [vis_yes h]; exact Nat.le_refl _
    · rw [vis_no h]
      rw [not_or] at h
      have key : ∀ (is : List Nat) (τ : Sg), (is.foldl (plc nd (vis pl nd N)) τ).2.length + pot pl keys (is.foldl (plc nd (vis pl nd N)) τ) ≤ τ.2.length + pot pl keys τ + is.length := by
        intro is
        induction is with
        | nil => intro _; exact Nat.le_refl _
        | cons i is ih =>
          intro τ
          rw [List.foldl_cons]
          refine Nat.le_trans (ih _) ?_
          have k3 : (plc nd (vis pl nd N) τ i).2.length + pot pl keys (plc nd (vis pl nd N) τ i) ≤ τ.2.length + pot pl keys τ + 1 := by
            have e1 : pot pl keys (τ.1, τ.2 ++ [i]) = pot pl keys τ := rfl
            unfold plc
            by_cases hi : i ∈ τ.2
            · rw [if_pos hi, e1]; simp only [List.length_append, List.length_cons, List.length_nil]; omega
            · rw [if_neg hi]
              have k2 : ∀ (ns : List (List UInt8)) (τ : Sg), (ns.foldl (fun σ n => vis pl nd N n σ) τ).2.length + pot pl keys (ns.foldl (fun σ n => vis pl nd N n σ) τ) ≤ τ.2.length + pot pl keys τ := by
                intro ns
                induction ns with
                | nil => intro _; exact Nat.le_refl _
                | cons n ns ih2 =>
                  intro τ
                  rw [List.foldl_cons]
                  exact Nat.le_trans (ih2 _) (vis_pot hn hk N n τ)
              have := k2 (nd i) (τ.1, τ.2 ++ [i])
              rw [e1] at this
              simp only [List.length_append, List.length_cons, List.length_nil] at this
              omega
          rw [List.length_cons]
          omega
      have h1 := key (pl s) (σ.1 ++ [s], σ.2)
      have h2 := pot_cut (pl := pl) hn (hk s h.1) h.2
      simp only at h1
      omega
theorem plc_le (V : List UInt8 → Sg → Sg) (hV : ∀ s σ, Sg.le σ (V s σ)) (σ : Sg) (i : Nat) : Sg.le σ (plc nd V σ i) := by
  have a1 : Sg.le σ (σ.1, σ.2 ++ [i]) := ⟨fun _ h => h, fun _ h => List.mem_append.2 (Or.inl h)⟩
  unfold plc
  by_cases hi : i ∈ σ.2
  · rw [if_pos hi]; exact a1
  · rw [if_neg hi]
    refine a1.trans ?_
    generalize (σ.1, σ.2 ++ [i]) = τ
    generalize nd i = ns
    clear hi a1
    induction ns generalizing τ with
    | nil => exact Sg.le.refl _
    | cons n ns ih => exact (hV n τ).trans (ih _)
theorem fold_le (V : List UInt8 → Sg → Sg) (hV : ∀ s σ, Sg.le σ (V s σ)) : ∀ (ns : List (List UInt8)) (τ : Sg), Sg.le τ (ns.foldl (fun σ n => V n σ) τ)
  | [], _ => Sg.le.refl _
  | n :: ns, τ => (hV n τ).trans (fold_le V hV ns _)
theorem foldp_le (V : List UInt8 → Sg → Sg) (hV : ∀ s σ, Sg.le σ (V s σ)) : ∀ (ns : List Nat) (τ : Sg), Sg.le τ (ns.foldl (plc nd V) τ)
  | [], _ => Sg.le.refl _
  | n :: ns, τ => (plc_le V hV τ n).trans (foldp_le V hV ns _)

/-! where it leads -/
/-- all that names of it need is in it -/
def Shut (pl : List UInt8 → List Nat) (nd : Nat → List (List UInt8)) (C : List UInt8 → Prop) : Prop := ∀ s, C s → ∀ i ∈ pl s, ∀ n ∈ nd i, pl n ≠ [] → C n
theorem vis_in {C : List UInt8 → Prop} (hC : Shut pl nd C) : ∀ (N : Nat) (s : List UInt8) (σ : Sg), (pl s ≠ [] → C s) → (∀ x ∈ σ.1, C x) → ∀ x ∈ (vis pl nd N s σ).1, C x
  | 0, _, _, _, h => h
  | N + 1, s, σ, h0, h => by
    by_cases hs : pl s = [] ∨ s ∈ σ.1
    · rw [vis_yes hs]; exact h
    · rw [vis_no hs]
      rw [not_or] at hs
      have hCs := h0 hs.1
      have key : ∀ (is : List Nat) (τ : Sg), (∀ i ∈ is, i ∈ pl s) → (∀ x ∈ τ.1, C x) → ∀ x ∈ (is.foldl (plc nd (vis pl nd N)) τ).1, C x := by
        intro is
        induction is with
        | nil => exact fun τ _ h => h
        | cons i is ih =>
          intro τ hin hτ
          rw [List.foldl_cons]
          refine ih _ (fun j hj => hin j (List.mem_cons_of_mem _ hj)) ?_
          unfold plc
          by_cases hi : i ∈ τ.2
          · rw [if_pos hi]; exact hτ
          · rw [if_neg hi]
            have k2 : ∀ (ns : List (List UInt8)) (τ : Sg), (∀ n ∈ ns, n ∈ nd i) → (∀ x ∈ τ.1, C x) → ∀ x ∈ (ns.foldl (fun σ n => vis pl nd N n σ) τ).1, C x := by
              intro ns
              induction ns with
              | nil => exact fun τ _ h => h
              | cons n ns ih2 =>
                intro τ hin2 hτ
                rw [List.foldl_cons]
                exact ih2 _ (fun j hj => hin2 j (List.mem_cons_of_mem _ hj)) (vis_in hC N n τ (fun hp => hC s hCs i (hin i (by simp)) n (hin2 n (by simp)) hp) hτ)
            exact k2 _ _ (fun _ h => h) hτ
      refine key _ _ (fun _ h => h) fun x hx => ?_
      rcases List.mem_append.1 hx with hx | hx
      · exact h x hx
      · rw [List.mem_singleton] at hx; subst hx; exact hCs

/-- names that were have all their places gone to, places that were gone to have all their needs; but for those that are under way -/
def Done (pl : List UInt8 → List Nat) (nd : Nat → List (List UInt8)) (G : List UInt8 → Prop) (K : Nat → Prop) (σ : Sg) : Prop := (∀ s ∈ σ.1, ¬G s → ∀ i ∈ pl s, i ∈ σ.2) ∧ ∀ i ∈ σ.2, ¬K i → ∀ n ∈ nd i, pl n ≠ [] → n ∈ σ.1
theorem vis_done {keys : List (List UInt8)} (hn : keys.Nodup) (hk : ∀ s, pl s ≠ [] → s ∈ keys) : ∀ (N : Nat) (s : List UInt8) (σ : Sg) (G : List UInt8 → Prop) (K : Nat → Prop), free keys σ ≤ N → Done pl nd G K σ → Done pl nd G K (vis pl nd N s σ) ∧ (pl s ≠ [] → s ∈ (vis pl nd N s σ).1)
  | N, s, σ, G, K, hN, h => by
    by_cases hs : pl s = [] ∨ s ∈ σ.1
    · rw [vis_yes hs]
      exact ⟨h, fun h1 => hs.resolve_left h1⟩
    · cases N with
      | zero => exact absurd (free_zero (hk s) (by omega)) hs
      | succ N =>
        rw [vis_no hs]
        rw [not_or] at hs
        have hc := free_cut hn (hk s hs.1) hs.2
        have hV : ∀ s σ, Sg.le σ (vis pl nd N s σ) := fun s σ => vis_le N s σ
        -- the places
        have key : ∀ (is : List Nat) (τ : Sg), free keys τ ≤ N → Done pl nd (fun x => G x ∨ x = s) K τ → Done pl nd (fun x => G x ∨ x = s) K (is.foldl (plc nd (vis pl nd N)) τ) ∧ ∀ i ∈ is, i ∈ (is.foldl (plc nd (vis pl nd N)) τ).2 := by
          intro is
          induction is with
          | nil => exact fun τ _ h => ⟨h, nofun⟩
          | cons i is ih =>
            intro τ hf hτ
            rw [List.foldl_cons]
            have hle := plc_le (nd := nd) (vis pl nd N) hV τ i
            have step : Done pl nd (fun x => G x ∨ x = s) K (plc nd (vis pl nd N) τ i) ∧ i ∈ (plc nd (vis pl nd N) τ i).2 := by
              unfold plc
              by_cases hi : i ∈ τ.2
              · rw [if_pos hi]
                refine ⟨⟨fun x hx hg j hj => List.mem_append.2 (Or.inl (hτ.1 x hx hg j hj)), fun j hj hnk n hn2 hp => ?_⟩, by simp⟩
                rcases List.mem_append.1 hj with hj | hj
                · exact hτ.2 j hj hnk n hn2 hp
                · rw [List.mem_singleton] at hj; subst hj
                  exact hτ.2 j hi hnk n hn2 hp
              · rw [if_neg hi]
                have k2 : ∀ (ns : List (List UInt8)) (τ : Sg), free keys τ ≤ N → Done pl nd (fun x => G x ∨ x = s) (fun j => K j ∨ j = i) τ → Done pl nd (fun x => G x ∨ x = s) (fun j => K j ∨ j = i) (ns.foldl (fun σ n => vis pl nd N n σ) τ) ∧ ∀ n ∈ ns, pl n ≠ [] → n ∈ (ns.foldl (fun σ n => vis pl nd N n σ) τ).1 := by
                  intro ns
                  induction ns with
                  | nil => exact fun τ _ h => ⟨h, nofun⟩
                  | cons n ns ih2 =>
                    intro τ hf hτ
                    rw [List.foldl_cons]
                    obtain ⟨g1, g2⟩ := vis_done hn hk N n τ _ _ hf hτ
                    obtain ⟨g3, g4⟩ := ih2 _ (Nat.le_trans (free_le (hV n τ)) hf) g1
                    refine ⟨g3, fun m hm hp => ?_⟩
                    rcases List.mem_cons.1 hm with rfl | hm
                    · exact (fold_le (vis pl nd N) hV ns _).1 _ (g2 hp)
                    · exact g4 m hm hp
                have hd : Done pl nd (fun x => G x ∨ x = s) (fun j => K j ∨ j = i) (τ.1, τ.2 ++ [i]) := by
                  refine ⟨fun x hx hg j hj => List.mem_append.2 (Or.inl (hτ.1 x hx hg j hj)), fun j hj hnk n hn2 hp => ?_⟩
                  rw [not_or] at hnk
                  rcases List.mem_append.1 hj with hj | hj
                  · exact hτ.2 j hj hnk.1 n hn2 hp
                  · rw [List.mem_singleton] at hj; exact absurd hj hnk.2
                obtain ⟨g1, g2⟩ := k2 (nd i) (τ.1, τ.2 ++ [i]) hf hd
                refine ⟨⟨g1.1, fun j hj hnk n hn2 hp => ?_⟩, (fold_le (vis pl nd N) hV (nd i) (τ.1, τ.2 ++ [i])).2 i (by simp)⟩
                by_cases hji : j = i
                · subst hji
                  exact g2 n hn2 hp
                · exact g1.2 j hj (by rw [not_or]; exact ⟨hnk, hji⟩) n hn2 hp
            obtain ⟨g1, g2⟩ := ih _ (Nat.le_trans (free_le hle) hf) step.1
            refine ⟨g1, fun j hj => ?_⟩
            rcases List.mem_cons.1 hj with rfl | hj
            · exact (foldp_le (vis pl nd N) hV is _).2 _ step.2
            · exact g2 j hj
        have h0 : Done pl nd (fun x => G x ∨ x = s) K (σ.1 ++ [s], σ.2) := by
          refine ⟨fun x hx hg j hj => ?_, fun j hj hnk n hn2 hp => List.mem_append.2 (Or.inl (h.2 j hj hnk n hn2 hp))⟩
          rw [not_or] at hg
          rcases List.mem_append.1 hx with hx | hx
          · exact h.1 x hx hg.1 j hj
          · rw [List.mem_singleton] at hx; exact absurd hx hg.2
        obtain ⟨g1, g2⟩ := key (pl s) (σ.1 ++ [s], σ.2) (by omega) h0
        refine ⟨⟨fun x hx hg j hj => ?_, g1.2⟩, fun _ => (foldp_le (vis pl nd N) hV (pl s) (σ.1 ++ [s], σ.2)).1 s (by simp)⟩
        by_cases hxs : x = s
        · subst hxs; exact g2 j hj
        · exact g1.1 x hx (by rw [not_or]; exact ⟨hg, hxs⟩) j hj
/-- from some names -/
def visAll (pl : List UInt8 → List Nat) (nd : Nat → List (List UInt8)) (N : Nat) (ns : List (List UInt8)) : Sg := ns.foldl (fun σ n => vis pl nd N n σ) ([], [])
theorem visAll_snoc (N : Nat) (ns : List (List UInt8)) (n : List UInt8) : visAll pl nd N (ns ++ [n]) = vis pl nd N n (visAll pl nd N ns) := by rw [visAll, List.foldl_append]; rfl
theorem visAll_spec {keys : List (List UInt8)} (hn : keys.Nodup) (hk : ∀ s, pl s ≠ [] → s ∈ keys) (N : Nat) (hN : keys.length ≤ N) (ns : List (List UInt8)) :
    Sg.Ok pl (visAll pl nd N ns) ∧ Done pl nd (fun _ => False) (fun _ => False) (visAll pl nd N ns) ∧ (∀ s ∈ ns, pl s ≠ [] → s ∈ (visAll pl nd N ns).1) ∧ (∀ C, Shut pl nd C → (∀ s ∈ ns, pl s ≠ [] → C s) → ∀ x ∈ (visAll pl nd N ns).1, C x) := by
  have key : ∀ (ns : List (List UInt8)) (σ : Sg), Sg.Ok pl σ → Done pl nd (fun _ => False) (fun _ => False) σ → Sg.Ok pl (ns.foldl (fun σ n => vis pl nd N n σ) σ) ∧ Done pl nd (fun _ => False) (fun _ => False) (ns.foldl (fun σ n => vis pl nd N n σ) σ) ∧ (∀ s ∈ ns, pl s ≠ [] → s ∈ (ns.foldl (fun σ n => vis pl nd N n σ) σ).1) ∧ (∀ C, Shut pl nd C → (∀ s ∈ ns, pl s ≠ [] → C s) → (∀ x ∈ σ.1, C x) → ∀ x ∈ (ns.foldl (fun σ n => vis pl nd N n σ) σ).1, C x) := by
    intro ns
    induction ns with
    | nil => exact fun σ h1 h2 => ⟨h1, h2, nofun, fun C _ _ h => h⟩
    | cons n ns ih =>
      intro σ h1 h2
      have hf : free keys σ ≤ N := Nat.le_trans (List.length_filter_le _ _) hN
      obtain ⟨g1, g2⟩ := vis_done hn hk N n σ _ _ hf h2
      obtain ⟨k1, k2, k3, k4⟩ := ih _ (vis_ok N n σ h1) g1
      refine ⟨k1, k2, fun s hs hp => ?_, fun C hC hs hσ => k4 C hC (fun s h => hs s (List.mem_cons_of_mem _ h)) (vis_in hC N n σ (hs n (by simp)) hσ)⟩
      rcases List.mem_cons.1 hs with rfl | hs
      · exact (fold_le (vis pl nd N) (fun s σ => vis_le N s σ) ns _).1 _ (g2 hp)
      · exact k3 s hs hp
  obtain ⟨k1, k2, k3, k4⟩ := key ns ([], []) ⟨List.nodup_nil, nofun⟩ ⟨nofun, nofun⟩
  exact ⟨k1, k2, k3, fun C hC hs => k4 C hC hs fun x hx => by cases hx⟩
end
/-! texts in order -/
theorem sts_trans (a b c : List UInt8) (h : decide (a ≤ b) = true) (k : decide (b ≤ c) = true) : decide (a ≤ c) = true := decide_eq_true (List.le_trans (of_decide_eq_true h) (of_decide_eq_true k))
theorem sts_total (a b : List UInt8) : (decide (a ≤ b) || decide (b ≤ a)) = true := by
  rcases List.le_total a b with h | h
  · rw [decide_eq_true h]; rfl
  · rw [decide_eq_true h, Bool.or_true]
theorem stsSort_sorted (ss : List (List UInt8)) : (stsSort ss).Pairwise fun a b => a ≤ b := (List.pairwise_mergeSort sts_trans sts_total ss).imp fun h => of_decide_eq_true h
theorem stsSort_perm {a b : List (List UInt8)} (h : a.Perm b) : stsSort a = stsSort b :=
  List.Perm.eq_of_pairwise (le := fun a b => a ≤ b) (fun _ _ _ _ h k => List.le_antisymm h k) (stsSort_sorted a) (stsSort_sorted b) ((List.mergeSort_perm a _).trans (h.trans (List.mergeSort_perm b _).symm))
theorem nmSort_perm {a b : List (List UInt8)} (h : a.Perm b) : nmSort a = nmSort b := by rw [nmSort, nmSort, stsSort_perm h]
theorem once_nodup {l : List (List UInt8)} (h : l.Pairwise fun a b => a ≤ b) : (stsOnce l).Nodup := by
  unfold stsOnce Lib.compact Lib.compactUpTo List.Nodup
  rw [List.pairwise_map]
  refine (List.Pairwise.filter _ (List.pairwise_lt_range (n := l.length))).imp_of_mem fun {i j} hi hj hij => ?_
  have hj1 := List.mem_filter.1 hj
  have hjn : j < l.length := by simpa using List.mem_range.1 hj1.1
  have hk := hj1.2
  unfold Lib.keeps at hk
  rw [decide_eq_true_eq] at hk
  have h0 : j ≠ 0 := by omega
  have h1 := hk.resolve_left h0
  rw [getElem!_pos l.toArray j (by simpa using hjn), getElem!_pos l.toArray (j - 1) (by simp; omega)] at h1
  rw [getElem!_pos l.toArray j (by simpa using hjn), getElem!_pos l.toArray i (by simp; omega)]
  simp only [List.getElem_toArray] at h1 ⊢
  intro e
  have hle : ∀ (a b : Nat) (ha : a < l.length) (hb : b < l.length), a ≤ b → l[a] ≤ l[b] := fun a b ha hb hab => by
    rcases Nat.lt_or_eq_of_le hab with hlt | rfl
    · exact List.pairwise_iff_getElem.1 h a b ha hb hlt
    · exact List.le_refl _
  refine h1 (List.le_antisymm ?_ ?_)
  · rw [← e]; exact hle i (j - 1) (by omega) (by omega) (by omega)
  · exact hle (j - 1) j (by omega) hjn (by omega)
theorem nmSort_nodup (l : List (List UInt8)) : (nmSort l).Nodup := once_nodup (stsSort_sorted l)

/-! each once, as they come -/
section
variable {α : Type} [DecidableEq α]
def firsts (l : List α) : List α := l.foldl (fun acc s => if s ∈ acc then acc else acc ++ [s]) []
theorem firsts_snoc (l : List α) (s : α) : firsts (l ++ [s]) = if s ∈ firsts l then firsts l else firsts l ++ [s] := by rw [firsts, List.foldl_append]; rfl
theorem firsts_spec (l : List α) : (firsts l).Nodup ∧ ∀ s, s ∈ firsts l ↔ s ∈ l := by
  have key : ∀ n, ∀ l : List α, l.length = n → (firsts l).Nodup ∧ ∀ s, s ∈ firsts l ↔ s ∈ l := by
    intro n
    induction n with
    | zero => intro l hl; rw [List.length_eq_zero_iff.1 hl]; exact ⟨List.nodup_nil, fun s => Iff.rfl⟩
    | succ n ih =>
      intro l hl
      obtain ⟨l', s, rfl⟩ : ∃ l' s, l = l' ++ [s] := by
        have hne : l ≠ [] := by rintro rfl; cases hl
        exact ⟨l.dropLast, l.getLast hne, (List.dropLast_concat_getLast hne).symm⟩
      obtain ⟨h1, h2⟩ := ih l' (by simpa using hl)
      rw [firsts_snoc]
      by_cases hs : s ∈ firsts l'
      · rw [if_pos hs]
        refine ⟨h1, fun x => ?_⟩
        rw [h2, List.mem_append, List.mem_singleton]
        exact ⟨Or.inl, fun h => h.elim id fun e => by rw [e]; exact (h2 s).1 hs⟩
      · rw [if_neg hs]
        refine ⟨?_, fun x => by rw [List.mem_append, List.mem_append, h2]⟩
        rw [List.nodup_append]
        refine ⟨h1, by simp, fun a ha b hb => ?_⟩
        rw [List.mem_singleton] at hb
        subst hb
        rintro rfl
        exact hs ha
  exact key _ l rfl
theorem firsts_old {l : List α} {s : α} (h : s ∈ l) : firsts (l ++ [s]) = firsts l := by rw [firsts_snoc, if_pos (((firsts_spec l).2 s).2 h)]
theorem firsts_new {l : List α} {s : α} (h : s ∉ l) : firsts (l ++ [s]) = firsts l ++ [s] := by rw [firsts_snoc, if_neg fun k => h (((firsts_spec l).2 s).1 k)]
theorem firsts_of_nodup {l : List α} (h : l.Nodup) : (firsts l).Perm l := (List.perm_ext_iff_of_nodup (firsts_spec l).1 h).2 (firsts_spec l).2
theorem firsts_len (l : List α) : (firsts l).length ≤ l.length := (firsts_spec l).1.length_le_of_subset fun _ h => ((firsts_spec l).2 _).1 h
end

/-! what a declaration declares, and what it needs -/
def recB : List UInt8 := [114, 101, 99]
/-- a family's recursor -/
def nmRec (s : List UInt8) : List UInt8 := if nameOk s = true ∧ nameOk (s ++ 46 :: recB) = true then s ++ 46 :: recB else []
def dNames (d : Dc) : List (List UInt8) := if d.kind = 5 then d.name :: (d.ctors.map Ct.name ++ [nmRec d.name]) else [d.name]
def dAll (d : Dc) : List (List UInt8) := tmConsts d.type ++ tmConsts d.value ++ (d.ctors.map fun c => tmConsts c.type).flatten
def dNeeds (d : Dc) : List (List UInt8) := nmSort ((dAll d).filter fun s => !decide (s ∈ dNames d))
def dClash (a b : List (List UInt8)) : List UInt8 × Bool :=
  match a.find? fun s => decide (s ≠ []) && decide (s ∈ b) with
  | some s => (s, true)
  | none => ([], false)
def dFirst : List Dc → List (List UInt8) → Nat → Nat × List UInt8 × Bool
  | [], _, _ => (0, [], false)
  | d :: r, kn, i =>
    match (dNeeds d).find? fun s => !decide (s ∈ kn) with
    | some s => (i, s, true)
    | none => dFirst r (kn ++ dNames d) (i + 1)
theorem dNames_cons (d : Dc) : ∃ r, dNames d = d.name :: r := by
  unfold dNames
  split
  · exact ⟨_, rfl⟩
  · exact ⟨_, rfl⟩
theorem dNames_len (d : Dc) : (dNames d).length ≤ d.ctors.length + 2 := by
  unfold dNames
  split <;> simp
theorem dNeeds_mem {d : Dc} {s : List UInt8} : s ∈ dNeeds d ↔ s ∈ dAll d ∧ s ∉ dNames d := by rw [dNeeds, nmSort_mem, List.mem_filter]; simp
theorem dClash_one {s : List UInt8} {b : List (List UInt8)} : (dClash [s] b).2 = true ↔ s ≠ [] ∧ s ∈ b := by
  unfold dClash
  rw [List.find?_cons]
  by_cases h : s ≠ [] ∧ s ∈ b
  · simp [h.1, h.2]
  · have : (decide (s ≠ []) && decide (s ∈ b)) = false := by
      rw [Bool.and_eq_false_iff]
      by_cases h1 : s = []
      · left; simp [h1]
      · right; exact decide_eq_false fun k => h ⟨h1, k⟩
    rw [this]
    simp [h]
/-! DepsNeeds -/
theorem clash_own (d : Dc) : dClash (dNeeds d) (dNames d) = ([], false) := by
  unfold dClash
  rw [List.find?_eq_none.2 fun s hs => ?_]
  simp [(dNeeds_mem.1 hs).2]
theorem first_own (d : Dc) : dFirst [d] (dNeeds d) 0 = (0, [], false) := by
  unfold dFirst
  rw [List.find?_eq_none.2 fun s hs => by simp [hs]]
  rfl
theorem split_at {α : Type} {l : List α} {i : Nat} (h : i < l.length) : l = l.take i ++ l[i] :: l.drop (i + 1) := by
  rw [← List.drop_eq_getElem_cons h, List.take_append_drop]
theorem first_less (d : Dc) {i : Nat} (h : i < (dNeeds d).length) : dFirst [d] ((dNeeds d).take i ++ (dNeeds d).drop (i + 1)) 0 = (0, (dNeeds d)[i], true) := by
  have hn : (dNeeds d).Nodup := nmSort_nodup ((dAll d).filter fun s => !decide (s ∈ dNames d))
  have hs := split_at h
  have hnot : (dNeeds d)[i] ∉ (dNeeds d).take i ++ (dNeeds d).drop (i + 1) := by
    rw [hs] at hn
    have := (List.nodup_append.1 hn)
    rw [List.mem_append, not_or]
    exact ⟨fun hm => this.2.2 _ hm _ List.mem_cons_self rfl, (List.nodup_cons.1 this.2.1).1⟩
  have hf : (dNeeds d).find? (fun s => !decide (s ∈ (dNeeds d).take i ++ (dNeeds d).drop (i + 1))) = some (dNeeds d)[i] := by
    refine List.find?_eq_some_iff_append.2 ⟨by rw [decide_eq_false hnot]; rfl, (dNeeds d).take i, (dNeeds d).drop (i + 1), hs, fun a ha => ?_⟩
    rw [decide_eq_true (List.mem_append.2 (Or.inl ha))]
    rfl
  unfold dFirst
  rw [hf]

/-! DepsFirst -/
theorem dFirst_spec : ∀ (list : List Dc) (kn : List (List UInt8)) (i a : Nat) (s : List UInt8), dFirst list kn i = (a, s, true) → ∃ k, ∃ h : k < list.length, a = i + k ∧ s ∈ dNeeds list[k] ∧ dFirst (list.take k) kn i = (0, [], false)
  | [], _, _, _, _, h => by cases h
  | d :: r, kn, i, a, s, h => by
    unfold dFirst at h
    split at h
    · rename_i s' hf
      cases h
      exact ⟨0, by simp, rfl, List.mem_of_find?_eq_some hf, rfl⟩
    · rename_i hf
      obtain ⟨k, hk, e, h1, h2⟩ := dFirst_spec r _ _ _ _ h
      refine ⟨k + 1, by simpa using hk, by omega, by simpa using h1, ?_⟩
      rw [List.take_succ_cons]
      unfold dFirst
      rw [hf]
      exact h2
theorem dFirst_no : ∀ (list : List Dc) (kn : List (List UInt8)) (i a : Nat) (s : List UInt8), dFirst list kn i = (a, s, false) → a = 0 ∧ s = []
  | [], _, _, _, _, h => by cases h; exact ⟨rfl, rfl⟩
  | d :: r, kn, i, a, s, h => by
    unfold dFirst at h
    split at h
    · cases h
    · exact dFirst_no r _ _ _ _ h
theorem dFirst_more : ∀ (list : List Dc) (kn more : List (List UInt8)) (i a k : Nat) (s t : List UInt8), dFirst list kn i = (a, s, true) → (∀ x ∈ kn, x ∈ more) → s ∈ more → dFirst list more i = (k, t, true) → a < k ∨ (k = a ∧ t ≠ s)
  | [], _, _, _, _, _, _, _, h, _, _, _ => by cases h
  | d :: r, kn, more, i, a, k, s, t, h, hm, hs, g => by
    unfold dFirst at h g
    split at g
    · rename_i t' hg
      cases g
      have hg1 : t ∉ more := by have := List.find?_some hg; simpa using this
      split at h
      · cases h
        exact Or.inr ⟨rfl, fun e => hg1 (e ▸ hs)⟩
      · rename_i hf
        have := List.find?_eq_none.1 hf t (List.mem_of_find?_eq_some hg)
        exact absurd (hm t (by simpa using this)) hg1
    · rename_i hg
      split at h
      · cases h
        obtain ⟨k', _, e, _⟩ := dFirst_spec r _ _ _ _ g
        omega
      · refine dFirst_more r _ _ _ _ _ _ _ h (fun x hx => ?_) (List.mem_append.2 (Or.inl hs)) g
        rcases List.mem_append.1 hx with hx | hx
        · exact List.mem_append.2 (Or.inl (hm x hx))
        · exact List.mem_append.2 (Or.inr hx)

/-! DepsReach -/
/-- names with the places that declare them -/
def prs (list : List Dc) : List (List UInt8 × Nat) := list.zipIdx.flatMap fun p => (dNames p.1).map fun s => (s, p.2)
def plOf (ps : List (List UInt8 × Nat)) (s : List UInt8) : List Nat := (ps.filter fun p => decide (p.1 = s)).map Prod.snd
def ndOf (list : List Dc) (i : Nat) : List (List UInt8) := dNeeds (list.getD i dc0)
def dSeen (list : List Dc) (ns : List (List UInt8)) : Sg := visAll (plOf (prs list)) (ndOf list) (prs list).length ns
def dReach (list : List Dc) (ns : List (List UInt8)) : List (List UInt8) := nmSort (dSeen list ns).1
theorem plOf_mem {ps : List (List UInt8 × Nat)} {s : List UInt8} {i : Nat} : i ∈ plOf ps s ↔ (s, i) ∈ ps := by
  unfold plOf
  simp only [List.mem_map, List.mem_filter, decide_eq_true_eq]
  constructor
  · rintro ⟨p, ⟨h, rfl⟩, rfl⟩; exact h
  · exact fun h => ⟨_, ⟨h, rfl⟩, rfl⟩
theorem prs_mem {list : List Dc} {s : List UInt8} {i : Nat} : (s, i) ∈ prs list ↔ ∃ h : i < list.length, s ∈ dNames list[i] := by
  unfold prs
  simp only [List.mem_flatMap, List.mem_map, Prod.mk.injEq]
  constructor
  · rintro ⟨⟨d, j⟩, hp, x, hx, rfl, rfl⟩
    obtain ⟨h, e⟩ := List.mem_zipIdx' hp
    exact ⟨h, by rw [← e]; exact hx⟩
  · rintro ⟨h, hs⟩
    exact ⟨(list[i], i), List.mem_zipIdx_iff_getElem?.2 (by simp [h]), s, hs, rfl, rfl⟩
theorem plOf_ne {ps : List (List UInt8 × Nat)} {s : List UInt8} : plOf ps s ≠ [] ↔ s ∈ ps.map Prod.fst := by
  constructor
  · intro h
    obtain ⟨i, hi⟩ := List.exists_mem_of_ne_nil _ h
    exact List.mem_map.2 ⟨_, plOf_mem.1 hi, rfl⟩
  · intro h e
    obtain ⟨⟨s', i⟩, hp, rfl⟩ := List.mem_map.1 h
    have : i ∈ plOf ps s' := plOf_mem.2 hp
    rw [e] at this
    cases this
def pkeys (ps : List (List UInt8 × Nat)) : List (List UInt8) := firsts (ps.map Prod.fst)
theorem pkeys_all {ps : List (List UInt8 × Nat)} (s : List UInt8) (h : plOf ps s ≠ []) : s ∈ pkeys ps := ((firsts_spec _).2 s).2 (plOf_ne.1 h)
theorem pkeys_len (ps : List (List UInt8 × Nat)) : (pkeys ps).length ≤ ps.length := Nat.le_trans (firsts_len _) (by simp)
theorem dSeen_spec (list : List Dc) (ns : List (List UInt8)) : Sg.Ok (plOf (prs list)) (dSeen list ns) ∧ Done (plOf (prs list)) (ndOf list) (fun _ => False) (fun _ => False) (dSeen list ns) ∧ (∀ s ∈ ns, plOf (prs list) s ≠ [] → s ∈ (dSeen list ns).1) ∧ (∀ C, Shut (plOf (prs list)) (ndOf list) C → (∀ s ∈ ns, plOf (prs list) s ≠ [] → C s) → ∀ x ∈ (dSeen list ns).1, C x) :=
  visAll_spec (firsts_spec _).1 pkeys_all _ (pkeys_len _) ns
theorem dReach_mem {list : List Dc} {ns : List (List UInt8)} {s : List UInt8} : s ∈ dReach list ns ↔ s ∈ (dSeen list ns).1 := nmSort_mem
theorem dSeen_shut (list : List Dc) (ns : List (List UInt8)) : Shut (plOf (prs list)) (ndOf list) fun s => s ∈ (dSeen list ns).1 := by
  obtain ⟨_, ⟨h1, h2⟩, _, _⟩ := dSeen_spec list ns
  exact fun s hs i hi n hn hp => h2 i (h1 s hs id i hi) id n hn hp
theorem dReach_again (list : List Dc) (ns : List (List UInt8)) : dReach list (dReach list ns) = dReach list ns := by
  obtain ⟨⟨h1, h2⟩, _, _, _⟩ := dSeen_spec list ns
  obtain ⟨⟨g1, _⟩, _, g3, g4⟩ := dSeen_spec list (dReach list ns)
  refine nmSort_perm ((List.perm_ext_iff_of_nodup g1 h1).2 fun s => ⟨fun hs => ?_, fun hs => ?_⟩)
  · exact g4 _ (dSeen_shut list ns) (fun s hs _ => dReach_mem.1 hs) s hs
  · exact g3 s (dReach_mem.2 hs) (h2 s hs)
theorem dReach_needs (list : List Dc) (ns : List (List UInt8)) {i : Nat} (h : i < list.length) {s n : List UInt8} (hs : s ∈ dNames list[i]) (hr : s ∈ dReach list ns) (hn : n ∈ dNeeds list[i]) {j : Nat} (hj : j < list.length) (hd : n ∈ dNames list[j]) : n ∈ dReach list ns := by
  refine dReach_mem.2 (dSeen_shut list ns s (dReach_mem.1 hr) i (plOf_mem.2 (prs_mem.2 ⟨h, hs⟩)) n ?_ ?_)
  · unfold ndOf
    rw [List.getD_eq_getElem?_getD, List.getElem?_eq_getElem h]
    exact hn
  · intro e
    have : j ∈ plOf (prs list) n := plOf_mem.2 (prs_mem.2 ⟨hj, hd⟩)
    rw [e] at this
    cases this
end Go.Proofs.YtaldgcnhmnfocaaDoor

/-
  Maps as rows of keys: found, put; counts of keys. No condition.
-/
namespace Go.Proofs.YtaldgcnhmnfocaaDoor
open Go.RowKit

section
variable {α : Type} [DecidableEq α] {kx : α → AV}
/-- a map's entries: the keys as they came, each with what stands there -/
def kE (kx v : α → AV) : List α → Nat → List (Nat × AV × AV)
  | [], _ => []
  | s :: r, n => (n, kx s, v s) :: kE kx v r (n + 1)
def updF (v : α → AV) (s : α) (x : AV) : α → AV := fun t => if t = s then x else v t
omit [DecidableEq α] in
theorem kE_congr {v v' : α → AV} : ∀ {ks : List α} {n : Nat}, (∀ s ∈ ks, v s = v' s) → kE kx v ks n = kE kx v' ks n
  | [], _, _ => rfl
  | s :: r, n, h => by rw [kE, kE, h s (by simp), kE_congr fun x hx => h x (List.mem_cons_of_mem _ hx)]
omit [DecidableEq α] in
theorem kE_append (v : α → AV) : ∀ (a b : List α) (n : Nat), kE kx v (a ++ b) n = kE kx v a n ++ kE kx v b (n + a.length)
  | [], b, n => rfl
  | s :: r, b, n => by
    rw [List.cons_append, kE, kE, kE_append v r b, List.cons_append, List.length_cons]
    rw [show n + 1 + r.length = n + (r.length + 1) by omega]
omit [DecidableEq α] in
theorem kE_len (v : α → AV) : ∀ (a : List α) (n : Nat), (kE kx v a n).length = a.length
  | [], _ => rfl
  | s :: r, n => by rw [kE, List.length_cons, List.length_cons, kE_len v r]
omit [DecidableEq α] in
theorem kE_mem {v : α → AV} : ∀ {a : List α} {n : Nat} {p : Nat × AV × AV}, p ∈ kE kx v a n → n ≤ p.1 ∧ p.1 < n + a.length ∧ ∃ h : p.1 - n < a.length, p.2.1 = kx (a[p.1 - n]) ∧ p.2.2 = v (a[p.1 - n])
  | [], _, _, h => by cases h
  | s :: r, n, p, h => by
    rw [kE] at h
    rcases List.mem_cons.1 h with rfl | h
    · simp
    · obtain ⟨h1, h2, h3, h4, h5⟩ := kE_mem h
      refine ⟨by omega, by simp only [List.length_cons]; omega, by simp only [List.length_cons]; omega, ?_, ?_⟩
      · rw [h4]; congr 1
        rw [List.getElem_cons, dif_neg (by omega)]
        congr 1
      · rw [h5]; congr 1
        rw [List.getElem_cons, dif_neg (by omega)]
        congr 1
omit [DecidableEq α] in
theorem kE_get {v : α → AV} : ∀ {a : List α} {n i : Nat} (h : i < a.length), (n + i, kx a[i], v a[i]) ∈ kE kx v a n
  | s :: r, n, 0, _ => by rw [kE]; exact List.mem_cons_self
  | s :: r, n, i + 1, h => by
    rw [kE]
    have := kE_get (v := v) (a := r) (n := n + 1) (i := i) (by simpa using h)
    rw [show n + 1 + i = n + (i + 1) by omega] at this
    exact List.mem_cons_of_mem _ this
omit [DecidableEq α] in
theorem kE_stamps (v : α → AV) : ∀ (a : List α) (n : Nat), (kE kx v a n).map (·.1) = List.range' n a.length
  | [], _ => rfl
  | s :: r, n => by rw [kE, List.map_cons, kE_stamps v r, List.length_cons, List.range'_succ]
omit [DecidableEq α] in
theorem kE_nodup (v : α → AV) (a : List α) (n : Nat) : ((kE kx v a n).map (·.1)).Nodup := by rw [kE_stamps]; exact List.nodup_range'
variable (hk : ∀ a b : α, keyEq (kx a) (kx b) = decide (a = b))
include hk
theorem kE_find (v : α → AV) (s : α) : ∀ (ks : List α) (n : Nat), mpFind (kx s) (kE kx v ks n) = if s ∈ ks then some (n + ks.idxOf s, v s) else none
  | [], _ => rfl
  | t :: r, n => by
    rw [kE, mpFind, hk]
    by_cases h : s = t
    · subst h
      rw [decide_eq_true rfl, if_pos (by simp)]
      simp
    · rw [decide_eq_false h, cond_false, kE_find v s r]
      by_cases hr : s ∈ r
      · rw [if_pos hr, if_pos (by simp [hr])]
        rw [List.idxOf_cons, show (t == s) = false from beq_false_of_ne (Ne.symm h)]
        simp only [cond_false]
        rw [show n + 1 + List.idxOf s r = n + (List.idxOf s r + 1) by omega]
      · rw [if_neg hr, if_neg (by simp [hr, h])]
theorem kE_set (v : α → AV) (s : α) (x : AV) : ∀ (ks : List α) (n : Nat), ks.Nodup → s ∈ ks → mpSet (kx s) x (kE kx v ks n) = kE kx (updF v s x) ks n
  | [], _, _, h => by cases h
  | t :: r, n, hn, h => by
    rw [List.nodup_cons] at hn
    rw [kE, mpSet, hk]
    by_cases e : s = t
    · subst e
      rw [decide_eq_true rfl, cond_true, kE]
      congr 1
      · show _ = (n, kx s, updF v s x s)
        rw [updF, if_pos rfl]
      · refine kE_congr fun y hy => ?_
        rw [updF, if_neg]
        rintro rfl
        exact hn.1 hy
    · rw [decide_eq_false e, cond_false, kE, kE_set v s x r _ hn.2 ((List.mem_cons.1 h).resolve_left e)]
      congr 1
      rw [updF, if_neg (Ne.symm e)]
/-- what a key put does -/
theorem kE_put (v : α → AV) (s : α) (x : AV) (ks : List α) (hn : ks.Nodup) : mpPut (kx s) x (kE kx v ks 0) ks.length = (kE kx (updF v s x) (if s ∈ ks then ks else ks ++ [s]) 0, (if s ∈ ks then ks else ks ++ [s]).length) := by
  unfold mpPut
  rw [kE_find hk]
  by_cases h : s ∈ ks
  · rw [if_pos h, if_pos h]
    simp only
    rw [kE_set hk v s x ks 0 hn h]
  · rw [if_neg h, if_neg h]
    simp only
    rw [kE_append, List.length_append, kE, kE, updF, if_pos rfl, Nat.zero_add]
    congr 2
    exact kE_congr fun y hy => by
      rw [updF, if_neg]
      rintro rfl
      exact h hy

theorem kE_put_old (v : α → AV) (s : α) (x : AV) (ks : List α) (hn : ks.Nodup) (h : s ∈ ks) : mpPut (kx s) x (kE kx v ks 0) ks.length = (kE kx (updF v s x) ks 0, ks.length) := by rw [kE_put hk v s x ks hn, if_pos h]
theorem kE_put_new (v : α → AV) (s : α) (x : AV) (ks : List α) (hn : ks.Nodup) (h : s ∉ ks) : mpPut (kx s) x (kE kx v ks 0) ks.length = (kE kx (updF v s x) (ks ++ [s]) 0, (ks ++ [s]).length) := by rw [kE_put hk v s x ks hn, if_neg h]
theorem kE_find_yes (v : α → AV) (s : α) (ks : List α) (h : s ∈ ks) : ∃ n, mpFind (kx s) (kE kx v ks 0) = some (n, v s) := by rw [kE_find hk, if_pos h]; exact ⟨_, rfl⟩
theorem kE_find_no (v : α → AV) (s : α) (ks : List α) (h : s ∉ ks) : mpFind (kx s) (kE kx v ks 0) = none := by rw [kE_find hk, if_neg h]

/-! counts -/
omit hk in
/-- how often it stands there -/
def cntN (s : α) (l : List α) : Nat := l.count s
omit hk in
def idxN (s : α) (l : List α) : Nat := l.idxOf s
omit hk in
theorem cntN_pos {s : α} {l : List α} (h : s ∈ l) : 0 < cntN s l := List.count_pos_iff.2 h
omit hk in
theorem cntN_zero {s : α} {l : List α} (h : s ∉ l) : cntN s l = 0 := List.count_eq_zero.2 h
omit hk in
theorem cntN_le (s : α) (l : List α) : cntN s l ≤ l.length := List.count_le_length
omit hk in
theorem cntN_snoc (s : α) (l : List α) : cntN s (l ++ [s]) = cntN s l + 1 := by unfold cntN; rw [List.count_append]; simp
omit hk in
/-- how many times each key came -/
def talV (l : List α) : α → AV := fun s => .i ((l.count s : Nat) : Int)
omit hk in
def talE (kx : α → AV) (l : List α) : List (Nat × AV × AV) := kE kx (talV l) (firsts l) 0
theorem tal_find (l : List α) (s : α) : mpFind (kx s) (talE kx l) = if s ∈ l then some (idxN s (firsts l), .i ((cntN s l : Nat) : Int)) else none := by
  rw [talE, kE_find hk]
  by_cases h : s ∈ l
  · rw [if_pos h, if_pos (((firsts_spec l).2 s).2 h), Nat.zero_add]; rfl
  · rw [if_neg h, if_neg fun k => h (((firsts_spec l).2 s).1 k)]
theorem tal_val (l : List α) (s : α) : (match mpFind (kx s) (talE kx l) with
    | some (_, x) => x
    | none => AV.i 0) = .i ((cntN s l : Nat) : Int) := by
  rw [tal_find hk]
  by_cases h : s ∈ l
  · rw [if_pos h]
  · rw [if_neg h, cntN_zero h]; rfl
theorem tal_put (l : List α) (s : α) : mpPut (kx s) (.i ((cntN s l : Nat) + 1 : Int)) (talE kx l) (firsts l).length = (talE kx (l ++ [s]), (firsts (l ++ [s])).length) := by
  obtain ⟨h1, h2⟩ := firsts_spec l
  have e : (if s ∈ firsts l then firsts l else firsts l ++ [s]) = firsts (l ++ [s]) := (firsts_snoc l s).symm
  rw [talE, kE_put hk _ _ _ _ h1, e, talE]
  congr 1
  refine kE_congr fun t ht => ?_
  unfold updF talV
  by_cases hts : t = s
  · subst hts
    rw [if_pos rfl, show List.count t (l ++ [t]) = cntN t l + 1 from cntN_snoc t l]
    simp
  · unfold cntN
    rw [if_neg hts, List.count_append, List.count_singleton]
    rw [show (s == t) = false from beq_false_of_ne (Ne.symm hts)]
    simp
end
theorem key_str (a b : List UInt8) : keyEq (.str a) (.str b) = decide (a = b) := rfl
theorem key_nat (a b : Nat) : keyEq (.i (a : Int)) (.i (b : Int)) = decide (a = b) := by
  show decide ((a : Int) = (b : Int)) = _
  rw [Bool.eq_iff_iff, decide_eq_true_eq, decide_eq_true_eq]
  omega
theorem keys_str {v : List UInt8 → AV} {ks : List (List UInt8)} {n : Nat} (s : List UInt8) : KeysOk .string (.str s) (kE .str v ks n) := ⟨trivial, fun p hp => by
  obtain ⟨_, _, _, e, _⟩ := kE_mem hp
  rw [e]; trivial⟩
theorem keys_nat {v : Nat → AV} {ks : List Nat} {n : Nat} (s : Nat) : KeysOk (.int .i64) (.i (s : Int)) (kE (fun k : Nat => AV.i (k : Int)) v ks n) := ⟨rfl, fun p hp => by
  obtain ⟨_, _, _, e, _⟩ := kE_mem hp
  rw [e]; rfl⟩
end Go.Proofs.YtaldgcnhmnfocaaDoor
