/-
  Texts put together: T1, T2, T3, U0, U1, U2, U3, U4. No condition.
-/
import Derived.Test.YtjmmacbblnjogaaGreatDoorM16
/-
  Terms with others in the place of leaves, in plain words (bind). No condition.
-/
namespace Go.Proofs.YtjmmacbblnjogaaGreatDoor
open Go.RowKit

/-- what stands in the place of a leaf in deep binders -/
abbrev Leaf := Tm → Int → Option Tm
mutual
/-- a term made anew -/
def bld (f : Leaf) : Tm → Int → Tm
  | .mk k n nm ls xs, d => match f (.mk k n nm ls xs) d with
    | some x => x
    | none => .mk k n nm ls (bldL f k xs 0 d)
def bldL (f : Leaf) (k : Int) : List Tm → Nat → Int → List Tm
  | [], _, _ => []
  | t :: ts, i, d => bld f t (if tmBind k i = true then d + 1 else d) :: bldL f k ts (i + 1) d
end
theorem bld_eq (f : Leaf) (t : Tm) (d : Int) : bld f t d = match f t d with
    | some x => x
    | none => .mk t.kind t.n t.name t.levels (bldL f t.kind t.args 0 d) := by cases t; rw [bld]; rfl
theorem bldL_len (f : Leaf) (k : Int) : ∀ (ts : List Tm) (i : Nat) (d : Int), (bldL f k ts i d).length = ts.length
  | [], _, _ => rfl
  | t :: ts, i, d => by rw [bldL, List.length_cons, List.length_cons, bldL_len f k ts]
theorem bldL_get (f : Leaf) (k : Int) : ∀ (ts : List Tm) (i : Nat) (d : Int) (j : Nat) (h : j < ts.length), (bldL f k ts i d)[j]'(by rw [bldL_len]; exact h) = bld f ts[j] (if tmBind k (i + j) = true then d + 1 else d)
  | t :: ts, i, d, 0, _ => by simp [bldL]
  | t :: ts, i, d, j + 1, h => by
    have := bldL_get f k ts (i + 1) d j (by simpa using h)
    simp only [bldL, List.getElem_cons_succ]
    rw [this, show i + 1 + j = i + (j + 1) by omega]
theorem bldL_take {f : Leaf} {k : Int} {ts : List Tm} {d : Int} {j : Nat} (h : j < ts.length) : (bldL f k ts 0 d).take (j + 1) = (bldL f k ts 0 d).take j ++ [bld f ts[j] (if tmBind k j = true then d + 1 else d)] := by
  rw [List.take_succ_eq_append_getElem (by rw [bldL_len]; exact h), bldL_get f k ts 0 d j h, Nat.zero_add]

/-! the leaves -/
def movedF (c from_ : Int) : Leaf := fun t d => if t.kind = 1 ∧ from_ + d ≤ t.n then some (.mk 1 (t.n + c) [] [] []) else none
def instF (args : List Tm) : Leaf := fun t d => if t.kind = 1 ∧ d ≤ t.n then (if (args.length : Int) ≤ t.n - d then some (.mk 1 (t.n - args.length) [] [] []) else some (tmLift d (args.getD (args.length - 1 - (t.n - d).toNat) tm0) 0)) else none
def replF (nm : List UInt8) (u : Tm) : Leaf := fun t d => if t.kind = 3 ∧ t.name = nm then some (tmLift d u 0) else none
/-- where a text stands first; -1: nowhere -/
def stAtI (nms : List (List UInt8)) (nm : List UInt8) : Int := match nms.findIdx? (fun x => decide (x = nm)) with
  | some i => i
  | none => -1
def absF (nms : List (List UInt8)) : Leaf := fun t d => if t.kind = 3 ∧ 0 ≤ stAtI nms t.name then some (.mk 1 ((nms.length : Int) - 1 - stAtI nms t.name + d) [] [] []) else movedF nms.length 0 t d

/-! a right term's variables have no more than their number -/
theorem fit_var {p v : Int} {k n : Int} {nm : List UInt8} {ls : List Lv} {xs : List Tm} (h : tmFit p (.mk k n nm ls xs) v = true) (hk : k = 1) : 0 ≤ n ∧ n < v ∧ nm = [] ∧ ls = [] ∧ xs = [] := by
  subst hk
  rw [tmFit, Bool.and_eq_true, Bool.and_eq_true, tmNode_1] at h
  obtain ⟨⟨⟨a, b, c, d, e⟩, _⟩, _⟩ := h
  exact ⟨a, b, c, List.eq_nil_of_length_eq_zero d, List.eq_nil_of_length_eq_zero e⟩
theorem fit_args {p v : Int} {k n : Int} {nm : List UInt8} {ls : List Lv} {xs : List Tm} (h : tmFit p (.mk k n nm ls xs) v = true) : tmFitL p k xs 0 v = true := by
  rw [tmFit, Bool.and_eq_true] at h
  exact h.2
theorem fitL_cons {p k v : Int} {t : Tm} {ts : List Tm} {i : Nat} (h : tmFitL p k (t :: ts) i v = true) : tmFit p t (if tmBind k i = true then v + 1 else v) = true ∧ tmFitL p k ts (i + 1) v = true := by
  rw [tmFitL, Bool.and_eq_true] at h
  exact h
/-- a right term that is no leaf has a kind and parts alone -/
theorem fit_inner {p v : Int} {t : Tm} (h : tmFit p t v = true) (hx : t.args ≠ []) : t.n = 0 ∧ t.name = [] ∧ t.levels = [] := by
  rw [tmFit_eq, Bool.and_eq_true, Bool.and_eq_true] at h
  have h1 := h.1.1
  have hl : t.args.length ≠ 0 := fun e => hx (List.eq_nil_of_length_eq_zero e)
  unfold tmNode at h1
  split at h1
  · simp only [Bool.and_eq_true, decide_eq_true_eq] at h1; exact absurd h1.2 hl
  split at h1
  · simp only [Bool.and_eq_true, decide_eq_true_eq] at h1; exact absurd h1.2 hl
  split at h1
  · simp only [Bool.and_eq_true, decide_eq_true_eq] at h1; exact absurd h1.2 hl
  split at h1
  · simp only [Bool.and_eq_true, decide_eq_true_eq] at h1
    exact ⟨h1.1.1.1, h1.1.1.2, List.eq_nil_of_length_eq_zero h1.1.2⟩
  split at h1
  · simp only [Bool.and_eq_true, decide_eq_true_eq] at h1
    exact ⟨h1.1.1.1, h1.1.1.2, List.eq_nil_of_length_eq_zero h1.1.2⟩
  · cases h1

theorem bld_some {f : Leaf} {k n : Int} {nm : List UInt8} {ls : List Lv} {xs : List Tm} {d : Int} {x : Tm} (h : f (.mk k n nm ls xs) d = some x) : bld f (.mk k n nm ls xs) d = x := by rw [bld, h]
theorem bld_stay {f : Leaf} {k n : Int} {nm : List UInt8} {ls : List Lv} {xs : List Tm} {d : Int} (h : f (.mk k n nm ls xs) d = none) : bld f (.mk k n nm ls xs) d = .mk k n nm ls (bldL f k xs 0 d) := by rw [bld, h]
theorem moved_yes {c f k n : Int} {nm : List UInt8} {ls : List Lv} {xs : List Tm} {d : Int} (h : k = 1 ∧ f + d ≤ n) : movedF c f (.mk k n nm ls xs) d = some (.mk 1 (n + c) [] [] []) := if_pos h
theorem moved_no {c f k n : Int} {nm : List UInt8} {ls : List Lv} {xs : List Tm} {d : Int} (h : ¬(k = 1 ∧ f + d ≤ n)) : movedF c f (.mk k n nm ls xs) d = none := if_neg h
theorem instF_no {args : List Tm} {k n : Int} {nm : List UInt8} {ls : List Lv} {xs : List Tm} {d : Int} (h : ¬(k = 1 ∧ d ≤ n)) : instF args (.mk k n nm ls xs) d = none := if_neg h
theorem instF_out {args : List Tm} {k n : Int} {nm : List UInt8} {ls : List Lv} {xs : List Tm} {d : Int} (h : k = 1 ∧ d ≤ n) (h2 : (args.length : Int) ≤ n - d) : instF args (.mk k n nm ls xs) d = some (.mk 1 (n - args.length) [] [] []) := (if_pos h).trans (if_pos h2)
theorem instF_in {args : List Tm} {k n : Int} {nm : List UInt8} {ls : List Lv} {xs : List Tm} {d : Int} (h : k = 1 ∧ d ≤ n) (h2 : ¬(args.length : Int) ≤ n - d) : instF args (.mk k n nm ls xs) d = some (tmLift d (args.getD (args.length - 1 - (n - d).toNat) tm0) 0) := (if_pos h).trans (if_neg h2)

/-! raised: what moves is lifted -/
mutual
theorem bld_moved {p c from_ : Int} : ∀ (t : Tm) (d v : Int), tmFit p t v = true → bld (movedF c from_) t d = tmLift c t (from_ + d)
  | .mk k n nm ls xs, d, v, h => by
    rw [tmLift]
    by_cases h1 : k = 1 ∧ from_ + d ≤ n
    · obtain ⟨a, b, rfl, rfl, rfl⟩ := fit_var h h1.1
      rw [bld_some (moved_yes h1), if_pos h1, tmLiftL, h1.1]
    · rw [bld_stay (moved_no h1), if_neg h1, bldL_moved k xs 0 d v (fit_args h)]
theorem bldL_moved {p c from_ : Int} (k : Int) : ∀ (ts : List Tm) (i : Nat) (d v : Int), tmFitL p k ts i v = true → bldL (movedF c from_) k ts i d = tmLiftL c k ts i (from_ + d)
  | [], _, _, _, _ => rfl
  | t :: ts, i, d, v, h => by
    obtain ⟨h1, h2⟩ := fitL_cons h
    rw [bldL, tmLiftL, bld_moved t _ _ h1, bldL_moved k ts (i + 1) d v h2]
    by_cases hb : tmBind k i = true
    · rw [if_pos hb, if_pos hb, Int.add_assoc]
    · rw [if_neg hb, if_neg hb]
end
mutual
/-- nothing in the place of any leaf -/
theorem bld_none : ∀ (t : Tm) (d : Int), bld (fun _ _ => none) t d = t
  | .mk k n nm ls xs, d => by
    rw [bld_stay rfl, bldL_none k xs 0 d]
theorem bldL_none (k : Int) : ∀ (ts : List Tm) (i : Nat) (d : Int), bldL (fun _ _ => none) k ts i d = ts
  | [], _, _ => rfl
  | t :: ts, i, d => by rw [bldL, bld_none t, bldL_none k ts (i + 1) d]
end

/-! lifts -/
mutual
theorem lift_lift {c e : Int} (hc : 0 ≤ c) : ∀ (t : Tm) (d : Int), tmLift e (tmLift c t d) d = tmLift (c + e) t d
  | .mk k n nm ls xs, d => by
    rw [tmLift, tmLift, tmLift, liftL_lift hc k xs 0 d]
    congr 1
    by_cases h : k = 1 ∧ d ≤ n
    · rw [if_pos h, if_pos ⟨h.1, by omega⟩, if_pos h]; omega
    · rw [if_neg h, if_neg h]
      rw [if_neg h]
theorem liftL_lift {c e : Int} (hc : 0 ≤ c) (k : Int) : ∀ (ts : List Tm) (i : Nat) (d : Int), tmLiftL e k (tmLiftL c k ts i d) i d = tmLiftL (c + e) k ts i d
  | [], _, _ => rfl
  | t :: ts, i, d => by rw [tmLiftL, tmLiftL, tmLiftL, lift_lift hc t, liftL_lift hc k ts (i + 1) d]
end
mutual
theorem lift_zero : ∀ (t : Tm) (d : Int), tmLift 0 t d = t
  | .mk k n nm ls xs, d => by
    rw [tmLift, liftL_zero k xs 0 d]
    congr 1
    split <;> omega
theorem liftL_zero (k : Int) : ∀ (ts : List Tm) (i : Nat) (d : Int), tmLiftL 0 k ts i d = ts
  | [], _, _ => rfl
  | t :: ts, i, d => by rw [tmLiftL, lift_zero t, liftL_zero k ts (i + 1) d]
end
mutual
/-- how much is needed of what is raised -/
theorem loose_raise {c : Int} (hc : 0 ≤ c) : ∀ (t : Tm) (d : Int), tmLoose (tmLift c t d) d = if tmLoose t d = 0 then 0 else tmLoose t d + c
  | .mk k n nm ls xs, d => by
    rw [tmLift, tmLoose, tmLoose]
    by_cases k1 : k = 1
    · rw [if_pos k1, if_pos k1]
      by_cases hd : d ≤ n
      · rw [if_pos ⟨k1, hd⟩, if_neg (by omega)]; omega
      · rw [if_neg (fun h => hd h.2), if_pos (by omega)]; omega
    · rw [if_neg k1, if_neg k1]
      exact looseL_raise hc k xs 0 d
theorem looseL_raise {c : Int} (hc : 0 ≤ c) (k : Int) : ∀ (ts : List Tm) (i : Nat) (d : Int), tmLooseL k (tmLiftL c k ts i d) i d = if tmLooseL k ts i d = 0 then 0 else tmLooseL k ts i d + c
  | [], _, _ => rfl
  | t :: ts, i, d => by
    have h1 := loose_raise hc t (if tmBind k i = true then d + 1 else d)
    have h2 := tmLoose_nonneg t (if tmBind k i = true then d + 1 else d)
    have h3 := tmLooseL_nonneg k ts (i + 1) d
    rw [tmLiftL, tmLooseL, tmLooseL, looseL_raise hc k ts (i + 1) d]
    obtain ⟨e, he⟩ : ∃ e, (if tmBind k i = true then d + 1 else d) = e := ⟨_, rfl⟩
    rw [he] at h1 h2 ⊢
    rw [h1]
    by_cases a1 : tmLoose t e = 0
    · by_cases a2 : tmLooseL k ts (i + 1) d = 0
      · rw [if_pos a1, if_pos a2, if_pos (by omega)]; omega
      · rw [if_pos a1, if_neg a2, if_neg (by omega)]; omega
    · by_cases a2 : tmLooseL k ts (i + 1) d = 0
      · rw [if_neg a1, if_pos a2, if_neg (by omega)]; omega
      · rw [if_neg a1, if_neg a2, if_neg (by omega)]; omega
end
mutual
/-- is a variable below so many used? -/
def tmLow (c : Int) : Tm → Int → Bool
  | .mk k n _ _ xs, d => decide (k = 1 ∧ d ≤ n ∧ n < c + d) || tmLowL c k xs 0 d
def tmLowL (c k : Int) : List Tm → Nat → Int → Bool
  | [], _, _ => false
  | t :: ts, i, d => tmLow c t (if tmBind k i = true then d + 1 else d) || tmLowL c k ts (i + 1) d
end
mutual
theorem low_lift {c : Int} (hc : 0 ≤ c) : ∀ (t : Tm) (d : Int), tmLow c (tmLift c t d) d = false
  | .mk k n nm ls xs, d => by
    rw [tmLift, tmLow, lowL_lift hc k xs 0 d, Bool.or_false, decide_eq_false_iff_not]
    rintro ⟨h1, h2, h3⟩
    split at h2 <;> split at h3 <;> omega
theorem lowL_lift {c : Int} (hc : 0 ≤ c) (k : Int) : ∀ (ts : List Tm) (i : Nat) (d : Int), tmLowL c k (tmLiftL c k ts i d) i d = false
  | [], _, _ => rfl
  | t :: ts, i, d => by rw [tmLiftL, tmLowL, low_lift hc t, lowL_lift hc k ts (i + 1) d]; rfl
end

/-! terms in the place of variables -/
theorem bld_inst_var {args : List Tm} {n d : Int} : bld (instF args) (.mk 1 n [] [] []) d = if d ≤ n then (if (args.length : Int) ≤ n - d then .mk 1 (n - args.length) [] [] [] else tmLift d (args.getD (args.length - 1 - (n - d).toNat) tm0) 0) else .mk 1 n [] [] [] := by
  by_cases h : d ≤ n
  · rw [if_pos h]
    by_cases h2 : (args.length : Int) ≤ n - d
    · rw [if_pos h2, bld_some (instF_out ⟨rfl, h⟩ h2)]
    · rw [if_neg h2, bld_some (instF_in ⟨rfl, h⟩ h2)]
  · rw [if_neg h, bld_stay (instF_no fun e => h e.2)]
    rfl
theorem bld_inst_other {args : List Tm} {k n : Int} {nm : List UInt8} {ls : List Lv} {xs : List Tm} {d : Int} (h : k ≠ 1) : bld (instF args) (.mk k n nm ls xs) d = .mk k n nm ls (bldL (instF args) k xs 0 d) := bld_stay (instF_no fun e => h e.1)
mutual
/-- what is raised, with terms in the new place, is as it was -/
theorem inst_lift {p : Int} {args : List Tm} : ∀ (t : Tm) (d v : Int), tmFit p t v = true → bld (instF args) (tmLift args.length t d) d = t
  | .mk k n nm ls xs, d, v, h => by
    rw [tmLift]
    by_cases h1 : k = 1
    · obtain ⟨a, b, rfl, rfl, rfl⟩ := fit_var h h1
      subst h1
      rw [tmLiftL]
      by_cases h2 : d ≤ n
      · rw [if_pos ⟨rfl, h2⟩, bld_inst_var, if_pos (by omega), if_pos (by omega)]
        congr 1
        omega
      · rw [if_neg (fun e => h2 e.2), bld_inst_var, if_neg h2]
    · rw [bld_inst_other h1, if_neg (fun e => h1 e.1), instL_lift k xs 0 d v (fit_args h)]
theorem instL_lift {p : Int} {args : List Tm} (k : Int) : ∀ (ts : List Tm) (i : Nat) (d v : Int), tmFitL p k ts i v = true → bldL (instF args) k (tmLiftL args.length k ts i d) i d = ts
  | [], _, _, _, _ => rfl
  | t :: ts, i, d, v, h => by
    obtain ⟨h1, h2⟩ := fitL_cons h
    rw [tmLiftL, bldL, inst_lift t _ _ h1, instL_lift k ts (i + 1) d v h2]
end
mutual
theorem inst_under {p : Int} {a : Tm} {c : Int} (hc : 0 ≤ c) : ∀ (t : Tm) (e v : Int), tmFit p t v = true → bld (instF [a]) (tmLift (1 + c) t e) (c + e) = tmLift c t e
  | .mk k n nm ls xs, e, v, h => by
    rw [tmLift, tmLift]
    by_cases h1 : k = 1
    · obtain ⟨x, y, rfl, rfl, rfl⟩ := fit_var h h1
      subst h1
      rw [tmLiftL, tmLiftL]
      by_cases h2 : e ≤ n
      · rw [if_pos ⟨rfl, h2⟩, if_pos ⟨rfl, h2⟩, bld_inst_var, if_pos (by omega), if_pos (by simp only [List.length_cons, List.length_nil]; omega)]
        congr 1
        simp only [List.length_cons, List.length_nil]
        omega
      · rw [if_neg (fun q => h2 q.2), if_neg (fun q => h2 q.2), bld_inst_var, if_neg (by omega)]
    · rw [bld_inst_other h1, if_neg (fun q => h1 q.1), if_neg (fun q => h1 q.1), instL_under hc k xs 0 e v (fit_args h)]
theorem instL_under {p : Int} {a : Tm} {c : Int} (hc : 0 ≤ c) (k : Int) : ∀ (ts : List Tm) (i : Nat) (e v : Int), tmFitL p k ts i v = true → bldL (instF [a]) k (tmLiftL (1 + c) k ts i e) i (c + e) = tmLiftL c k ts i e
  | [], _, _, _, _ => rfl
  | t :: ts, i, e, v, h => by
    obtain ⟨h1, h2⟩ := fitL_cons h
    rw [tmLiftL, bldL, tmLiftL, instL_under hc k ts (i + 1) e v h2]
    congr 1
    by_cases hb : tmBind k i = true
    · rw [if_pos hb, if_pos hb, show c + e + 1 = c + (e + 1) by omega]
      exact inst_under hc t _ _ h1
    · rw [if_neg hb, if_neg hb]
      exact inst_under hc t _ _ h1
end
mutual
/-- one behind the other, or at once -/
theorem inst_steps {p : Int} {a b : Tm} {w : Int} (hb : tmFit p b w = true) : ∀ (t : Tm) (d v : Int), 0 ≤ d → tmFit p t v = true → bld (instF [a]) (bld (instF [tmLift 1 b 0]) t d) d = bld (instF [a, b]) t d
  | .mk k n nm ls xs, d, v, h0, h => by
    by_cases h1 : k = 1
    · obtain ⟨x, y, rfl, rfl, rfl⟩ := fit_var h h1
      subst h1
      rw [bld_inst_var, bld_inst_var]
      simp only [List.length_cons, List.length_nil]
      by_cases h2 : d ≤ n
      · rw [if_pos h2, if_pos h2]
        by_cases h3 : n = d
        · subst h3
          rw [if_neg (by omega), if_neg (by omega), Int.sub_self]
          show bld (instF [a]) (tmLift n (tmLift 1 b 0) 0) n = tmLift n b 0
          rw [lift_lift (by omega)]
          have := inst_under (a := a) h0 b 0 w hb
          rw [Int.add_zero] at this
          exact this
        · rw [if_pos (by omega), bld_inst_var]
          simp only [List.length_cons, List.length_nil]
          rw [if_pos (by omega)]
          by_cases h4 : n = d + 1
          · rw [if_neg (by omega), if_neg (by omega), show n - ((0 + 1 : Nat) : Int) - d = 0 by omega, show n - d = 1 by omega]
            rfl
          · rw [if_pos (by omega), if_pos (by omega)]
            congr 1
            omega
      · rw [if_neg h2, if_neg h2, bld_inst_var, if_neg h2]
    · rw [bld_inst_other h1, bld_inst_other h1, bld_inst_other h1, instL_steps hb k xs 0 d v h0 (fit_args h)]
theorem instL_steps {p : Int} {a b : Tm} {w : Int} (hb : tmFit p b w = true) (k : Int) : ∀ (ts : List Tm) (i : Nat) (d v : Int), 0 ≤ d → tmFitL p k ts i v = true → bldL (instF [a]) k (bldL (instF [tmLift 1 b 0]) k ts i d) i d = bldL (instF [a, b]) k ts i d
  | [], _, _, _, _, _ => rfl
  | t :: ts, i, d, v, h0, h => by
    obtain ⟨h1, h2⟩ := fitL_cons h
    rw [bldL, bldL, bldL, inst_steps hb t _ _ (by split <;> omega) h1, instL_steps hb k ts (i + 1) d v h0 h2]
end
mutual
theorem inst_loose {p : Int} {a b : Tm} : ∀ (t : Tm) (d v : Int), 0 ≤ d → tmFit p t v = true → tmLoose (bld (instF [a, b]) t d) d ≤ max (max (tmLoose t d - 2) (tmLoose a 0)) (tmLoose b 0)
  | .mk k n nm ls xs, d, v, h0, h => by
    have ha := tmLoose_nonneg a 0
    have hb := tmLoose_nonneg b 0
    by_cases h1 : k = 1
    · obtain ⟨x, y, rfl, rfl, rfl⟩ := fit_var h h1
      subst h1
      rw [bld_inst_var]
      simp only [List.length_cons, List.length_nil]
      by_cases h2 : d ≤ n
      · rw [if_pos h2]
        have la := loose_lift h0 a 0
        have lb := loose_lift h0 b 0
        rw [Int.zero_add] at la lb
        by_cases h3 : n = d
        · subst h3
          rw [if_neg (by omega), Int.sub_self]
          show tmLoose (tmLift n b 0) n ≤ _
          omega
        · by_cases h4 : n = d + 1
          · rw [if_neg (by omega), show n - d = 1 by omega]
            show tmLoose (tmLift d a 0) d ≤ _
            omega
          · rw [if_pos (by omega), tmLoose, tmLoose, if_pos rfl, if_pos rfl]
            omega
      · rw [if_neg h2, tmLoose, if_pos rfl]
        omega
    · rw [bld_inst_other h1, tmLoose, tmLoose, if_neg h1, if_neg h1]
      exact instL_loose k xs 0 d v h0 (fit_args h)
theorem instL_loose {p : Int} {a b : Tm} (k : Int) : ∀ (ts : List Tm) (i : Nat) (d v : Int), 0 ≤ d → tmFitL p k ts i v = true → tmLooseL k (bldL (instF [a, b]) k ts i d) i d ≤ max (max (tmLooseL k ts i d - 2) (tmLoose a 0)) (tmLoose b 0)
  | [], _, _, _, _, _ => by
    have ha := tmLoose_nonneg a 0
    rw [bldL, tmLooseL]
    omega
  | t :: ts, i, d, v, h0, h => by
    obtain ⟨h1, h2⟩ := fitL_cons h
    have e1 := inst_loose (a := a) (b := b) t (if tmBind k i = true then d + 1 else d) _ (by split <;> omega) h1
    have e2 := instL_loose (a := a) (b := b) k ts (i + 1) d v h0 h2
    rw [bldL, tmLooseL, tmLooseL]
    omega
end

/-! how often a variable is used -/
mutual
def tmUses (m : Int) : Tm → Int → Nat
  | .mk k n _ _ xs, d => (if k = 1 ∧ n = m + d then 1 else 0) + tmUsesL m k xs 0 d
def tmUsesL (m k : Int) : List Tm → Nat → Int → Nat
  | [], _, _ => 0
  | t :: ts, i, d => tmUses m t (if tmBind k i = true then d + 1 else d) + tmUsesL m k ts (i + 1) d
end
mutual
theorem inst_nodes {p : Int} {a : Tm} : ∀ (t : Tm) (d v : Int), tmFit p t v = true → (bld (instF [a]) t d).nodes + tmUses 0 t d = t.nodes + tmUses 0 t d * a.nodes
  | .mk k n nm ls xs, d, v, h => by
    by_cases h1 : k = 1
    · obtain ⟨x, y, rfl, rfl, rfl⟩ := fit_var h h1
      subst h1
      rw [bld_inst_var, tmUses, tmUsesL, Int.zero_add]
      simp only [List.length_cons, List.length_nil, true_and]
      by_cases h2 : d ≤ n
      · rw [if_pos h2]
        by_cases h3 : n = d
        · subst h3
          rw [if_neg (by omega), if_pos rfl, Int.sub_self]
          show (tmLift n a 0).nodes + 1 = 1 + 1 * a.nodes
          rw [tmLift_nodes]
          omega
        · rw [if_pos (by omega), if_neg h3]
          simp only [Tm.nodes, Tm.nodesL, Lv.nodesL]
          omega
      · rw [if_neg h2, if_neg (by omega)]
        simp only [Tm.nodes, Tm.nodesL, Lv.nodesL]
        omega
    · rw [bld_inst_other h1, tmUses, if_neg (fun e => h1 e.1), Nat.zero_add]
      have := instL_nodes (a := a) k xs 0 d v (fit_args h)
      simp only [Tm.nodes]
      omega
theorem instL_nodes {p : Int} {a : Tm} (k : Int) : ∀ (ts : List Tm) (i : Nat) (d v : Int), tmFitL p k ts i v = true → Tm.nodesL (bldL (instF [a]) k ts i d) + tmUsesL 0 k ts i d = Tm.nodesL ts + tmUsesL 0 k ts i d * a.nodes
  | [], _, _, _, _ => by rw [bldL, tmUsesL]; omega
  | t :: ts, i, d, v, h => by
    obtain ⟨h1, h2⟩ := fitL_cons h
    have e1 := inst_nodes (a := a) t (if tmBind k i = true then d + 1 else d) _ h1
    have e2 := instL_nodes (a := a) k ts (i + 1) d v h2
    rw [bldL, Tm.nodesL, Tm.nodesL, tmUsesL, Nat.add_mul]
    omega
end
mutual
theorem inst_unused {p : Int} {a b : Tm} : ∀ (t : Tm) (d v : Int), tmFit p t v = true → tmUses 0 t d = 0 → bld (instF [a]) t d = bld (instF [b]) t d
  | .mk k n nm ls xs, d, v, h, hu => by
    rw [tmUses] at hu
    by_cases h1 : k = 1
    · obtain ⟨x, y, rfl, rfl, rfl⟩ := fit_var h h1
      subst h1
      rw [Int.zero_add] at hu
      have h3 : n ≠ d := fun e => by rw [if_pos ⟨rfl, e⟩] at hu; omega
      rw [bld_inst_var, bld_inst_var]
      simp only [List.length_cons, List.length_nil]
      by_cases h2 : d ≤ n
      · rw [if_pos h2, if_pos h2, if_pos (by omega), if_pos (by omega)]
      · rw [if_neg h2, if_neg h2]
    · rw [bld_inst_other h1, bld_inst_other h1, instL_unused k xs 0 d v (fit_args h) (by omega)]
theorem instL_unused {p : Int} {a b : Tm} (k : Int) : ∀ (ts : List Tm) (i : Nat) (d v : Int), tmFitL p k ts i v = true → tmUsesL 0 k ts i d = 0 → bldL (instF [a]) k ts i d = bldL (instF [b]) k ts i d
  | [], _, _, _, _, _ => rfl
  | t :: ts, i, d, v, h, hu => by
    obtain ⟨h1, h2⟩ := fitL_cons h
    rw [tmUsesL] at hu
    rw [bldL, bldL, inst_unused t _ _ h1 (by omega), instL_unused k ts (i + 1) d v h2 (by omega)]
end
end Go.Proofs.YtjmmacbblnjogaaGreatDoor

/-
  Constants abstracted, and replaced, in plain words (bind). No condition.
-/
namespace Go.Proofs.YtjmmacbblnjogaaGreatDoor
open Go.RowKit

mutual
/-- does a constant stand in a term? -/
def tmHas (c : List UInt8) : Tm → Bool
  | .mk k _ nm _ xs => decide (k = 3 ∧ nm = c) || tmHasL c xs
def tmHasL (c : List UInt8) : List Tm → Bool
  | [] => false
  | t :: ts => tmHas c t || tmHasL c ts
end
mutual
/-- does it stand with levels? -/
def tmLeveled (c : List UInt8) : Tm → Bool
  | .mk k _ nm ls xs => decide (k = 3 ∧ nm = c ∧ ls ≠ []) || tmLeveledL c xs
def tmLeveledL (c : List UInt8) : List Tm → Bool
  | [] => false
  | t :: ts => tmLeveled c t || tmLeveledL c ts
end
theorem fit_const {p v : Int} {k n : Int} {nm : List UInt8} {ls : List Lv} {xs : List Tm} (h : tmFit p (.mk k n nm ls xs) v = true) (hk : k = 3) : n = 0 ∧ nameOk nm = true ∧ ls.length ≤ 4 ∧ xs = [] := by
  subst hk
  rw [tmFit, Bool.and_eq_true, Bool.and_eq_true] at h
  have h1 := h.1.1
  unfold tmNode at h1
  rw [if_neg (by omega), if_neg (by omega), if_pos rfl] at h1
  simp only [Bool.and_eq_true, decide_eq_true_eq] at h1
  exact ⟨h1.1.1.1, h1.1.1.2, h1.1.2, List.eq_nil_of_length_eq_zero h1.2⟩
theorem fit_tV {p v n : Int} (h0 : 0 ≤ n) (h1 : n < v) : tmFit p (.mk 1 n [] [] []) v = true := by
  rw [tmFit, tmFitL, Bool.and_true, Bool.and_eq_true, tmNode_1]
  exact ⟨⟨h0, h1, rfl, rfl, rfl⟩, rfl⟩

/-! where a text stands -/
theorem stAtI_spec {nms : List (List UInt8)} {nm : List UInt8} (h : 0 ≤ stAtI nms nm) : ∃ i : Nat, stAtI nms nm = i ∧ ∃ hi : i < nms.length, nms[i] = nm := by
  unfold stAtI at h ⊢
  cases hf : nms.findIdx? (fun x => decide (x = nm)) with
  | none => rw [hf] at h; simp at h
  | some i =>
    rw [List.findIdx?_eq_some_iff_getElem] at hf
    obtain ⟨hi, h1, _⟩ := hf
    exact ⟨i, rfl, hi, by simpa using h1⟩
theorem stAtI_none {nms : List (List UInt8)} {nm : List UInt8} (h : ¬0 ≤ stAtI nms nm) : nm ∉ nms := by
  unfold stAtI at h
  cases hf : nms.findIdx? (fun x => decide (x = nm)) with
  | some i => rw [hf] at h; exact absurd (by simp) h
  | none =>
    rw [List.findIdx?_eq_none_iff] at hf
    intro hm
    have := hf nm hm
    simp at this
theorem stAtI_lt (nms : List (List UInt8)) (nm : List UInt8) : stAtI nms nm < nms.length ∧ -1 ≤ stAtI nms nm := by
  by_cases h : 0 ≤ stAtI nms nm
  · obtain ⟨i, e, hi, _⟩ := stAtI_spec h
    omega
  · unfold stAtI at h ⊢
    cases hf : nms.findIdx? (fun x => decide (x = nm)) with
    | some i => rw [hf] at h; exact absurd (by simp) h
    | none => simp only; omega

/-! abstracted -/
theorem abs_const {nms : List (List UInt8)} {k n : Int} {nm : List UInt8} {ls : List Lv} {xs : List Tm} {d : Int} (h : k = 3 ∧ 0 ≤ stAtI nms nm) : absF nms (.mk k n nm ls xs) d = some (.mk 1 ((nms.length : Int) - 1 - stAtI nms nm + d) [] [] []) := if_pos h
theorem abs_other {nms : List (List UInt8)} {k n : Int} {nm : List UInt8} {ls : List Lv} {xs : List Tm} {d : Int} (h : ¬(k = 3 ∧ 0 ≤ stAtI nms nm)) : absF nms (.mk k n nm ls xs) d = movedF nms.length 0 (.mk k n nm ls xs) d := if_neg h
theorem bld_abs_const {nms : List (List UInt8)} {k n : Int} {nm : List UInt8} {ls : List Lv} {xs : List Tm} {d : Int} (h : k = 3 ∧ 0 ≤ stAtI nms nm) : bld (absF nms) (.mk k n nm ls xs) d = .mk 1 ((nms.length : Int) - 1 - stAtI nms nm + d) [] [] [] := bld_some (abs_const h)
theorem bld_abs_var {nms : List (List UInt8)} {n d : Int} (h : d ≤ n) : bld (absF nms) (.mk 1 n [] [] []) d = .mk 1 (n + nms.length) [] [] [] := by
  refine bld_some ?_
  rw [abs_other (by omega)]
  exact moved_yes ⟨rfl, by omega⟩
theorem bld_abs_stay {nms : List (List UInt8)} {k n : Int} {nm : List UInt8} {ls : List Lv} {xs : List Tm} {d : Int} (h : ¬(k = 3 ∧ 0 ≤ stAtI nms nm)) (h2 : ¬(k = 1 ∧ d ≤ n)) : bld (absF nms) (.mk k n nm ls xs) d = .mk k n nm ls (bldL (absF nms) k xs 0 d) := by
  refine bld_stay ?_
  rw [abs_other h]
  exact moved_no (fun e => h2 ⟨e.1, by omega⟩)
/-- constants that stand for themselves -/
def constsOf (nms : List (List UInt8)) : List Tm := nms.map fun nm => .mk 3 0 nm [] []
theorem constsOf_len (nms : List (List UInt8)) : (constsOf nms).length = nms.length := List.length_map _
mutual
/-- constants that are abstracted, and put in again, are as they were -/
theorem abs_back {p : Int} {nms : List (List UInt8)} : ∀ (t : Tm) (d v : Int), tmFit p t v = true → (∀ c ∈ nms, tmLeveled c t = false) → bld (instF (constsOf nms)) (bld (absF nms) t d) d = t
  | .mk k n nm ls xs, d, v, h, hl => by
    by_cases h1 : k = 3 ∧ 0 ≤ stAtI nms nm
    · obtain ⟨i, e, hi, hg⟩ := stAtI_spec h1.2
      obtain ⟨a, b, c, f⟩ := fit_const h h1.1
      have hlv : ls = [] := by
        have := hl nm (by rw [← hg]; exact List.getElem_mem hi)
        rw [tmLeveled, Bool.or_eq_false_iff, decide_eq_false_iff_not] at this
        by_cases hz : ls = []
        · exact hz
        · exact absurd ⟨h1.1, rfl, hz⟩ this.1
      rw [bld_abs_const h1, bld_inst_var, if_pos (by omega), if_neg (by rw [constsOf_len]; omega), constsOf_len]
      rw [show nms.length - 1 - ((nms.length : Int) - 1 - stAtI nms nm + d - d).toNat = i by omega]
      rw [List.getD_eq_getElem?_getD, List.getElem?_eq_getElem (by rw [constsOf_len]; exact hi)]
      simp only [Option.getD_some, constsOf, List.getElem_map]
      rw [tmLift, if_neg (by omega), tmLiftL, hg, h1.1, a, hlv, f]
    · by_cases h2 : k = 1
      · obtain ⟨a, b, rfl, rfl, rfl⟩ := fit_var h h2
        subst h2
        by_cases h3 : d ≤ n
        · rw [bld_abs_var h3, bld_inst_var, if_pos (by omega), constsOf_len, if_pos (by omega)]
          congr 1
          omega
        · rw [bld_abs_stay h1 (fun e => h3 e.2), bldL, bld_inst_var, if_neg h3]
      · rw [bld_abs_stay h1 (fun e => h2 e.1), bld_inst_other h2, absL_back k xs 0 d v (fit_args h) fun c hc => ?_]
        have := hl c hc
        rw [tmLeveled, Bool.or_eq_false_iff] at this
        exact this.2
theorem absL_back {p : Int} {nms : List (List UInt8)} (k : Int) : ∀ (ts : List Tm) (i : Nat) (d v : Int), tmFitL p k ts i v = true → (∀ c ∈ nms, tmLeveledL c ts = false) → bldL (instF (constsOf nms)) k (bldL (absF nms) k ts i d) i d = ts
  | [], _, _, _, _, _ => rfl
  | t :: ts, i, d, v, h, hl => by
    obtain ⟨h1, h2⟩ := fitL_cons h
    rw [bldL, bldL, abs_back t _ _ h1 (fun c hc => ?_), absL_back k ts (i + 1) d v h2 (fun c hc => ?_)]
    · have := hl c hc
      rw [tmLeveledL, Bool.or_eq_false_iff] at this
      exact this.2
    · have := hl c hc
      rw [tmLeveledL, Bool.or_eq_false_iff] at this
      exact this.1
end
mutual
theorem abs_nodes {p : Int} {nms : List (List UInt8)} : ∀ (t : Tm) (d v : Int), tmFit p t v = true → (bld (absF nms) t d).nodes ≤ t.nodes
  | .mk k n nm ls xs, d, v, h => by
    by_cases h1 : k = 3 ∧ 0 ≤ stAtI nms nm
    · rw [bld_abs_const h1]
      simp only [Tm.nodes, Tm.nodesL, Lv.nodesL]
      omega
    · by_cases h2 : k = 1 ∧ d ≤ n
      · obtain ⟨a, b, rfl, rfl, rfl⟩ := fit_var h h2.1
        obtain ⟨rfl, h3⟩ := h2
        rw [bld_abs_var h3]
        exact Nat.le_refl _
      · rw [bld_abs_stay h1 h2]
        have := absL_nodes (nms := nms) k xs 0 d v (fit_args h)
        simp only [Tm.nodes]
        omega
theorem absL_nodes {p : Int} {nms : List (List UInt8)} (k : Int) : ∀ (ts : List Tm) (i : Nat) (d v : Int), tmFitL p k ts i v = true → Tm.nodesL (bldL (absF nms) k ts i d) ≤ Tm.nodesL ts
  | [], _, _, _, _ => Nat.le_refl _
  | t :: ts, i, d, v, h => by
    obtain ⟨h1, h2⟩ := fitL_cons h
    have e1 := abs_nodes (nms := nms) t (if tmBind k i = true then d + 1 else d) _ h1
    have e2 := absL_nodes (nms := nms) k ts (i + 1) d v h2
    rw [bldL, Tm.nodesL, Tm.nodesL]
    omega
end
theorem fit_mk {p v v' : Int} {k n : Int} {nm : List UInt8} {ls : List Lv} {xs ys : List Tm} (h : tmFit p (.mk k n nm ls xs) v = true) (hk : k ≠ 1) (hl : ys.length = xs.length) (hy : tmFitL p k ys 0 v' = true) : tmFit p (.mk k n nm ls ys) v' = true := by
  rw [tmFit, Bool.and_eq_true, Bool.and_eq_true] at h ⊢
  rw [hl, tmNode_k (v' := v) hk]
  exact ⟨h.1, hy⟩
mutual
theorem abs_fit {p : Int} {nms : List (List UInt8)} (hp : p ≤ 4) : ∀ (t : Tm) (d v : Int), 0 ≤ v → 0 ≤ d → tmFit p t (v + d) = true → tmFit p (bld (absF nms) t d) (v + nms.length + d) = true
  | .mk k n nm ls xs, d, v, h0, hd, h => by
    by_cases h1 : k = 3 ∧ 0 ≤ stAtI nms nm
    · have := stAtI_lt nms nm
      rw [bld_abs_const h1]
      exact fit_tV (by omega) (by omega)
    · by_cases h2 : k = 1
      · obtain ⟨a, b, rfl, rfl, rfl⟩ := fit_var h h2
        subst h2
        by_cases h3 : d ≤ n
        · rw [bld_abs_var h3]
          exact fit_tV (by omega) (by omega)
        · rw [bld_abs_stay h1 (fun e => h3 e.2), bldL]
          exact fit_tV a (by omega)
      · rw [bld_abs_stay h1 (fun e => h2 e.1)]
        exact fit_mk h h2 (bldL_len _ _ _ _ _) (absL_fit hp k xs 0 d v h0 hd (fit_args h))
theorem absL_fit {p : Int} {nms : List (List UInt8)} (hp : p ≤ 4) (k : Int) : ∀ (ts : List Tm) (i : Nat) (d v : Int), 0 ≤ v → 0 ≤ d → tmFitL p k ts i (v + d) = true → tmFitL p k (bldL (absF nms) k ts i d) i (v + nms.length + d) = true
  | [], _, _, _, _, _, _ => rfl
  | t :: ts, i, d, v, h0, hd, h => by
    obtain ⟨h1, h2⟩ := fitL_cons h
    rw [bldL, tmFitL, Bool.and_eq_true]
    refine ⟨?_, absL_fit hp k ts (i + 1) d v h0 hd h2⟩
    by_cases hb : tmBind k i = true
    · rw [if_pos hb] at h1 ⊢
      rw [if_pos hb, Int.add_assoc (v + _)]
      exact abs_fit hp t (d + 1) v h0 (by omega) (by rw [← Int.add_assoc]; exact h1)
    · rw [if_neg hb] at h1 ⊢
      rw [if_neg hb]
      exact abs_fit hp t d v h0 hd h1
end
mutual
theorem abs_has {p : Int} {nms : List (List UInt8)} {c : List UInt8} (hc : c ∈ nms) : ∀ (t : Tm) (d v : Int), tmFit p t v = true → tmHas c (bld (absF nms) t d) = false
  | .mk k n nm ls xs, d, v, h => by
    by_cases h1 : k = 3 ∧ 0 ≤ stAtI nms nm
    · rw [bld_abs_const h1, tmHas, tmHasL]
      simp
    · by_cases h2 : k = 1 ∧ d ≤ n
      · obtain ⟨a, b, rfl, rfl, rfl⟩ := fit_var h h2.1
        obtain ⟨rfl, h3⟩ := h2
        rw [bld_abs_var h3, tmHas, tmHasL]
        simp
      · rw [bld_abs_stay h1 h2, tmHas, absL_has hc k xs 0 d v (fit_args h), Bool.or_false, decide_eq_false_iff_not]
        rintro ⟨e1, rfl⟩
        refine h1 ⟨e1, ?_⟩
        by_cases h4 : 0 ≤ stAtI nms nm
        · exact h4
        · exact absurd hc (stAtI_none h4)
theorem absL_has {p : Int} {nms : List (List UInt8)} {c : List UInt8} (hc : c ∈ nms) (k : Int) : ∀ (ts : List Tm) (i : Nat) (d v : Int), tmFitL p k ts i v = true → tmHasL c (bldL (absF nms) k ts i d) = false
  | [], _, _, _, _ => rfl
  | t :: ts, i, d, v, h => by
    obtain ⟨h1, h2⟩ := fitL_cons h
    rw [bldL, tmHasL, abs_has hc t _ _ h1, absL_has hc k ts (i + 1) d v h2]
    rfl
end

/-! replaced -/
theorem repl_yes {c : List UInt8} {u : Tm} {k n : Int} {nm : List UInt8} {ls : List Lv} {xs : List Tm} {d : Int} (h : k = 3 ∧ nm = c) : bld (replF c u) (.mk k n nm ls xs) d = tmLift d u 0 := bld_some (if_pos h)
theorem repl_no {c : List UInt8} {u : Tm} {k n : Int} {nm : List UInt8} {ls : List Lv} {xs : List Tm} {d : Int} (h : ¬(k = 3 ∧ nm = c)) : bld (replF c u) (.mk k n nm ls xs) d = .mk k n nm ls (bldL (replF c u) k xs 0 d) := bld_stay (if_neg h)
mutual
theorem has_lift {c : List UInt8} {e : Int} : ∀ (t : Tm) (d : Int), tmHas c (tmLift e t d) = tmHas c t
  | .mk k n nm ls xs, d => by rw [tmLift, tmHas, tmHas, hasL_lift k xs 0 d]
theorem hasL_lift {c : List UInt8} {e : Int} (k : Int) : ∀ (ts : List Tm) (i : Nat) (d : Int), tmHasL c (tmLiftL e k ts i d) = tmHasL c ts
  | [], _, _ => rfl
  | t :: ts, i, d => by rw [tmLiftL, tmHasL, tmHasL, has_lift t, hasL_lift k ts (i + 1) d]
end
mutual
theorem repl_has {p : Int} {c : List UInt8} {u : Tm} : ∀ (t : Tm) (d v : Int), tmFit p t v = true → tmHas c (bld (replF c u) t d) = (tmHas c t && tmHas c u)
  | .mk k n nm ls xs, d, v, h => by
    by_cases h1 : k = 3 ∧ nm = c
    · rw [repl_yes h1, has_lift, tmHas, decide_eq_true h1, Bool.true_or, Bool.true_and]
    · rw [repl_no h1, tmHas, tmHas, decide_eq_false h1, Bool.false_or, Bool.false_or, replL_has k xs 0 d v (fit_args h)]
theorem replL_has {p : Int} {c : List UInt8} {u : Tm} (k : Int) : ∀ (ts : List Tm) (i : Nat) (d v : Int), tmFitL p k ts i v = true → tmHasL c (bldL (replF c u) k ts i d) = (tmHasL c ts && tmHas c u)
  | [], _, _, _, _ => rfl
  | t :: ts, i, d, v, h => by
    obtain ⟨h1, h2⟩ := fitL_cons h
    rw [bldL, tmHasL, tmHasL, repl_has t _ _ h1, replL_has k ts (i + 1) d v h2]
    cases tmHas c t <;> cases tmHasL c ts <;> cases tmHas c u <;> rfl
end
mutual
theorem repl_none {c : List UInt8} {u : Tm} : ∀ (t : Tm) (d : Int), tmHas c t = false → bld (replF c u) t d = t
  | .mk k n nm ls xs, d, h => by
    rw [tmHas, Bool.or_eq_false_iff, decide_eq_false_iff_not] at h
    rw [repl_no h.1, replL_none k xs 0 d h.2]
theorem replL_none {c : List UInt8} {u : Tm} (k : Int) : ∀ (ts : List Tm) (i : Nat) (d : Int), tmHasL c ts = false → bldL (replF c u) k ts i d = ts
  | [], _, _, _ => rfl
  | t :: ts, i, d, h => by
    rw [tmHasL, Bool.or_eq_false_iff] at h
    rw [bldL, repl_none t _ h.1, replL_none k ts (i + 1) d h.2]
end
mutual
theorem repl_self {p : Int} {c : List UInt8} : ∀ (t : Tm) (d v : Int), tmFit p t v = true → tmLeveled c t = false → bld (replF c (.mk 3 0 c [] [])) t d = t
  | .mk k n nm ls xs, d, v, h, hl => by
    rw [tmLeveled, Bool.or_eq_false_iff, decide_eq_false_iff_not] at hl
    by_cases h1 : k = 3 ∧ nm = c
    · obtain ⟨a, b, e, f⟩ := fit_const h h1.1
      have hz : ls = [] := by
        by_cases hz : ls = []
        · exact hz
        · exact absurd ⟨h1.1, h1.2, hz⟩ hl.1
      rw [repl_yes h1, tmLift, if_neg (by omega), tmLiftL, h1.1, h1.2, a, hz, f]
    · rw [repl_no h1, replL_self k xs 0 d v (fit_args h) hl.2]
theorem replL_self {p : Int} {c : List UInt8} (k : Int) : ∀ (ts : List Tm) (i : Nat) (d v : Int), tmFitL p k ts i v = true → tmLeveledL c ts = false → bldL (replF c (.mk 3 0 c [] [])) k ts i d = ts
  | [], _, _, _, _, _ => rfl
  | t :: ts, i, d, v, h, hl => by
    obtain ⟨h1, h2⟩ := fitL_cons h
    rw [tmLeveledL, Bool.or_eq_false_iff] at hl
    rw [bldL, repl_self t _ _ h1 hl.1, replL_self k ts (i + 1) d v h2 hl.2]
end
mutual
theorem repl_fit {p : Int} {c : List UInt8} {u : Tm} {w : Int} (hp : p ≤ 4) (hu : tmFit p u w = true) : ∀ (t : Tm) (d : Int), 0 ≤ d → tmFit p t (w + d) = true → tmFit p (bld (replF c u) t d) (w + d) = true
  | .mk k n nm ls xs, d, hd, h => by
    by_cases h1 : k = 3 ∧ nm = c
    · rw [repl_yes h1]
      exact fit_lift hd u 0 w hu
    · rw [repl_no h1]
      by_cases h2 : k = 1
      · obtain ⟨a, b, rfl, rfl, rfl⟩ := fit_var h h2
        rw [bldL]
        exact h
      · exact fit_mk h h2 (bldL_len _ _ _ _ _) (replL_fit hp hu k xs 0 d hd (fit_args h))
theorem replL_fit {p : Int} {c : List UInt8} {u : Tm} {w : Int} (hp : p ≤ 4) (hu : tmFit p u w = true) (k : Int) : ∀ (ts : List Tm) (i : Nat) (d : Int), 0 ≤ d → tmFitL p k ts i (w + d) = true → tmFitL p k (bldL (replF c u) k ts i d) i (w + d) = true
  | [], _, _, _, _ => rfl
  | t :: ts, i, d, hd, h => by
    obtain ⟨h1, h2⟩ := fitL_cons h
    rw [bldL, tmFitL, Bool.and_eq_true]
    refine ⟨?_, replL_fit hp hu k ts (i + 1) d hd h2⟩
    by_cases hb : tmBind k i = true
    · rw [if_pos hb] at h1 ⊢
      rw [if_pos hb, Int.add_assoc]
      exact repl_fit hp hu t (d + 1) (by omega) (by rw [← Int.add_assoc]; exact h1)
    · rw [if_neg hb] at h1 ⊢
      rw [if_neg hb]
      exact repl_fit hp hu t d hd h1
end

end Go.Proofs.YtjmmacbblnjogaaGreatDoor

/-
  A term's constants, in order; slices.Contains over texts; bind.Occurs. No condition.
-/
namespace Go.Proofs.YtjmmacbblnjogaaGreatDoor
open Go.RowKit

/-! a term's constants -/
mutual
theorem has_subs {c : List UInt8} : ∀ t : Tm, tmHas c t = true ↔ c ∈ cnames t.subs
  | .mk k n nm ls xs => by
    rw [tmHas, Tm.subs, cnames, List.filter_cons]
    have ih := hasL_subs (c := c) xs
    rw [cnames] at ih
    by_cases h : k = 3
    · rw [if_pos (by simp [Tm.kind, h]), List.map_cons, List.mem_cons, ← ih]
      simp only [Bool.or_eq_true, decide_eq_true_eq, h, true_and]
      exact ⟨fun e => e.imp Eq.symm id, fun e => e.imp Eq.symm id⟩
    · rw [if_neg (by simp [Tm.kind, h]), ← ih]
      simp [h]
theorem hasL_subs {c : List UInt8} : ∀ ts : List Tm, tmHasL c ts = true ↔ c ∈ cnames (Tm.subsL ts)
  | [] => by simp [tmHasL, Tm.subsL, cnames]
  | t :: ts => by
    have h1 := has_subs (c := c) t
    have h2 := hasL_subs (c := c) ts
    rw [cnames] at h1 h2
    rw [tmHasL, Tm.subsL, cnames, List.filter_append, List.map_append, List.mem_append, Bool.or_eq_true, h1, h2]
end

theorem once_all {l : List (List UInt8)} : ∀ (j : Nat) (h : j < l.length), l[j] ∈ stsOnce l
  | j, h => by
    unfold stsOnce Lib.compact Lib.compactUpTo
    by_cases hk : Lib.keeps l.toArray j = true
    · refine List.mem_map.2 ⟨j, List.mem_filter.2 ⟨List.mem_range.2 h, hk⟩, ?_⟩
      rw [getElem!_pos l.toArray j (by simpa using h)]
      simp
    · unfold Lib.keeps at hk
      simp only [decide_eq_true_eq, not_or, Decidable.not_not] at hk
      obtain ⟨h0, h1⟩ := hk
      rw [getElem!_pos l.toArray j (by simpa using h), getElem!_pos l.toArray (j - 1) (by simp; omega)] at h1
      have ih := once_all (l := l) (j - 1) (by omega)
      unfold stsOnce Lib.compact Lib.compactUpTo at ih
      have e : l[j] = l[j - 1]'(by omega) := by simpa using h1
      rw [e]
      exact ih
termination_by j => j
theorem nmSort_mem {l : List (List UInt8)} {s : List UInt8} : s ∈ nmSort l ↔ s ∈ l := by
  unfold nmSort
  constructor
  · intro h
    exact stsSort_mem.1 (stsOnce_mem h)
  · intro h
    obtain ⟨j, hj, e⟩ := List.getElem_of_mem (stsSort_mem.2 h)
    rw [← e]
    exact once_all j hj
/-- does a constant occur in a right term? -/
def tmOccurs (c : List UInt8) (t : Tm) : Bool := tmRight 4 1125899906842624 t && tmHas c t
theorem occurs_iff (c : List UInt8) (t : Tm) : decide (c ∈ tmConsts t) = tmOccurs c t := by
  unfold tmConsts tmOccurs
  by_cases h : tmRight 4 1125899906842624 t = true
  · rw [if_pos h, h, Bool.true_and, Bool.eq_iff_iff, decide_eq_true_eq, nmSort_mem]
    exact (has_subs t).symm
  · rw [if_neg h, Bool.eq_false_iff.2 h]
    simp
end Go.Proofs.YtjmmacbblnjogaaGreatDoor

/-
  Terms made anew with so many nodes at most, in plain words (bind). No condition.
-/
namespace Go.Proofs.YtjmmacbblnjogaaGreatDoor
open Go.RowKit

section
variable {σ : Type} (f : Leaf) (st : σ → Tm → Int → σ)
/-- how many nodes, as far as they are counted -/
def nodesI (t : Tm) : Int := ((min t.nodes 2001 : Nat) : Int)
mutual
/-- a term made anew, what is left of the nodes, and what the leaves' function has noted -/
def btm : Tm → Int → Int × σ → Tm × Int × σ
  | .mk k n nm ls xs, d, w => if w.1 < 0 then (tm0, w) else match f (.mk k n nm ls xs) d with
    | some x => (x, w.1 - nodesI x, st w.2 (.mk k n nm ls xs) d)
    | none => match xs with
      | [] => (.mk k n nm ls [], w.1 - nodesI (.mk k n nm ls []), st w.2 (.mk k n nm ls []) d)
      | x :: ys => (.mk k 0 [] [] (btmL k (x :: ys) 0 d (w.1 - 1, st w.2 (.mk k n nm ls (x :: ys)) d)).1, (btmL k (x :: ys) 0 d (w.1 - 1, st w.2 (.mk k n nm ls (x :: ys)) d)).2)
def btmL (k : Int) : List Tm → Nat → Int → Int × σ → List Tm × Int × σ
  | [], _, _, w => ([], w)
  | t :: ts, i, d, w => ((btm t (if tmBind k i = true then d + 1 else d) w).1 :: (btmL k ts (i + 1) d (btm t (if tmBind k i = true then d + 1 else d) w).2).1, (btmL k ts (i + 1) d (btm t (if tmBind k i = true then d + 1 else d) w).2).2)
end
variable {f st}
theorem btm_stop {t : Tm} {d : Int} {w : Int × σ} (h : w.1 < 0) : btm f st t d w = (tm0, w) := by
  cases t with
  | mk k n nm ls xs => cases xs <;> rw [btm, if_pos h]
theorem btm_put {t x : Tm} {d : Int} {w : Int × σ} (h : ¬w.1 < 0) (hf : f t d = some x) : btm f st t d w = (x, w.1 - nodesI x, st w.2 t d) := by
  cases t with
  | mk k n nm ls xs => cases xs <;> rw [btm, if_neg h, hf]
theorem btm_leaf {t : Tm} {d : Int} {w : Int × σ} (h : ¬w.1 < 0) (hf : f t d = none) (ha : t.args = []) : btm f st t d w = (t, w.1 - nodesI t, st w.2 t d) := by
  cases t with
  | mk k n nm ls xs =>
    obtain rfl : xs = [] := ha
    rw [btm, if_neg h, hf]
theorem btm_in {t : Tm} {d : Int} {w : Int × σ} (h : ¬w.1 < 0) (hf : f t d = none) (ha : t.args ≠ []) : btm f st t d w = (.mk t.kind 0 [] [] (btmL f st t.kind t.args 0 d (w.1 - 1, st w.2 t d)).1, (btmL f st t.kind t.args 0 d (w.1 - 1, st w.2 t d)).2) := by
  cases t with
  | mk k n nm ls xs =>
    cases xs with
    | nil => exact absurd rfl ha
    | cons x xs => rw [btm, if_neg h, hf]; rfl
theorem btmL_len (k : Int) : ∀ (ts : List Tm) (i : Nat) (d : Int) (w : Int × σ), (btmL f st k ts i d w).1.length = ts.length
  | [], _, _, _ => by rw [btmL]
  | t :: ts, i, d, w => by rw [btmL, List.length_cons, List.length_cons, btmL_len k ts]
theorem btmL_snoc (k : Int) (t : Tm) : ∀ (ts : List Tm) (i : Nat) (d : Int) (w : Int × σ), btmL f st k (ts ++ [t]) i d w = ((btmL f st k ts i d w).1 ++ [(btm f st t (if tmBind k (i + ts.length) = true then d + 1 else d) (btmL f st k ts i d w).2).1], (btm f st t (if tmBind k (i + ts.length) = true then d + 1 else d) (btmL f st k ts i d w).2).2)
  | [], i, d, w => by simp only [List.nil_append, btmL, List.length_nil, Nat.add_zero]
  | x :: ts, i, d, w => by
    rw [List.cons_append, btmL, btmL_snoc k t ts (i + 1)]
    rw [btmL, List.length_cons, show i + 1 + ts.length = i + (ts.length + 1) by omega]
    rfl
theorem btmL_take {k : Int} {ts : List Tm} {d : Int} {w : Int × σ} {j : Nat} (h : j < ts.length) : btmL f st k (ts.take (j + 1)) 0 d w = ((btmL f st k (ts.take j) 0 d w).1 ++ [(btm f st ts[j] (if tmBind k j = true then d + 1 else d) (btmL f st k (ts.take j) 0 d w).2).1], (btm f st ts[j] (if tmBind k j = true then d + 1 else d) (btmL f st k (ts.take j) 0 d w).2).2) := by
  rw [List.take_succ_eq_append_getElem h, btmL_snoc]
  simp only [List.length_take, Nat.min_eq_left (Nat.le_of_lt h), Nat.zero_add]
theorem nodesI_le (t : Tm) : 1 ≤ nodesI t ∧ nodesI t ≤ 2001 := by
  have := t.nodes_pos
  unfold nodesI
  omega
mutual
theorem btm_bound : ∀ (t : Tm) (d : Int) (w : Int × σ), -2001 ≤ w.1 → -2001 ≤ (btm f st t d w).2.1 ∧ (btm f st t d w).2.1 ≤ w.1
  | .mk k n nm ls xs, d, w, h => by
    by_cases h0 : w.1 < 0
    · rw [btm_stop h0]; exact ⟨h, Int.le_refl _⟩
    · cases hf : f (.mk k n nm ls xs) d with
      | some x =>
        rw [btm_put h0 hf]
        have := nodesI_le x
        simp only
        omega
      | none =>
        by_cases ha : xs = []
        · rw [btm_leaf h0 hf ha]
          have := nodesI_le (.mk k n nm ls xs)
          simp only
          omega
        · rw [btm_in h0 hf ha]
          have := btmL_bound k xs 0 d (w.1 - 1, st w.2 (.mk k n nm ls xs) d) (by simp only; omega)
          simp only [Tm.kind, Tm.args] at this ⊢
          omega
theorem btmL_bound (k : Int) : ∀ (ts : List Tm) (i : Nat) (d : Int) (w : Int × σ), -2001 ≤ w.1 → -2001 ≤ (btmL f st k ts i d w).2.1 ∧ (btmL f st k ts i d w).2.1 ≤ w.1
  | [], _, _, _, h => by rw [btmL]; exact ⟨h, Int.le_refl _⟩
  | t :: ts, i, d, w, h => by
    have h1 := btm_bound t (if tmBind k i = true then d + 1 else d) w h
    have h2 := btmL_bound k ts (i + 1) d _ h1.1
    rw [btmL]
    simp only
    omega
end
mutual
/-- where there are nodes enough, all is as it should be; where not, it is told -/
theorem btm_spec {p : Int} (hs : ∀ t d x, f t d = some x → x.nodes ≤ 2000) : ∀ (t : Tm) (d v : Int) (w : Int × σ), 0 ≤ w.1 → t.nodes ≤ 2000 → tmFit p t v = true →
    (((bld f t d).nodes : Int) ≤ w.1 → (btm f st t d w).1 = bld f t d ∧ (btm f st t d w).2.1 = w.1 - (bld f t d).nodes) ∧ (w.1 < (bld f t d).nodes → (btm f st t d w).2.1 < 0)
  | .mk k n nm ls xs, d, v, w, h, ht, hfit => by
    have h0 : ¬w.1 < 0 := by omega
    cases hf : f (.mk k n nm ls xs) d with
    | some x =>
      have := hs _ _ _ hf
      rw [bld_some hf, btm_put h0 hf]
      have : nodesI x = x.nodes := by unfold nodesI; omega
      simp only [this]
      exact ⟨fun _ => by simp, fun _ => by omega⟩
    | none =>
      by_cases ha : xs = []
      · subst ha
        rw [bld_stay hf, btm_leaf h0 hf rfl, bldL]
        have : nodesI (.mk k n nm ls []) = (Tm.mk k n nm ls []).nodes := by unfold nodesI; omega
        simp only [this]
        exact ⟨fun _ => by simp, fun _ => by omega⟩
      · obtain ⟨hn, hnm, hls⟩ := fit_inner hfit ha
        simp only [Tm.n, Tm.name, Tm.levels] at hn hnm hls
        subst hn hnm hls
        rw [bld_stay hf, btm_in h0 hf ha]
        have hnd : (Tm.mk k 0 [] [] (bldL f k xs 0 d)).nodes = 1 + Tm.nodesL (bldL f k xs 0 d) := by simp only [Tm.nodes, Lv.nodesL]; omega
        have hnt : (Tm.mk k 0 [] [] xs).nodes = 1 + Tm.nodesL xs := by simp only [Tm.nodes, Lv.nodesL]; omega
        have hw : (w.1 - 1, st w.2 (.mk k 0 [] [] xs) d).1 = w.1 - 1 := rfl
        have := btmL_spec hs k xs 0 d v (w.1 - 1, st w.2 (.mk k 0 [] [] xs) d) (by simp only; omega) (by omega) (fit_args hfit)
        simp only [Tm.kind, Tm.args] at this ⊢
        refine ⟨fun h1 => ?_, fun h1 => ?_⟩
        · have := this.1 (by omega) (by omega)
          refine ⟨by rw [this.1], by omega⟩
        · by_cases h2 : 0 ≤ w.1 - 1
          · exact this.2 h2 (by omega)
          · have hb := btmL_bound (f := f) (st := st) k xs 0 d (w.1 - 1, st w.2 (.mk k 0 [] [] xs) d) (by simp only; omega)
            simp only at hb
            omega
theorem btmL_spec {p : Int} (hs : ∀ t d x, f t d = some x → x.nodes ≤ 2000) (k : Int) : ∀ (ts : List Tm) (i : Nat) (d v : Int) (w : Int × σ), -2001 ≤ w.1 → Tm.nodesL ts ≤ 2000 → tmFitL p k ts i v = true →
    (0 ≤ w.1 → (Tm.nodesL (bldL f k ts i d) : Int) ≤ w.1 → (btmL f st k ts i d w).1 = bldL f k ts i d ∧ (btmL f st k ts i d w).2.1 = w.1 - Tm.nodesL (bldL f k ts i d)) ∧ (0 ≤ w.1 → w.1 < Tm.nodesL (bldL f k ts i d) → (btmL f st k ts i d w).2.1 < 0)
  | [], _, _, _, w, _, _, _ => by
    rw [bldL, btmL, Tm.nodesL]
    exact ⟨fun _ _ => ⟨rfl, by simp⟩, fun h1 h2 => by simp at h2; omega⟩
  | t :: ts, i, d, v, w, h, ht, hfit => by
    obtain ⟨f1, f2⟩ := fitL_cons hfit
    rw [Tm.nodesL] at ht
    rw [bldL, btmL, Tm.nodesL]
    obtain ⟨e, he⟩ : ∃ e, (if tmBind k i = true then d + 1 else d) = e := ⟨_, rfl⟩
    rw [he]
    have hb := btm_bound (f := f) (st := st) t e w h
    have hbL := btmL_bound (f := f) (st := st) k ts (i + 1) d (btm f st t e w).2 hb.1
    have h2 := btmL_spec hs k ts (i + 1) d v (btm f st t e w).2 hb.1 (by omega) f2
    simp only
    refine ⟨fun h0 h1 => ?_, fun h0 h1 => ?_⟩
    · have g := (btm_spec hs t e _ w h0 (by omega) f1).1 (by omega)
      have g2 := h2.1 (by omega) (by omega)
      exact ⟨by rw [g.1, g2.1], by omega⟩
    · have g := btm_spec hs t e _ w h0 (by omega) f1
      by_cases h3 : ((bld f t e).nodes : Int) ≤ w.1
      · have g1 := g.1 h3
        exact h2.2 (by omega) (by omega)
      · have g1 := g.2 (by omega)
        omega
end
mutual
/-- what each step keeps, all keep -/
theorem btm_J {J : Int × σ → Prop} (hJ : ∀ w t d l, J w → 0 ≤ w.1 → l ≤ w.1 - 1 → J (l, st w.2 t d)) : ∀ (t : Tm) (d : Int) (w : Int × σ), J w → J (btm f st t d w).2
  | .mk k n nm ls xs, d, w, h => by
    by_cases h0 : w.1 < 0
    · rw [btm_stop h0]; exact h
    · cases hf : f (.mk k n nm ls xs) d with
      | some x =>
        rw [btm_put h0 hf]
        have := nodesI_le x
        exact hJ _ _ _ _ h (by omega) (by omega)
      | none =>
        by_cases ha : xs = []
        · rw [btm_leaf h0 hf ha]
          have := nodesI_le (.mk k n nm ls xs)
          exact hJ _ _ _ _ h (by omega) (by omega)
        · rw [btm_in h0 hf ha]
          exact btmL_J hJ k xs 0 d (w.1 - 1, st w.2 (.mk k n nm ls xs) d) (hJ _ _ _ _ h (by omega) (by omega))
theorem btmL_J {J : Int × σ → Prop} (hJ : ∀ w t d l, J w → 0 ≤ w.1 → l ≤ w.1 - 1 → J (l, st w.2 t d)) (k : Int) : ∀ (ts : List Tm) (i : Nat) (d : Int) (w : Int × σ), J w → J (btmL f st k ts i d w).2
  | [], _, _, _, h => by rw [btmL]; exact h
  | t :: ts, i, d, w, h => by
    rw [btmL]
    exact btmL_J hJ k ts (i + 1) d _ (btm_J hJ t (if tmBind k i = true then d + 1 else d) w h)
end
end
section
variable {σ : Type} (st : σ → Tm → Int → σ)
mutual
/-- what a leaves' function notes of all nodes -/
def tmRun : Tm → Int → σ → σ
  | .mk k n nm ls xs, d, s => tmRunL k xs 0 d (st s (.mk k n nm ls xs) d)
def tmRunL (k : Int) : List Tm → Nat → Int → σ → σ
  | [], _, _, s => s
  | t :: ts, i, d, s => tmRunL k ts (i + 1) d (tmRun t (if tmBind k i = true then d + 1 else d) s)
end
variable {st} {f : Leaf}
mutual
theorem btm_run {p : Int} (hx : ∀ t d v x, tmFit p t v = true → f t d = some x → t.args = [] ∧ x.nodes ≤ t.nodes) : ∀ (t : Tm) (d v : Int) (w : Int × σ), tmFit p t v = true → (t.nodes : Int) ≤ w.1 → (btm f st t d w).2.2 = tmRun st t d w.2 ∧ w.1 - t.nodes ≤ (btm f st t d w).2.1
  | .mk k n nm ls xs, d, v, w, hfit, hw => by
    have h0 : ¬w.1 < 0 := by omega
    cases hf : f (.mk k n nm ls xs) d with
    | some x =>
      obtain ⟨h1, h2⟩ := hx _ _ _ _ hfit hf
      obtain rfl : xs = [] := h1
      rw [btm_put h0 hf, tmRun, tmRunL]
      unfold nodesI
      exact ⟨rfl, by simp only; omega⟩
    | none =>
      by_cases ha : xs = []
      · subst ha
        rw [btm_leaf h0 hf rfl, tmRun, tmRunL]
        unfold nodesI
        exact ⟨rfl, by simp only; omega⟩
      · rw [btm_in h0 hf ha, tmRun]
        have hnt : (Tm.mk k n nm ls xs).nodes = 1 + Lv.nodesL ls + Tm.nodesL xs := by simp only [Tm.nodes]; omega
        have := btmL_run hx k xs 0 d v (w.1 - 1, st w.2 (.mk k n nm ls xs) d) (fit_args hfit) (by simp only; omega)
        simp only [Tm.kind, Tm.args] at this ⊢
        exact ⟨this.1, by omega⟩
theorem btmL_run {p : Int} (hx : ∀ t d v x, tmFit p t v = true → f t d = some x → t.args = [] ∧ x.nodes ≤ t.nodes) (k : Int) : ∀ (ts : List Tm) (i : Nat) (d v : Int) (w : Int × σ), tmFitL p k ts i v = true → (Tm.nodesL ts : Int) ≤ w.1 → (btmL f st k ts i d w).2.2 = tmRunL st k ts i d w.2 ∧ w.1 - Tm.nodesL ts ≤ (btmL f st k ts i d w).2.1
  | [], _, _, _, w, _, _ => by rw [btmL, tmRunL, Tm.nodesL]; exact ⟨rfl, by simp⟩
  | t :: ts, i, d, v, w, hfit, hw => by
    obtain ⟨f1, f2⟩ := fitL_cons hfit
    rw [Tm.nodesL] at hw
    have h1 := btm_run hx t (if tmBind k i = true then d + 1 else d) _ w f1 (by omega)
    have h2 := btmL_run hx k ts (i + 1) d v (btm f st t (if tmBind k i = true then d + 1 else d) w).2 f2 (by omega)
    rw [btmL, tmRunL, Tm.nodesL]
    simp only
    rw [h2.1, h1.1]
    exact ⟨rfl, by omega⟩
end
end
end Go.Proofs.YtjmmacbblnjogaaGreatDoor

/-
  bind: build.done, build.term. No condition.
-/
namespace Go.Proofs.YtjmmacbblnjogaaGreatDoor
open Go.RowKit

def leafX : Option Tm → AV
  | some x => .tup [tmX x, .b true]
  | none => .tup [tmX tm0, .b false]
/-- a build stands in a heap -/
def Builds {σ : Type} (b : Nat) (fv : AV) (F : Int × σ → Heap) : Prop := ∀ (w : Int × σ) (l : Int), Heap.At b (.cells [fv, .i w.1]) (.cells [fv, .i l]) (F w) (F (l, w.2))
/-- what a leaves' function does -/
def LeafOk {σ : Type} (J : Int × σ → Prop) (g : FuncId) (caps : List AV) (f : Leaf) (st : σ → Tm → Int → σ) (F : Int × σ → Heap) : Prop :=
  ∀ (t : Tm) (d v : Int) (w : Int × σ) (G : Heap) (Q : AV → Heap → Prop), tmFit 4 t v = true → v ≤ 1125899906844700 → 0 ≤ d → d ≤ 2001 → t.nodes ≤ 2000 → 0 ≤ w.1 → J w → Q (leafX (f t d)) (G ++ F (w.1, st w.2 t d)) → Con Tryz.prog g ([tmX t, .i d] ++ caps) (G ++ F w) Q
theorem Builds.on {σ : Type} {b : Nat} {fv : AV} {F : Int × σ → Heap} (h : Builds b fv F) (G : Heap) : Builds b fv (fun w => G ++ F w) := fun w l => At.after (h w l) G
theorem Builds.mem {σ : Type} {b : Nat} {fv : AV} {F : Int × σ → Heap} (h : Builds b fv F) (w : Int × σ) : (b, .cells [fv, .i w.1]) ∈ F w := (h w 0).mem

theorem le22 : 2 ≤ 2 := by decide
set_option maxRecDepth 100000 in
theorem binner_con (k : Int) (i : Nat) (deep : Int) (h : in64 (deep + 1)) : Ans Tryz.prog 93 [.i k, .i i, .i deep] (.i (if tmBind k i = true then deep + 1 else deep)) := by
  intro H Q hq
  have yes : tmBind k i = true → ∃ r H', Le (.i (deep + 1)) r ∧ List.Sublist H' H ∧ Q r H' := fun h => by
    rw [if_pos h] at hq
    exact ⟨_, H, Le.refl _, List.Sublist.refl _, hq⟩
  have no : tmBind k i = false → ∃ r H', Le (.i deep) r ∧ List.Sublist H' H ∧ Q r H' := fun h => by
    rw [if_neg (by rw [h]; decide)] at hq
    exact ⟨_, H, Le.refl _, List.Sublist.refl _, hq⟩
  refine con_of_awp (esc := fun _ => false) tab_ok mixed Tryz.func93 rfl (ent Tryz.func93 (by kernel_rfl) rfl) (by kernel_rfl) ?_
  intro hw hn
  clear hw hn
  refine ifB_dec (fun h1 => ?_) (fun h1 => ?_)
  · refine ifB_dec (fun h2 => ?_) (fun h2 => ?_)
    · have : i = 1 := by omega
      exact ⟨h, yes (by subst h1; subst this; rfl)⟩
    · refine ifB_dec (fun h3 => ?_) (fun h3 => ?_)
      · omega
      · exact no (by subst h1; simp [tmBind]; omega)
  · refine ifB_dec (fun h2 => ?_) (fun h2 => ?_)
    · refine ifB_dec (fun h3 => ?_) (fun h3 => ?_)
      · have : i = 1 := by omega
        exact ⟨h, yes (by subst h2; subst this; rfl)⟩
      · refine ifB_dec (fun h4 => ?_) (fun h4 => ?_)
        · omega
        · exact no (by subst h2; simp [tmBind]; omega)
    · refine ifB_dec (fun h3 => ?_) (fun h3 => ?_)
      · refine ifB_dec (fun h4 => ?_) (fun h4 => ?_)
        · have : i = 2 := by omega
          exact ⟨h, yes (by subst h3; subst this; rfl)⟩
        · exact no (by subst h3; simp [tmBind]; omega)
      · exact no (by simp [tmBind, h1, h2, h3])
set_option maxRecDepth 100000 in
theorem bright_con (t : Tm) : Ans Tryz.prog 44 [tmX t] (.b (tmRight 4 1125899906842624 t)) := by
  intro H Q hq
  refine con_of_awp (esc := fun _ => false) tab_ok mixed Tryz.func44 rfl (ent Tryz.func44 (by kernel_rfl) rfl) (by kernel_rfl) ?_
  intro hw hn
  refine ⟨_, LeL.refl _, tmRight_con 4 1125899906842624 t _ _ ?_⟩
  intro hz1 hz2; clear hz1 hz2
  exact ⟨_, H, Le.refl _, List.Sublist.refl _, hq⟩
set_option maxRecDepth 100000 in
theorem bwrong_con (t : Tm) : Ans Tryz.prog 49 [tmX t] (.b (!tmRight 4 1125899906842624 t)) := by
  intro H Q hq
  refine con_of_awp (esc := fun _ => false) tab_ok mixed Tryz.func49 rfl (ent Tryz.func49 (by kernel_rfl) rfl) (by kernel_rfl) ?_
  intro hw hn
  refine ⟨_, LeL.refl _, bright_con t _ _ ?_⟩
  intro hz1 hz2; clear hz1 hz2
  exact ⟨_, H, Le.refl _, List.Sublist.refl _, hq⟩
def smallB (n : Int) : Bool := decide (0 ≤ n) && decide (n ≤ 1048576)
set_option maxRecDepth 100000 in
theorem bsmall_con (n : Int) : Ans Tryz.prog 45 [.i n] (.b (smallB n)) := by
  intro H Q hq
  refine con_of_awp (esc := fun _ => false) tab_ok mixed Tryz.func45 rfl (ent Tryz.func45 (by kernel_rfl) rfl) (by kernel_rfl) ?_
  intro hw hn
  have fin : ∀ q : Bool, q = smallB n → ∃ r H', Le (.b q) r ∧ List.Sublist H' H ∧ Q r H' := fun q h => ⟨_, H, ret_b h, List.Sublist.refl _, hq⟩
  refine ifB_dec (fun h1 => ?_) (fun h1 => ?_)
  · refine ifB_dec (fun h2 => ?_) (fun h2 => ?_)
    · exact fin _ (by simp [smallB, h1, h2])
    · exact fin _ (by simp [smallB, h1, h2])
  · exact fin _ (by simp [smallB, h1])
set_option maxRecDepth 100000 in
theorem done_con {σ : Type} {b : Nat} {fv : AV} {F : Int × σ → Heap} (hF : Builds b fv F) (x : Tm) (w : Int × σ) (h0 : -2001 ≤ w.1) (h1 : w.1 ≤ 2000) (G : Heap) (Q : AV → Heap → Prop) (hq : Q (tmX x) (G ++ F (w.1 - nodesI x, w.2))) :
    Con Tryz.prog 91 [.ptr b 0, tmX x] (G ++ F w) Q := by
  have hx := nodesI_le x
  have hG := hF.on G
  have hin := hG.mem w
  refine con_of_awp (esc := fun _ => false) tab_ok mixed Tryz.func91 rfl (ent Tryz.func91 (by kernel_rfl) rfl) (by kernel_rfl) ?_
  intro hw hn
  refine ⟨[0, 1, 2, 3, 4, 5, 6, 7, 8, 9], [(b, .cells [fv, .i w.1])], by kernel_rfl, pin1 hin, ?_⟩
  refine ⟨_, List.mem_singleton.2 rfl, ?_⟩
  refine ⟨_, LeL.refl _, tmNodes_con x _ _ ?_⟩
  intro hz1 hz2; clear hz1 hz2
  refine ⟨pin1 hin, ?_⟩
  refine ⟨in64_of (by first | omega | (dsimp only; omega)) (by first | omega | (dsimp only; omega)), ?_⟩
  refine ⟨_, _, hG w (w.1 - nodesI x), le22, ?_⟩
  refine keepP_t (by kernel_rfl) ?_
  exact ⟨_, _, Le.refl _, List.Sublist.refl _, hq⟩
theorem bufH_app (q : Option Cap) (G H : Heap) : bufH q G ++ H = bufH q (G ++ H) := by cases q <;> rfl
set_option maxRecDepth 100000 in
set_option maxHeartbeats 2000000 in
theorem bterm_con {σ : Type} {b : Nat} {g : FuncId} {caps : List AV} {f : Leaf} {st : σ → Tm → Int → σ} {F : Int × σ → Heap} (hF : Builds b (.fn (.func g) caps) F) {J : Int × σ → Prop} (hJ : ∀ w t d l, J w → 0 ≤ w.1 → l ≤ w.1 - 1 → J (l, st w.2 t d)) (hL : LeafOk J g caps f st F) : ∀ (N : Nat) (t : Tm) (d v : Int) (w : Int × σ) (G : Heap) (Q : AV → Heap → Prop), t.nodes ≤ N → N ≤ 2000 → tmFit 4 t v = true → v + N ≤ 1125899906844700 → 0 ≤ d → d + N ≤ 2001 → -2001 ≤ w.1 → w.1 ≤ 2000 → J w →
    Q (tmX (btm f st t d w).1) (G ++ F (btm f st t d w).2) → Con Tryz.prog 75 [.ptr b 0, tmX t, .i d] (G ++ F w) Q := by
  intro N
  induction N with
  | zero => intro t d v w G Q h; have := t.nodes_pos; omega
  | succ N ih =>
    intro t d v w G Q hN hN2 hfit hv hd0 hd1 hw0 hw1 hj hq
    have hnd := t.nodes_eq
    have htl := tmLen_nodes t.args
    have hfl := tmFit_argL hfit
    have hG := hF.on G
    have hin := hG.mem w
    obtain ⟨s1, hs1⟩ : ∃ s1, st w.2 t d = s1 := ⟨_, rfl⟩
    have hin1 := hG.mem (w.1, s1)
    have hleaf := hL t d v w G
    rw [hs1] at hleaf
    obtain ⟨r, hr⟩ : ∃ r, btm f st t d w = r := ⟨_, rfl⟩
    rw [hr] at hq
    obtain ⟨fx, hfx⟩ : ∃ fx, f t d = fx := ⟨_, rfl⟩
    rw [hfx] at hleaf
    refine con_of_awp (esc := fun _ => false) tab_ok mixed Tryz.func75 rfl (ent Tryz.func75 (by kernel_rfl) rfl) (by kernel_rfl) ?_
    intro hw hn
    clear hw hn
    refine ⟨_, hin, ?_⟩
    refine ifB_dec (fun h1 => ?_) (fun h1 => ?_)
    · rw [btm_stop h1] at hr
      subst hr
      exact ⟨_, _, le_tm0, List.Sublist.refl _, hq⟩
    · refine ⟨[0, 1, 2, 3, 4, 5, 10, 6, 7, 8, 9, 11, 12], [(b, .cells [.fn (.func g) caps, .i w.1])], by kernel_rfl, pin1 hin, ?_⟩
      refine ⟨_, List.mem_singleton.2 rfl, ?_⟩
      refine ⟨pin1 hin, ?_⟩
      refine ⟨_, LeL.refl _, hleaf _ hfit (by omega) hd0 (by omega) (by omega) (by omega) hj ?_⟩
      intro hz1 hz2; clear hz1 hz2
      cases fx with
      | some x =>
        rw [btm_put h1 hfx, hs1] at hr
        subst hr
        refine ⟨pin1 hin1, ?_⟩
        refine ⟨_, LeL.refl _, done_con hF x (w.1, s1) hw0 hw1 G _ ?_⟩
        intro hz1 hz2; clear hz1 hz2
        exact ⟨_, _, Le.refl _, List.Sublist.refl _, hq⟩
      | none =>
        refine ⟨pin1 hin1, ?_⟩
        refine ifB_dec (fun h2 => ?_) (fun h2 => ?_)
        · have ha : t.args = [] := List.eq_nil_of_length_eq_zero (by simpa using h2)
          rw [btm_leaf h1 hfx ha, hs1] at hr
          subst hr
          refine ⟨[tmX t, .sl .full 5 (([] : List Tm).map tmA)], ⟨Le.refl _, Le.nil' _, trivial⟩, App_con .full t [] (by omega) (by simp) (by simp) _ _ ?_⟩
          intro hz1 hz2; clear hz1 hz2
          refine ⟨_, LeL.refl _, done_con hF t (w.1, s1) hw0 hw1 G _ ?_⟩
          intro hz1 hz2; clear hz1 hz2
          exact ⟨_, _, Le.refl _, List.Sublist.refl _, hq⟩
        · have ha : t.args ≠ [] := fun e => h2 (by rw [e]; rfl)
          rw [btm_in h1 hfx ha, hs1] at hr
          subst hr
          refine ⟨_, hin1, ?_⟩
          refine ⟨in64_of (by first | omega | (dsimp only; omega)) (by first | omega | (dsimp only; omega)), ?_⟩
          refine ⟨_, _, hG (w.1, s1) (w.1 - 1), le22, ?_⟩
          refine ⟨Option Cap × Nat, fun p => ⟨[(0, .g (.ptr b 0)), (2, .g (.i d)), (4, .lp 4 0), (6, .lp 6 0), (9, .lp 9 0), (51, .g (.sl .no 5 (t.args.map tmA))), (52, .g (.i t.args.length)), (53, .g (.i p.2))], [(9, [.i t.kind, .i 0, .str [], .sl .full 0 [], .sl (ownQ p.1) 5 ((btmL f st t.kind (t.args.take p.2) 0 d (w.1 - 1, s1)).1.map tmA)]), (7, (tmX tm0).cells), (6, [.i 0, .i 0, .str [], .sl .full 0 [], .sl .full 0 []]), (4, (tmX t).cells)], bufH p.1 G ++ F (btmL f st t.kind (t.args.take p.2) 0 d (w.1 - 1, s1)).2⟩,
            fun q => q.2 ≤ t.args.length ∧ tmFitL 4 t.kind (t.args.drop q.2) q.2 v = true, fun q => t.args.length - q.2, ⟨(none, 0), ⟨Nat.zero_le _, hfl⟩, ?_⟩, ?_⟩
          · refine ⟨⟨Le.refl _, Le.refl _, ⟨rfl, rfl⟩, ⟨rfl, rfl⟩, ⟨rfl, rfl⟩, Le.refl _, le_of_eq ?_, Le.refl _, trivial⟩, ⟨⟨rfl, ⟨Le.refl _, Le.refl _, Le.refl _, Le.refl _, Le.nil' _, trivial⟩⟩, ⟨rfl, LeL.refl _⟩, ⟨rfl, LeL.refl _⟩, ⟨rfl, LeL.refl _⟩, trivial⟩, List.Sublist.refl _⟩
            show AV.i _ = AV.i _
            rw [List.length_map]
          · rintro ⟨q, j⟩ ⟨hjl, hft⟩
            simp only at hjl hft
            have hbd := btmL_bound (f := f) (st := st) t.kind (t.args.take j) 0 d (w.1 - 1, s1) (by simp only; omega)
            have hJj := btmL_J (f := f) (st := st) hJ t.kind (t.args.take j) 0 d (w.1 - 1, s1) (by rw [← hs1]; exact hJ w t d _ hj (by omega) (by omega))
            have hlenj := btmL_len (f := f) (st := st) t.kind (t.args.take j) 0 d (w.1 - 1, s1)
            refine ifB_dec (fun h3 => ?_) (fun h3 => ?_)
            · simp only at h3
              have hlt : j < t.args.length := by omega
              have hmem := Tm.nodesL_mem (List.getElem_mem hlt)
              rw [tmFitL_at hlt, Bool.and_eq_true] at hft
              have hd2 : 0 ≤ (if tmBind t.kind j = true then d + 1 else d) ∧ (if tmBind t.kind j = true then d + 1 else d) ≤ d + 1 := by split <;> omega
              have hv2 : (if tmBind t.kind j = true then v + 1 else v) ≤ v + 1 := by split <;> omega
              have htake := btmL_take (f := f) (st := st) (k := t.kind) (d := d) (w := (w.1 - 1, s1)) hlt
              obtain ⟨d2, hd2e⟩ : ∃ d2, (if tmBind t.kind j = true then d + 1 else d) = d2 := ⟨_, rfl⟩
              rw [hd2e] at htake hd2
              obtain ⟨acc, hacc⟩ : ∃ acc, btmL f st t.kind (t.args.take j) 0 d (w.1 - 1, s1) = acc := ⟨_, rfl⟩
              rw [hacc] at htake hbd hlenj hJj
              obtain ⟨z, hz⟩ : ∃ z, btm f st t.args[j] d2 acc.2 = z := ⟨_, rfl⟩
              rw [hz] at htake
              have hsn : acc.1.map tmA ++ [tmX z.1] = (btmL f st t.kind (t.args.take (j + 1)) 0 d (w.1 - 1, s1)).1.map tmA := by rw [htake, List.map_append, ← tmA_eq]; rfl
              have hnext : ∀ c' : Cap, Le (.sl (.own c') 5 (acc.1.map tmA ++ [tmX z.1])) (.sl (ownQ (some c')) 5 ((btmL f st t.kind (t.args.take (j + 1)) 0 d (w.1 - 1, s1)).1.map tmA)) := fun c' => by rw [hsn]; exact Le.refl _
              have hG2 : ∀ G' : Heap, G' ++ F (btmL f st t.kind (t.args.take (j + 1)) 0 d (w.1 - 1, s1)).2 = G' ++ F z.2 := fun G' => by rw [htake]
              have hlen2 : acc.1.length ≤ t.args.length := by rw [hlenj, List.length_take]; omega
              simp only [hacc]
              refine ⟨j, rfl, _, tmAt' hlt, ?_⟩
              refine ⟨[0, 1, 2, 3, 4, 5, 6, 7, 8, 9, 10, 11, 12, 13], [], by kernel_rfl, by simp, ?_⟩
              refine ⟨_, LeL.refl _, (binner_con t.kind j d (in64_of (by omega) (by omega))).to (by rw [hd2e]) _ _ ?_⟩
              intro hz1 hz2; clear hz1 hz2
              refine ⟨_, LeL.refl _, ih t.args[j] d2 (if tmBind t.kind j = true then v + 1 else v) acc.2 (bufH q G) _ (by omega) (by omega) hft.1 (by omega) hd2.1 (by omega) (by simp only at hbd; omega) (by simp only at hbd; omega) hJj ?_⟩
              rw [hz]
              intro hz1 hz2; clear hz1 hz2
              refine ⟨?_, ?_⟩
              · simp only [List.length_map, List.length_cons, List.length_nil]
                show _ * (80 + 1) ≤ _
                omega
              refine own_of (q := q) (H0 := G ++ F z.2) ?_ ?_ ?_ (fun c' hc => ?_)
              · exact bufH_app q G _
              · exact rfl
              · exact fun _ h => h
              refine ⟨in64_of (by first | omega | (dsimp only; omega)) (by first | omega | (dsimp only; omega)), ?_⟩
              exact ⟨(some c', j + 1), ⟨(by simp only; omega), hft.2⟩, by (try dsimp only); omega, ⟨⟨Le.refl _, Le.refl _, ⟨rfl, rfl⟩, ⟨rfl, rfl⟩, ⟨rfl, rfl⟩, Le.refl _, Le.refl _, Le.refl _, trivial⟩, ⟨⟨rfl, ⟨Le.refl _, Le.refl _, Le.refl _, Le.refl _, hnext c', trivial⟩⟩, ⟨rfl, LeL.refl _⟩, ⟨rfl, LeL.refl _⟩, ⟨rfl, LeL.refl _⟩, trivial⟩, sub_eq (congrArg (_ :: ·) (hG2 G))⟩⟩
            · simp only at h3
              have hj' : t.args.length = j := by omega
              subst hj'
              have hfin : Le (.agg [.i t.kind, .i 0, .str [], .sl .full 0 [], .sl (ownQ q) 5 ((btmL f st t.kind (t.args.take t.args.length) 0 d (w.1 - 1, s1)).1.map tmA)]) (tmX (.mk t.kind 0 [] [] (btmL f st t.kind (t.args.take t.args.length) 0 d (w.1 - 1, s1)).1)) :=
                Le.agg ⟨Le.refl _, Le.refl _, Le.refl _, Le.nil _ _, ownQ_le _ _ _, trivial⟩
              have hsub : List.Sublist (G ++ F (btmL f st t.kind (t.args.take t.args.length) 0 d (w.1 - 1, s1)).2) (bufH q G ++ F (btmL f st t.kind (t.args.take t.args.length) 0 d (w.1 - 1, s1)).2) := by rw [bufH_app]; exact bufH_sub q _
              exact ⟨_, _, hfin, hsub, by rw [List.take_length]; exact hq⟩
end Go.Proofs.YtjmmacbblnjogaaGreatDoor

/-
  bind: made, moved, raised, Lift. No condition.
-/
namespace Go.Proofs.YtjmmacbblnjogaaGreatDoor
open Go.RowKit

/-- what a leaves' function does, whatever stands ahead in the heap -/
def LeafS {σ : Type} (J : Int × σ → Prop) (g : FuncId) (caps : List AV) (f : Leaf) (st : σ → Tm → Int → σ) (H0 : σ → Heap) : Prop :=
  ∀ (t : Tm) (d v l : Int) (s : σ) (G : Heap) (Q : AV → Heap → Prop), tmFit 4 t v = true → v ≤ 1125899906844700 → 0 ≤ d → d ≤ 2001 → t.nodes ≤ 2000 → 0 ≤ l → J (l, s) → Q (leafX (f t d)) (G ++ H0 (st s t d)) → Con Tryz.prog g ([tmX t, .i d] ++ caps) (G ++ H0 s) Q
set_option maxRecDepth 100000 in
theorem LeafS.ok {σ : Type} {g : FuncId} {caps : List AV} {f : Leaf} {st : σ → Tm → Int → σ} {H0 : σ → Heap} {J : Int × σ → Prop} (h : LeafS J g caps f st H0) (b : Nat) (fv : AV) : LeafOk J g caps f st (fun w => (b, .cells [fv, .i w.1]) :: H0 w.2) := by
  intro t d v w G Q h1 h2 h3 h4 h5 h6 h7 hq
  have e : ∀ s, G ++ (b, .cells [fv, .i w.1]) :: H0 s = (G ++ [(b, .cells [fv, .i w.1])]) ++ H0 s := fun s => by simp
  have := h t d v w.1 w.2 (G ++ [(b, .cells [fv, .i w.1])]) Q h1 h2 h3 h4 h5 h6 h7
  rw [← e, ← e] at this
  exact this hq
def LeafA (g : FuncId) (caps : List AV) (f : Leaf) : Prop :=
  ∀ (t : Tm) (d v : Int), tmFit 4 t v = true → v ≤ 1125899906844700 → 0 ≤ d → d ≤ 2001 → t.nodes ≤ 2000 → Ans Tryz.prog g ([tmX t, .i d] ++ caps) (leafX (f t d))
set_option maxRecDepth 100000 in
theorem LeafA.s {g : FuncId} {caps : List AV} {f : Leaf} (h : LeafA g caps f) (H : Heap) : LeafS (fun _ => True) g caps f (fun (s : Unit) _ _ => s) (fun _ => H) :=
  fun t d v _ _ G Q h1 h2 h3 h4 h5 _ _ hq => h t d v h1 h2 h3 h4 h5 _ Q hq
theorem builds_top {σ : Type} (b : Nat) (fv : AV) (H0 : σ → Heap) : Builds b fv (fun w : Int × σ => (b, .cells [fv, .i w.1]) :: H0 w.2) := fun _ _ => .here
theorem right_fit {p v : Int} {t : Tm} (h : tmRight p v t = true) : t.nodes ≤ 2000 ∧ tmFit p t (min v 1125899906842624) = true := by
  unfold tmRight at h
  simp only [Bool.and_eq_true, decide_eq_true_eq] at h
  exact ⟨h.1.2, h.2⟩
def madeX {σ : Type} (r : Tm × Int × σ) : AV := if r.2.1 < 0 then .tup [tmX tm0, .b false] else .tup [tmX r.1, .b true]
set_option maxRecDepth 100000 in
theorem bmade_con {σ : Type} {g : FuncId} {caps : List AV} {f : Leaf} {st : σ → Tm → Int → σ} {H0 : σ → Heap} {J : Int × σ → Prop} (hJ : ∀ w t d l, J w → 0 ≤ w.1 → l ≤ w.1 - 1 → J (l, st w.2 t d)) (hL : LeafS J g caps f st H0) (t : Tm) (ht : tmRight 4 1125899906842624 t = true) (s0 : σ) (hj : J (2000, s0)) (Q : AV → Heap → Prop)
    (hq : Q (madeX (btm f st t 0 (2000, s0))) (H0 (btm f st t 0 (2000, s0)).2.2)) : Con Tryz.prog 46 [tmX t, .fn (.func g) caps] (H0 s0) Q := by
  obtain ⟨hn1, hfit⟩ := right_fit ht
  obtain ⟨r, hr⟩ : ∃ r, btm f st t 0 (2000, s0) = r := ⟨_, rfl⟩
  rw [hr] at hq
  have hb := btm_bound (f := f) (st := st) t 0 (2000, s0) (by simp)
  rw [hr] at hb
  refine con_of_awp (esc := ([10].contains ·)) tab_ok mixed Tryz.func46 rfl (ent Tryz.func46 (by kernel_rfl) rfl) (by kernel_rfl) ?_
  intro hw hn b hb2
  have hT := bterm_con (builds_top b (.fn (.func g) caps) H0) hJ (hL.ok b (.fn (.func g) caps)) 2000 t 0 1125899906842624 (2000, s0) []
  rw [hr] at hT
  refine ⟨_, LeL.refl _, hT _ hn1 (by omega) (by simpa using hfit) (by omega) (by omega) (by omega) (by simp) (by simp) hj ?_⟩
  intro hz1 hz2; clear hz1 hz2
  refine ⟨_, List.mem_cons_self, ?_⟩
  refine ifB_dec (fun h1 => ?_) (fun h1 => ?_)
  · refine ⟨_, _, ?_, List.sublist_cons_self _ _, hq⟩
    have hfin : Le (.tup [.agg [.i 0, .i 0, .str [], .sl .full 0 [], .sl .full 0 []], .b false]) (madeX r) := by
      unfold madeX
      rw [if_pos h1]
      exact Le.tup ⟨le_tm0, Le.refl _, trivial⟩
    exact hfin
  · refine ⟨_, _, ?_, List.sublist_cons_self _ _, hq⟩
    unfold madeX
    rw [if_neg h1]
    exact Le.refl _
/-- a term, if it has not too many nodes -/
def madeB (x : Tm) : Tm × Bool := if x.nodes ≤ 2000 then (x, true) else (tm0, false)
theorem madeX_eq {σ : Type} {f : Leaf} {st : σ → Tm → Int → σ} (hs : ∀ t d x, f t d = some x → x.nodes ≤ 2000) {t : Tm} (ht : tmRight 4 1125899906842624 t = true) (s0 : σ) : madeX (btm f st t 0 (2000, s0)) = .tup [tmX (madeB (bld f t 0)).1, .b (madeB (bld f t 0)).2] := by
  obtain ⟨h1, h2⟩ := right_fit ht
  obtain ⟨k1, k2⟩ := btm_spec (st := st) hs t 0 _ (2000, s0) (by simp) h1 h2
  unfold madeX madeB
  by_cases h : (bld f t 0).nodes ≤ 2000
  · obtain ⟨g1, g2⟩ := k1 (by simp only; omega)
    rw [if_neg (by rw [g2]; simp only; omega), if_pos h, g1]
  · rw [if_pos (k2 (by simp only; omega)), if_neg h]
set_option maxRecDepth 100000 in
theorem bmade_ans {g : FuncId} {caps : List AV} {f : Leaf} (hL : LeafA g caps f) (hs : ∀ t d x, f t d = some x → x.nodes ≤ 2000) (t : Tm) (ht : tmRight 4 1125899906842624 t = true) : Ans Tryz.prog 46 [tmX t, .fn (.func g) caps] (.tup [tmX (madeB (bld f t 0)).1, .b (madeB (bld f t 0)).2]) := by
  intro H Q hq
  refine bmade_con (fun _ _ _ _ _ _ _ => trivial) (LeafA.s hL H) t ht () trivial Q ?_
  rw [madeX_eq hs ht]
  exact hq

set_option maxRecDepth 100000 in
theorem moved_con (c from_ : Int) : Ans Tryz.prog 47 [.i c, .i from_] (.fn (.func 76) [.ip [.i from_], .ip [.i c]]) := by
  intro H Q hq
  refine Con.ice (Con.ice ?_)
  refine con_of_awp (esc := ([2,3].contains ·)) tab_ok mixed Tryz.func47 rfl (ent Tryz.func47 (by kernel_rfl) rfl) (by kernel_rfl) ?_
  intro hw hn b hb b2 hb2
  exact ⟨_, _, Le.refl _, List.Sublist.refl _, b2, [.i from_], (b, .cells [.i c]) :: H, .fn (.func 76) [.ip [.i from_], .ptr b 0], .here, fun M h => LeM.fn ⟨ptr_ice h, LeM.refl _, trivial⟩, b, [.i c], H, .fn (.func 76) [.ip [.i from_], .ip [.i c]], .here, fun M h => LeM.fn ⟨LeM.refl _, ptr_ice h, trivial⟩, hq⟩
theorem movedF_nodes {c from_ : Int} (t : Tm) (d : Int) (x : Tm) (h : movedF c from_ t d = some x) : x.nodes ≤ 2000 := by
  unfold movedF at h
  split at h
  · cases h; simp [Tm.nodes, Tm.nodesL, Lv.nodesL]
  · cases h
set_option maxRecDepth 100000 in
theorem moved1_con {c from_ : Int} (h0 : 0 ≤ c) (h1 : c ≤ 2000000) (h2 : 0 ≤ from_) (h3 : from_ ≤ 2000000) : LeafA 76 [.ip [.i from_], .ip [.i c]] (movedF c from_) := by
  intro t d v hfit hv hd0 hd1 hn H Q hq
  obtain ⟨fx, hfx⟩ : ∃ fx, movedF c from_ t d = fx := ⟨_, rfl⟩
  rw [hfx] at hq
  unfold movedF at hfx
  refine con_of_awp (esc := fun _ => false) tab_ok mixed Tryz.func76 rfl (ent Tryz.func76 (by kernel_rfl) rfl) (by kernel_rfl) ?_
  intro hw hnn
  clear hw hnn
  have no : ¬(t.kind = 1 ∧ from_ + d ≤ t.n) → ∃ r H', Le (.tup [.agg [.i 0, .i 0, .str [], .sl .full 0 [], .sl .full 0 []], .b false]) r ∧ List.Sublist H' H ∧ Q r H' := fun h => by
    rw [if_neg h] at hfx
    subst hfx
    exact ⟨.tup [tmX tm0, .b false], H, Le.tup ⟨le_tm0, Le.refl _, trivial⟩, List.Sublist.refl _, hq⟩
  refine ifB_dec (fun k1 => ?_) (fun k1 => ?_)
  · have hvn := tmFit_var hfit k1
    refine ⟨in64_of (by first | omega | (dsimp only; omega)) (by first | omega | (dsimp only; omega)), ?_⟩
    refine ifB_dec (fun k2 => ?_) (fun k2 => ?_)
    · exact no fun h => by omega
    · refine ⟨in64_of (by first | omega | (dsimp only; omega)) (by first | omega | (dsimp only; omega)), ?_⟩
      rw [if_pos ⟨k1, by omega⟩] at hfx
      subst hfx
      refine ⟨_, LeL.refl _, Var_con _ _ _ ?_⟩
      intro hz1 hz2; clear hz1 hz2
      exact ⟨_, H, Le.refl _, List.Sublist.refl _, hq⟩
  · exact no fun h => k1 h.1
set_option maxRecDepth 100000 in
theorem raised_con {t : Tm} (ht : tmRight 4 1125899906842624 t = true) {c : Int} (h0 : 0 ≤ c) (h1 : c ≤ 2000000) : Ans Tryz.prog 52 [tmX t, .i c] (tmX (tmLift c t 0)) := by
  intro H Q hq
  obtain ⟨hn1, hfit⟩ := right_fit ht
  have hb := bld_moved (c := c) (from_ := 0) t 0 _ hfit
  have hm := bmade_ans (moved1_con (from_ := 0) h0 h1 (by decide) (by decide)) movedF_nodes t ht
  rw [hb, Int.add_zero] at hm
  unfold madeB at hm
  rw [if_pos (by rw [tmLift_nodes]; exact hn1)] at hm
  refine con_of_awp (esc := fun _ => false) tab_ok mixed Tryz.func52 rfl (ent Tryz.func52 (by kernel_rfl) rfl) (by kernel_rfl) ?_
  intro hw hn
  refine ⟨[0, 1, 7, 2, 3, 4, 5, 6, 8, 9], [], by kernel_rfl, by simp, ?_⟩
  refine ⟨_, LeL.refl _, moved_con c 0 _ _ ?_⟩
  intro hz1 hz2; clear hz1 hz2
  refine ⟨_, LeL.refl _, hm _ _ ?_⟩
  intro hz1 hz2; clear hz1 hz2
  exact ⟨_, H, Le.refl _, List.Sublist.refl _, hq⟩
def bLift (t : Tm) (c from_ : Int) : Tm × Bool := if tmRight 4 1125899906842624 t = true ∧ smallB c = true ∧ smallB from_ = true then (tmLift c t from_, true) else (tm0, false)
set_option maxRecDepth 100000 in
theorem bLift_con (t : Tm) (c from_ : Int) : Ans Tryz.prog 15 [tmX t, .i c, .i from_] (.tup [tmX (bLift t c from_).1, .b (bLift t c from_).2]) := by
  intro H Q hq
  have no : ¬(tmRight 4 1125899906842624 t = true ∧ smallB c = true ∧ smallB from_ = true) → ∃ r H', Le (.tup [.agg [.i 0, .i 0, .str [], .sl .full 0 [], .sl .full 0 []], .b false]) r ∧ List.Sublist H' H ∧ Q r H' := fun h => by
    unfold bLift at hq
    rw [if_neg h] at hq
    exact ⟨.tup [tmX tm0, .b false], H, Le.tup ⟨le_tm0, Le.refl _, trivial⟩, List.Sublist.refl _, hq⟩
  refine con_of_awp (esc := fun _ => false) tab_ok mixed Tryz.func15 rfl (ent Tryz.func15 (by kernel_rfl) rfl) (by kernel_rfl) ?_
  intro hw hn
  clear hw hn
  by_cases h1 : tmRight 4 1125899906842624 t = true
  rotate_left
  · refine ⟨_, LeL.refl _, (bright_con t).no h1 _ _ ?_⟩
    intro hz1 hz2; clear hz1 hz2
    exact no fun h => h1 h.1
  refine ⟨_, LeL.refl _, (bright_con t).yes h1 _ _ ?_⟩
  intro hz1 hz2; clear hz1 hz2
  by_cases h2 : smallB c = true
  rotate_left
  · refine ⟨_, LeL.refl _, (bsmall_con c).no h2 _ _ ?_⟩
    intro hz1 hz2; clear hz1 hz2
    exact no fun h => h2 h.2.1
  refine ⟨_, LeL.refl _, (bsmall_con c).yes h2 _ _ ?_⟩
  intro hz1 hz2; clear hz1 hz2
  by_cases h3 : smallB from_ = true
  rotate_left
  · refine ⟨_, LeL.refl _, (bsmall_con from_).no h3 _ _ ?_⟩
    intro hz1 hz2; clear hz1 hz2
    exact no fun h => h3 h.2.2
  refine ⟨_, LeL.refl _, (bsmall_con from_).yes h3 _ _ ?_⟩
  intro hz1 hz2; clear hz1 hz2
  unfold bLift at hq
  rw [if_pos ⟨h1, h2, h3⟩] at hq
  unfold smallB at h2 h3
  simp only [Bool.and_eq_true, decide_eq_true_eq] at h2 h3
  obtain ⟨hn1, hfit⟩ := right_fit h1
  have hm := bmade_ans (moved1_con h2.1 (by omega) h3.1 (by omega)) movedF_nodes t h1
  rw [bld_moved (c := c) (from_ := from_) t 0 _ hfit, Int.add_zero] at hm
  unfold madeB at hm
  rw [if_pos (by rw [tmLift_nodes]; exact hn1)] at hm
  refine ⟨[0, 1, 2, 3, 4, 5, 6, 7, 8], [], by kernel_rfl, by simp, ?_⟩
  refine ⟨_, LeL.refl _, moved_con c from_ _ _ ?_⟩
  intro hz1 hz2; clear hz1 hz2
  refine ⟨_, LeL.refl _, hm _ _ ?_⟩
  intro hz1 hz2; clear hz1 hz2
  exact ⟨_, H, Le.refl _, List.Sublist.refl _, hq⟩
end Go.Proofs.YtjmmacbblnjogaaGreatDoor

/-
  bind: Inst, Replace. No condition.
-/
namespace Go.Proofs.YtjmmacbblnjogaaGreatDoor
open Go.RowKit

theorem tmFit_nvar {p v : Int} {t : Tm} (h : tmFit p t v = true) (hk : t.kind ≠ 1) : t.n = 0 := by
  rw [tmFit_eq, Bool.and_eq_true, Bool.and_eq_true] at h
  have h1 := h.1.1
  unfold tmNode at h1
  rw [if_neg hk] at h1
  repeat' split at h1
  all_goals first
    | (simp only [Bool.and_eq_true, decide_eq_true_eq] at h1; first | exact h1.1.1.1 | exact h1.1.1.1.1 | exact h1.1.1 | exact h1.1)
    | cases h1
theorem instF_nodes {args : List Tm} (ha : ∀ a ∈ args, tmRight 4 1125899906842624 a = true) (t : Tm) (d : Int) (x : Tm) (h : instF args t d = some x) : x.nodes ≤ 2000 := by
  unfold instF at h
  split at h
  · split at h
    · cases h; simp [Tm.nodes, Tm.nodesL, Lv.nodesL]
    · cases h
      rw [tmLift_nodes]
      by_cases hk : args.length - 1 - (t.n - d).toNat < args.length
      · rw [List.getD_eq_getElem?_getD, List.getElem?_eq_getElem hk]
        exact (right_fit (ha _ (List.getElem_mem hk))).1
      · rw [List.getD_eq_getElem?_getD, List.getElem?_eq_none (by omega)]
        simp [tm0, Tm.nodes, Tm.nodesL, Lv.nodesL]
  · cases h
set_option maxRecDepth 100000 in
set_option maxHeartbeats 1000000 in
theorem inst1_con {args : List Tm} {o : Own} {b6 b3 : Nat} {H0 : Heap} {n6 : Int} (ha : ∀ a ∈ args, tmRight 4 1125899906842624 a = true) (hl : args.length ≤ 1048576) (hn6 : n6 = args.length) (h6 : (b6, .cells [.i n6]) ∈ H0) (h3 : (b3, .cells [.sl o 5 (args.map tmA)]) ∈ H0) :
    LeafS (fun _ => True) 50 [.ptr b6 0, .ptr b3 0] (instF args) (fun (s : Unit) _ _ => s) (fun _ => H0) := by
  intro t d v _ s G Q hfit hv hd0 hd1 hn _ _ hq
  subst hn6
  have m6 : (b6, AObj.cells [.i args.length]) ∈ G ++ H0 := List.mem_append.2 (Or.inr h6)
  have m3 : (b3, AObj.cells [.sl o 5 (args.map tmA)]) ∈ G ++ H0 := List.mem_append.2 (Or.inr h3)
  clear h6 h3
  generalize G ++ H0 = H at *
  obtain ⟨fx, hfx⟩ : ∃ fx, instF args t d = fx := ⟨_, rfl⟩
  rw [hfx] at hq
  unfold instF at hfx
  have no : ¬(t.kind = 1 ∧ d ≤ t.n) → ∃ r H', Le (.tup [.agg [.i 0, .i 0, .str [], .sl .full 0 [], .sl .full 0 []], .b false]) r ∧ List.Sublist H' H ∧ Q r H' := fun h => by
    rw [if_neg h] at hfx
    subst hfx
    exact ⟨.tup [tmX tm0, .b false], H, Le.tup ⟨le_tm0, Le.refl _, trivial⟩, List.Sublist.refl _, hq⟩
  have hin : in64 (t.n - d) := by
    by_cases hk : t.kind = 1
    · have := tmFit_var hfit hk
      exact in64_of (by omega) (by omega)
    · have := tmFit_nvar hfit hk
      exact in64_of (by omega) (by omega)
  refine con_of_awp (esc := fun _ => false) tab_ok mixed Tryz.func50 rfl (ent Tryz.func50 (by kernel_rfl) rfl) (by kernel_rfl) ?_
  intro hw hnn
  clear hw hnn
  refine ⟨hin, ?_⟩
  refine ifB_dec (fun k1 => ?_) (fun k1 => ?_)
  · have hvn := tmFit_var hfit k1
    refine ifB_dec (fun k2 => ?_) (fun k2 => ?_)
    · exact no fun h => by omega
    · rw [if_pos ⟨k1, by omega⟩] at hfx
      refine ⟨_, m6, ?_⟩
      refine ifB_dec (fun k3 => ?_) (fun k3 => ?_)
      · rw [if_pos (by omega)] at hfx
        subst hfx
        refine ⟨_, m6, ?_⟩
        refine ⟨in64_of (by first | omega | (dsimp only; omega)) (by first | omega | (dsimp only; omega)), ?_⟩
        refine ⟨_, LeL.refl _, Var_con _ _ _ ?_⟩
        intro hz1 hz2; clear hz1 hz2
        exact ⟨_, H, Le.refl _, List.Sublist.refl _, hq⟩
      · rw [if_neg (by omega)] at hfx
        subst hfx
        have hk : args.length - 1 - (t.n - d).toNat < args.length := by omega
        rw [List.getD_eq_getElem?_getD, List.getElem?_eq_getElem hk] at hq
        refine ⟨_, m3, _, m6, ?_⟩
        refine ⟨in64_of (by first | omega | (dsimp only; omega)) (by first | omega | (dsimp only; omega)), ?_⟩
        refine ⟨in64_of (by first | omega | (dsimp only; omega)) (by first | omega | (dsimp only; omega)), ?_⟩
        refine ⟨args.length - 1 - (t.n - d).toNat, by omega, _, tmAt' hk, ?_⟩
        refine ⟨_, LeL.refl _, raised_con (ha _ (List.getElem_mem hk)) hd0 (by omega) _ _ ?_⟩
        intro hz1 hz2; clear hz1 hz2
        exact ⟨_, H, Le.refl _, List.Sublist.refl _, hq⟩
  · exact no fun h => k1 h.1
def bInst (t : Tm) (args : List Tm) : Tm × Bool := if tmRight 4 1125899906842624 t = true ∧ args.length ≤ 1048576 ∧ args.all (tmRight 4 1125899906842624) = true then madeB (bld (instF args) t 0) else (tm0, false)
set_option maxRecDepth 100000 in
set_option maxHeartbeats 1000000 in
theorem bInst_con (o : Own) (t : Tm) (args : List Tm) : Ans Tryz.prog 16 [tmX t, .sl o 5 (args.map tmA)] (.tup [tmX (bInst t args).1, .b (bInst t args).2]) := by
  intro H Q hq
  have hlen : (args.map tmA).length = args.length := List.length_map _
  have no : ¬(tmRight 4 1125899906842624 t = true ∧ args.length ≤ 1048576 ∧ args.all (tmRight 4 1125899906842624) = true) → ∀ b, ∃ r H', Le (.tup [.agg [.i 0, .i 0, .str [], .sl .full 0 [], .sl .full 0 []], .b false]) r ∧ List.Sublist H' ((b, .cells [.sl o 5 (args.map tmA)]) :: H) ∧ Q r H' := fun h b => by
    unfold bInst at hq
    rw [if_neg h] at hq
    exact ⟨.tup [tmX tm0, .b false], H, Le.tup ⟨le_tm0, Le.refl _, trivial⟩, List.sublist_cons_self _ _, hq⟩
  refine con_of_awp (esc := ([3,6].contains ·)) tab_ok mixed Tryz.func16 rfl (ent Tryz.func16 (by kernel_rfl) rfl) (by kernel_rfl) ?_
  intro hw hn b3 hb3
  clear hw hn
  by_cases h1 : tmRight 4 1125899906842624 t = true
  rotate_left
  · refine ⟨_, LeL.refl _, (bright_con t).no h1 _ _ ?_⟩
    intro hz1 hz2; clear hz1 hz2
    exact no (fun h => h1 h.1) _
  refine ⟨_, LeL.refl _, (bright_con t).yes h1 _ _ ?_⟩
  intro hz1 hz2; clear hz1 hz2
  refine ⟨_, List.mem_cons_self, ?_⟩
  refine ifB_dec (fun h2 => ?_) (fun h2 => ?_)
  · exact no (fun h => by have := h.2.1; omega) _
  have h2' : args.length ≤ 1048576 := by omega
  refine ⟨_, List.mem_cons_self, ?_⟩
  refine ⟨[.sl .no 5 (args.map tmA), .fn (.func 49) []], ⟨Le.own _ _ _, Le.refl _, trivial⟩, anyTm (p := fun t => !tmRight 4 1125899906842624 t) args _ (fun t _ Q hQ => bwrong_con t _ Q hQ) _ ?_⟩
  intro hz1 hz2; clear hz1 hz2
  obtain ⟨q3, h3⟩ : ∃ q, args.all (tmRight 4 1125899906842624) = q := ⟨_, rfl⟩
  have h3' : (args.any fun t => !tmRight 4 1125899906842624 t) = !q3 := by rw [← h3, List.not_all_eq_any_not]
  rw [h3']
  cases q3 with
  | false => exact no (fun h => by rw [h3] at h; exact absurd h.2.2 (by decide)) _
  | true =>
    have hall : ∀ t ∈ args, tmRight 4 1125899906842624 t = true := fun t ht => List.all_eq_true.1 h3 t ht
    unfold bInst at hq
    rw [if_pos ⟨h1, h2', h3⟩] at hq
    refine ⟨_, List.mem_cons_self, ?_⟩
    intro b6 hb6
    refine ⟨_, _, .here, Nat.le_refl _, ?_⟩
    have hm := bmade_con (fun _ _ _ _ _ _ _ => trivial) ((inst1_con (o := o) (b6 := b6) (b3 := b3) (H0 := (b6, .cells [.i (args.map tmA).length]) :: (b3, .cells [.sl o 5 (args.map tmA)]) :: H) hall h2' (by rw [hlen]) List.mem_cons_self (List.mem_cons_of_mem _ List.mem_cons_self))) t h1 () trivial 
    rw [madeX_eq (instF_nodes hall) h1] at hm
    refine ⟨_, LeL.refl _, hm _ ?_⟩
    intro hz1 hz2; clear hz1 hz2
    exact ⟨_, H, Le.refl _, (List.sublist_cons_self _ _).trans (List.sublist_cons_self _ _), hq⟩
end Go.Proofs.YtjmmacbblnjogaaGreatDoor

/-
  slices.Index, Contains over texts; bind: Replace, Abstract. No condition.
-/
namespace Go.Proofs.YtjmmacbblnjogaaGreatDoor
open Go.RowKit

theorem stAtI_hit {ss : List (List UInt8)} {s : List UInt8} {j : Nat} (h : j < ss.length) (he : ss[j] = s) (hn : s ∉ ss.take j) : stAtI ss s = j := by
  unfold stAtI
  have : ss.findIdx? (fun x => decide (x = s)) = some j := by
    rw [List.findIdx?_eq_some_iff_getElem]
    refine ⟨h, by simp [he], fun i hi => ?_⟩
    simp only [decide_eq_true_eq]
    intro e
    exact hn (List.mem_take_iff_getElem.2 ⟨i, by omega, e⟩)
  rw [this]
theorem stAtI_miss {ss : List (List UInt8)} {s : List UInt8} (hn : s ∉ ss) : stAtI ss s = -1 := by
  unfold stAtI
  have : ss.findIdx? (fun x => decide (x = s)) = none := by
    rw [List.findIdx?_eq_none_iff]
    intro x hx
    simp only [decide_eq_false_iff_not]
    rintro rfl
    exact hn hx
  rw [this]
set_option maxRecDepth 100000 in
theorem IndexS_con (o : Own) (ss : List (List UInt8)) (s : List UInt8) : Ans Tryz.prog 56 [.sl o 1 (ss.map .str), .str s] (.i (stAtI ss s)) := by
  intro H Q hq
  have hlen : (ss.map AV.str).length = ss.length := List.length_map _
  refine con_of_awp (esc := fun _ => false) tab_ok mixed Tryz.func56 rfl (ent Tryz.func56 (by kernel_rfl) rfl) (by kernel_rfl) ?_
  intro hw hn
  have hmax : ss.length ≤ 9223372036854775807 := by
    have := Wf.len (hw (.sl o 1 (ss.map .str)) (by simp))
    simpa using this
  clear hw hn
  refine ⟨Nat, fun j => ⟨[(0, .g (.sl o 1 (ss.map .str))), (1, .g (.str s)), (4, .g (.i 0)), (7, .g (.i ss.length)), (8, .g (.i j))], [], H⟩, fun j => j ≤ ss.length ∧ s ∉ ss.take j, fun j => ss.length - j, ⟨0, ⟨Nat.zero_le _, by simp⟩, ?_⟩, ?_⟩
  · (constructor <;> repeat' (first | exact trivial | exact ⟨rfl, rfl⟩ | exact ⟨rfl, LeL.refl _⟩ | exact Le.refl _ | exact List.Sublist.refl _ | (show Le (AV.i _) (AV.i _); rw [List.length_map]; exact Le.refl _) | refine And.intro ?_ ?_))
  · rintro j ⟨hj, hnot⟩
    refine ifB_dec (fun h1 => ?_) (fun h1 => ?_)
    · have hlt : j < ss.length := by omega
      refine ⟨j, rfl, .str ss[j], by simp [hlt], ?_⟩
      refine ifB_dec (fun h2 => ?_) (fun h2 => ?_)
      · exact ⟨_, H, ret_i (stAtI_hit hlt h2.symm hnot).symm, List.Sublist.refl _, hq⟩
      · refine ⟨in64_of (by first | omega | (dsimp only; omega)) (by first | omega | (dsimp only; omega)), ?_⟩
        refine ⟨j + 1, ⟨by omega, ?_⟩, by (try dsimp only); omega, ?_⟩
        · rw [List.take_succ_eq_append_getElem hlt]
          intro hm
          rcases List.mem_append.1 hm with hm | hm
          · exact hnot hm
          · exact h2 (List.mem_singleton.1 hm)
        · (constructor <;> repeat' (first | exact trivial | exact ⟨rfl, rfl⟩ | exact ⟨rfl, LeL.refl _⟩ | exact Le.refl _ | exact List.Sublist.refl _ | (show Le (AV.i _) (AV.i _); rw [List.length_map]; exact Le.refl _) | refine And.intro ?_ ?_))
    · have hj' : ss.length = j := by omega
      subst hj'
      rw [List.take_length] at hnot
      exact ⟨_, H, ret_i (stAtI_miss hnot).symm, List.Sublist.refl _, hq⟩
theorem stAtI_mem {ss : List (List UInt8)} {s : List UInt8} : decide (0 ≤ stAtI ss s) = decide (s ∈ ss) := by
  by_cases h : 0 ≤ stAtI ss s
  · obtain ⟨i, _, hi, he⟩ := stAtI_spec h
    rw [decide_eq_true h, decide_eq_true (he ▸ List.getElem_mem hi)]
  · rw [decide_eq_false h, decide_eq_false (stAtI_none h)]
set_option maxRecDepth 100000 in
theorem ContainsS_con (o : Own) (ss : List (List UInt8)) (s : List UInt8) : Ans Tryz.prog 57 [.sl o 1 (ss.map .str), .str s] (.b (decide (s ∈ ss))) := by
  intro H Q hq
  rw [← stAtI_mem] at hq
  refine con_of_awp (esc := fun _ => false) tab_ok mixed Tryz.func57 rfl (ent Tryz.func57 (by kernel_rfl) rfl) (by kernel_rfl) ?_
  intro hw hn
  refine ⟨_, LeL.refl _, IndexS_con o ss s _ _ ?_⟩
  intro hz1 hz2; clear hz1 hz2
  refine ifB_dec (fun h1 => ?_) (fun h1 => ?_)
  · exact ⟨_, H, ret_b (by rw [decide_eq_true h1]), List.Sublist.refl _, hq⟩
  · exact ⟨_, H, ret_b (by rw [decide_eq_false h1]), List.Sublist.refl _, hq⟩

theorem replF_nodes {nm : List UInt8} {u : Tm} (hu : u.nodes ≤ 2000) (t : Tm) (d : Int) (x : Tm) (h : replF nm u t d = some x) : x.nodes ≤ 2000 := by
  unfold replF at h
  split at h
  · cases h; rw [tmLift_nodes]; exact hu
  · cases h
set_option maxRecDepth 100000 in
set_option maxHeartbeats 1000000 in
theorem repl1_con {nm : List UInt8} {u : Tm} {b4 b5 : Nat} {H0 : Heap} (hu : tmRight 4 1125899906842624 u = true) (h4 : (b4, .cells [.str nm]) ∈ H0) (h5 : (b5, .cells (tmX u).cells) ∈ H0) :
    LeafS (fun _ => True) 61 [.ptr b4 0, .ptr b5 0] (replF nm u) (fun (s : Unit) _ _ => s) (fun _ => H0) := by
  intro t d v _ s G Q hfit hv hd0 hd1 hn _ _ hq
  have m4 : (b4, AObj.cells [.str nm]) ∈ G ++ H0 := List.mem_append.2 (Or.inr h4)
  have m5 : (b5, AObj.cells (tmX u).cells) ∈ G ++ H0 := List.mem_append.2 (Or.inr h5)
  clear h4 h5
  generalize G ++ H0 = H at *
  obtain ⟨fx, hfx⟩ : ∃ fx, replF nm u t d = fx := ⟨_, rfl⟩
  rw [hfx] at hq
  unfold replF at hfx
  have no : ¬(t.kind = 3 ∧ t.name = nm) → ∃ r H', Le (.tup [.agg [.i 0, .i 0, .str [], .sl .full 0 [], .sl .full 0 []], .b false]) r ∧ List.Sublist H' H ∧ Q r H' := fun h => by
    rw [if_neg h] at hfx
    subst hfx
    exact ⟨.tup [tmX tm0, .b false], H, Le.tup ⟨le_tm0, Le.refl _, trivial⟩, List.Sublist.refl _, hq⟩
  refine con_of_awp (esc := fun _ => false) tab_ok mixed Tryz.func61 rfl (ent Tryz.func61 (by kernel_rfl) rfl) (by kernel_rfl) ?_
  intro hw hnn
  clear hw hnn
  refine ifB_dec (fun k1 => ?_) (fun k1 => ?_)
  · refine ⟨_, m4, ?_⟩
    refine ifB_dec (fun k2 => ?_) (fun k2 => ?_)
    · rw [if_pos ⟨k1, k2⟩] at hfx
      subst hfx
      refine ⟨_, m5, ?_⟩
      refine ⟨_, LeL.refl _, raised_con hu hd0 (by omega) _ _ ?_⟩
      intro hz1 hz2; clear hz1 hz2
      exact ⟨_, H, Le.refl _, List.Sublist.refl _, hq⟩
    · exact no fun h => k2 h.2
  · exact no fun h => k1 h.1
def bRepl (t : Tm) (nm : List UInt8) (u : Tm) : Tm × Bool := if tmRight 4 1125899906842624 t = true ∧ tmRight 4 1125899906842624 u = true then madeB (bld (replF nm u) t 0) else (tm0, false)
set_option maxRecDepth 100000 in
set_option maxHeartbeats 1000000 in
theorem bRepl_con (t : Tm) (nm : List UInt8) (u : Tm) : Ans Tryz.prog 28 [tmX t, .str nm, tmX u] (.tup [tmX (bRepl t nm u).1, .b (bRepl t nm u).2]) := by
  intro H Q hq
  have no : ¬(tmRight 4 1125899906842624 t = true ∧ tmRight 4 1125899906842624 u = true) → ∀ x y, ∃ r H', Le (.tup [.agg [.i 0, .i 0, .str [], .sl .full 0 [], .sl .full 0 []], .b false]) r ∧ List.Sublist H' (x :: y :: H) ∧ Q r H' := fun h x y => by
    unfold bRepl at hq
    rw [if_neg h] at hq
    exact ⟨.tup [tmX tm0, .b false], H, Le.tup ⟨le_tm0, Le.refl _, trivial⟩, (List.sublist_cons_self _ _).trans (List.sublist_cons_self _ _), hq⟩
  refine con_of_awp (esc := ([4,5].contains ·)) tab_ok mixed Tryz.func28 rfl (ent Tryz.func28 (by kernel_rfl) rfl) (by kernel_rfl) ?_
  intro hw hn b4 hb4 b5 hb5
  clear hw hn
  by_cases h1 : tmRight 4 1125899906842624 t = true
  rotate_left
  · refine ⟨_, LeL.refl _, (bright_con t).no h1 _ _ ?_⟩
    intro hz1 hz2; clear hz1 hz2
    exact no (fun h => h1 h.1) _ _
  refine ⟨_, LeL.refl _, (bright_con t).yes h1 _ _ ?_⟩
  intro hz1 hz2; clear hz1 hz2
  refine ⟨_, List.mem_cons_self, ?_⟩
  by_cases h2 : tmRight 4 1125899906842624 u = true
  rotate_left
  · refine ⟨_, LeL.refl _, (bright_con u).no h2 _ _ ?_⟩
    intro hz1 hz2; clear hz1 hz2
    exact no (fun h => h2 h.2) _ _
  refine ⟨_, LeL.refl _, (bright_con u).yes h2 _ _ ?_⟩
  intro hz1 hz2; clear hz1 hz2
  unfold bRepl at hq
  rw [if_pos ⟨h1, h2⟩] at hq
  have hm := bmade_con (fun _ _ _ _ _ _ _ => trivial) ((repl1_con (nm := nm) (b4 := b4) (b5 := b5) (H0 := (b5, .cells (tmX u).cells) :: (b4, .cells [.str nm]) :: H) h2 (List.mem_cons_of_mem _ List.mem_cons_self) List.mem_cons_self)) t h1 () trivial
  rw [madeX_eq (replF_nodes (right_fit h2).1) h1] at hm
  refine ⟨_, LeL.refl _, hm _ ?_⟩
  intro hz1 hz2; clear hz1 hz2
  exact ⟨_, H, Le.refl _, (List.sublist_cons_self _ _).trans (List.sublist_cons_self _ _), hq⟩

theorem absF_nodes {nms : List (List UInt8)} (t : Tm) (d : Int) (x : Tm) (h : absF nms t d = some x) : x.nodes ≤ 2000 := by
  unfold absF at h
  split at h
  · cases h; simp [Tm.nodes, Tm.nodesL, Lv.nodesL]
  · exact movedF_nodes t d x h
set_option maxRecDepth 100000 in
set_option maxHeartbeats 1000000 in
theorem abs1_con {nms : List (List UInt8)} {o : Own} {b3 b6 b7 : Nat} {H0 : Heap} {n6 : Int} (hl : nms.length ≤ 1048576) (hn6 : n6 = nms.length) (h3 : (b3, .cells [.sl o 1 (nms.map .str)]) ∈ H0) (h6 : (b6, .cells [.i n6]) ∈ H0) (h7 : (b7, .cells [.fn (.func 76) [.ip [.i 0], .ip [.i n6]]]) ∈ H0) :
    LeafS (fun _ => True) 55 [.ptr b3 0, .ptr b6 0, .ptr b7 0] (absF nms) (fun (s : Unit) _ _ => s) (fun _ => H0) := by
  intro t d v _ s G Q hfit hv hd0 hd1 hn _ _ hq
  subst hn6
  have m3 : (b3, AObj.cells [.sl o 1 (nms.map .str)]) ∈ G ++ H0 := List.mem_append.2 (Or.inr h3)
  have m6 : (b6, AObj.cells [.i nms.length]) ∈ G ++ H0 := List.mem_append.2 (Or.inr h6)
  have m7 : (b7, AObj.cells [.fn (.func 76) [.ip [.i 0], .ip [.i nms.length]]]) ∈ G ++ H0 := List.mem_append.2 (Or.inr h7)
  clear h3 h6 h7
  generalize G ++ H0 = H at *
  obtain ⟨fx, hfx⟩ : ∃ fx, absF nms t d = fx := ⟨_, rfl⟩
  rw [hfx] at hq
  unfold absF at hfx
  have hat := stAtI_lt nms t.name
  have hmv := moved1_con (c := nms.length) (from_ := 0) (by omega) (by omega) (by decide) (by decide) t d v hfit hv hd0 hd1 hn H
  have other : ¬(t.kind = 3 ∧ 0 ≤ stAtI nms t.name) → ∀ Q', Q' (leafX fx) H → Con Tryz.prog 76 ([tmX t, .i d] ++ [.ip [.i 0], .ip [.i nms.length]]) H Q' := fun h Q' h' => by
    rw [if_neg h] at hfx
    rw [hfx] at hmv
    exact hmv Q' h'
  refine con_of_awp (esc := fun _ => false) tab_ok mixed Tryz.func55 rfl (ent Tryz.func55 (by kernel_rfl) rfl) (by kernel_rfl) ?_
  intro hw hnn
  clear hw hnn
  refine ⟨_, m3, ?_⟩
  refine ⟨_, LeL.refl _, IndexS_con o nms t.name _ _ ?_⟩
  intro hz1 hz2; clear hz1 hz2
  refine ifB_dec (fun k1 => ?_) (fun k1 => ?_)
  · refine ifB_dec (fun k2 => ?_) (fun k2 => ?_)
    · rw [if_pos ⟨k1, k2⟩] at hfx
      subst hfx
      refine ⟨_, m6, ?_⟩
      refine ⟨in64_of (by first | omega | (dsimp only; omega)) (by first | omega | (dsimp only; omega)), ?_⟩
      refine ⟨in64_of (by first | omega | (dsimp only; omega)) (by first | omega | (dsimp only; omega)), ?_⟩
      refine ⟨in64_of (by first | omega | (dsimp only; omega)) (by first | omega | (dsimp only; omega)), ?_⟩
      refine ⟨_, LeL.refl _, Var_con _ _ _ ?_⟩
      intro hz1 hz2; clear hz1 hz2
      exact ⟨_, H, Le.refl _, List.Sublist.refl _, hq⟩
    · refine ⟨_, m7, ?_⟩
      refine ⟨_, LeL.refl _, other (fun h => k2 h.2) _ ?_⟩
      intro hz1 hz2; clear hz1 hz2
      cases fx with
      | some x => exact ⟨_, H, Le.refl _, List.Sublist.refl _, hq⟩
      | none => exact ⟨_, H, Le.refl _, List.Sublist.refl _, hq⟩
  · refine ⟨_, m7, ?_⟩
    refine ⟨_, LeL.refl _, other (fun h => k1 h.1) _ ?_⟩
    intro hz1 hz2; clear hz1 hz2
    cases fx with
    | some x => exact ⟨_, H, Le.refl _, List.Sublist.refl _, hq⟩
    | none => exact ⟨_, H, Le.refl _, List.Sublist.refl _, hq⟩
def bAbs (t : Tm) (nms : List (List UInt8)) : Tm × Bool := if tmRight 4 1125899906842624 t = true ∧ nms.length ≤ 1048576 then madeB (bld (absF nms) t 0) else (tm0, false)
set_option maxRecDepth 100000 in
set_option maxHeartbeats 1000000 in
theorem bAbs_con (o : Own) (t : Tm) (nms : List (List UInt8)) : Ans Tryz.prog 21 [tmX t, .sl o 1 (nms.map .str)] (.tup [tmX (bAbs t nms).1, .b (bAbs t nms).2]) := by
  intro H Q hq
  have hlen : (nms.map AV.str).length = nms.length := List.length_map _
  have no : ¬(tmRight 4 1125899906842624 t = true ∧ nms.length ≤ 1048576) → ∀ b, ∃ r H', Le (.tup [.agg [.i 0, .i 0, .str [], .sl .full 0 [], .sl .full 0 []], .b false]) r ∧ List.Sublist H' ((b, .cells [.sl o 1 (nms.map .str)]) :: H) ∧ Q r H' := fun h b => by
    unfold bAbs at hq
    rw [if_neg h] at hq
    exact ⟨.tup [tmX tm0, .b false], H, Le.tup ⟨le_tm0, Le.refl _, trivial⟩, List.sublist_cons_self _ _, hq⟩
  refine con_of_awp (esc := ([3,6,7].contains ·)) tab_ok mixed Tryz.func21 rfl (ent Tryz.func21 (by kernel_rfl) rfl) (by kernel_rfl) ?_
  intro hw hn b3 hb3
  clear hw hn
  by_cases h1 : tmRight 4 1125899906842624 t = true
  rotate_left
  · refine ⟨_, LeL.refl _, (bright_con t).no h1 _ _ ?_⟩
    intro hz1 hz2; clear hz1 hz2
    exact no (fun h => h1 h.1) _
  refine ⟨_, LeL.refl _, (bright_con t).yes h1 _ _ ?_⟩
  intro hz1 hz2; clear hz1 hz2
  refine ⟨_, List.mem_cons_self, ?_⟩
  refine ifB_dec (fun h2 => ?_) (fun h2 => ?_)
  · exact no (fun h => by have := h.2; omega) _
  have h2' : nms.length ≤ 1048576 := by omega
  unfold bAbs at hq
  rw [if_pos ⟨h1, h2'⟩] at hq
  refine ⟨_, List.mem_cons_self, ?_⟩
  intro b6 hb6
  refine ⟨_, _, .here, Nat.le_refl _, ?_⟩
  refine ⟨_, List.mem_cons_self, ?_⟩
  refine ⟨_, LeL.refl _, moved_con _ 0 _ _ ?_⟩
  intro hz1 hz2; clear hz1 hz2
  intro b7 hb7
  refine ⟨_, _, .here, Nat.le_refl _, ?_⟩
  have hm := bmade_con (fun _ _ _ _ _ _ _ => trivial) ((abs1_con (nms := nms) (o := o) (b3 := b3) (b6 := b6) (b7 := b7) (n6 := (nms.map AV.str).length) (H0 := (b7, .cells [.fn (.func 76) [.ip [.i 0], .ip [.i (nms.map AV.str).length]]]) :: (b6, .cells [.i (nms.map AV.str).length]) :: (b3, .cells [.sl o 1 (nms.map .str)]) :: H) h2' (by rw [hlen]) (List.mem_cons_of_mem _ (List.mem_cons_of_mem _ List.mem_cons_self)) (List.mem_cons_of_mem _ List.mem_cons_self) List.mem_cons_self)) t h1 () trivial
  rw [madeX_eq absF_nodes h1] at hm
  refine ⟨_, LeL.refl _, hm _ ?_⟩
  intro hz1 hz2; clear hz1 hz2
  exact ⟨_, H, Le.refl _, ((List.sublist_cons_self _ _).trans (List.sublist_cons_self _ _)).trans (List.sublist_cons_self _ _), hq⟩
end Go.Proofs.YtjmmacbblnjogaaGreatDoor
