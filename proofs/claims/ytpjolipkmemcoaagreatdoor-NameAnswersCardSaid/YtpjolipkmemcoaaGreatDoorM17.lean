/-
  Texts put together: T1, T2, T3, T4. No condition.
-/
import Derived.Test.YtpjolipkmemcoaaGreatDoorM16
/-
  Terms with others in the place of leaves, in plain words (bind). No condition.
-/
namespace Go.Proofs.YtpjolipkmemcoaaGreatDoor
open Go.RowKit

/-- what stands in the place of a leaf in deep binders -/
abbrev Leaf := Tm → Int → Option Tm
mutual
/-- a term made anew -/
def bld (f : Leaf) : Tm → Int → Tm
  | .mk k n nm ls xs, d => match f (.mk k n nm ls xs) d with
    | some x => x
    | none => .mk k n nm ls (bldL f k xs 0 d)
def bldL (f : Leaf) (k : Int) : List Tm → Nat → Int → List Tm
  | [], _, _ => []
  | t :: ts, i, d => bld f t (if tmBind k i = true then d + 1 else d) :: bldL f k ts (i + 1) d
end
theorem bld_eq (f : Leaf) (t : Tm) (d : Int) : bld f t d = match f t d with
    | some x => x
    | none => .mk t.kind t.n t.name t.levels (bldL f t.kind t.args 0 d) := by cases t; rw [bld]; rfl
theorem bldL_len (f : Leaf) (k : Int) : ∀ (ts : List Tm) (i : Nat) (d : Int), (bldL f k ts i d).length = ts.length
  | [], _, _ => rfl
  | t :: ts, i, d => by rw [bldL, List.length_cons, List.length_cons, bldL_len f k ts]
theorem bldL_get (f : Leaf) (k : Int) : ∀ (ts : List Tm) (i : Nat) (d : Int) (j : Nat) (h : j < ts.length), (bldL f k ts i d)[j]'(by rw [bldL_len]; exact h) = bld f ts[j] (if tmBind k (i + j) = true then d + 1 else d)
  | t :: ts, i, d, 0, _ => by simp [bldL]
  | t :: ts, i, d, j + 1, h => by
    have := bldL_get f k ts (i + 1) d j (by simpa using h)
    simp only [bldL, List.getElem_cons_succ]
    rw [this, show i + 1 + j = i + (j + 1) by omega]
theorem bldL_take {f : Leaf} {k : Int} {ts : List Tm} {d : Int} {j : Nat} (h : j < ts.length) : (bldL f k ts 0 d).take (j + 1) = (bldL f k ts 0 d).take j ++ [bld f ts[j] (if tmBind k j = true then d + 1 else d)] := by
  rw [List.take_succ_eq_append_getElem (by rw [bldL_len]; exact h), bldL_get f k ts 0 d j h, Nat.zero_add]

/-! the leaves -/
def movedF (c from_ : Int) : Leaf := fun t d => if t.kind = 1 ∧ from_ + d ≤ t.n then some (.mk 1 (t.n + c) [] [] []) else none
def instF (args : List Tm) : Leaf := fun t d => if t.kind = 1 ∧ d ≤ t.n then (if (args.length : Int) ≤ t.n - d then some (.mk 1 (t.n - args.length) [] [] []) else some (tmLift d (args.getD (args.length - 1 - (t.n - d).toNat) tm0) 0)) else none
def replF (nm : List UInt8) (u : Tm) : Leaf := fun t d => if t.kind = 3 ∧ t.name = nm then some (tmLift d u 0) else none
/-- where a text stands first; -1: nowhere -/
def stAtI (nms : List (List UInt8)) (nm : List UInt8) : Int := match nms.findIdx? (fun x => decide (x = nm)) with
  | some i => i
  | none => -1
def absF (nms : List (List UInt8)) : Leaf := fun t d => if t.kind = 3 ∧ 0 ≤ stAtI nms t.name then some (.mk 1 ((nms.length : Int) - 1 - stAtI nms t.name + d) [] [] []) else movedF nms.length 0 t d

/-! a right term's variables have no more than their number -/
theorem fit_var {p v : Int} {k n : Int} {nm : List UInt8} {ls : List Lv} {xs : List Tm} (h : tmFit p (.mk k n nm ls xs) v = true) (hk : k = 1) : 0 ≤ n ∧ n < v ∧ nm = [] ∧ ls = [] ∧ xs = [] := by
  subst hk
  rw [tmFit, Bool.and_eq_true, Bool.and_eq_true, tmNode_1] at h
  obtain ⟨⟨⟨a, b, c, d, e⟩, _⟩, _⟩ := h
  exact ⟨a, b, c, List.eq_nil_of_length_eq_zero d, List.eq_nil_of_length_eq_zero e⟩
theorem fit_args {p v : Int} {k n : Int} {nm : List UInt8} {ls : List Lv} {xs : List Tm} (h : tmFit p (.mk k n nm ls xs) v = true) : tmFitL p k xs 0 v = true := by
  rw [tmFit, Bool.and_eq_true] at h
  exact h.2
theorem fitL_cons {p k v : Int} {t : Tm} {ts : List Tm} {i : Nat} (h : tmFitL p k (t :: ts) i v = true) : tmFit p t (if tmBind k i = true then v + 1 else v) = true ∧ tmFitL p k ts (i + 1) v = true := by
  rw [tmFitL, Bool.and_eq_true] at h
  exact h
/-- a right term that is no leaf has a kind and parts alone -/
theorem fit_inner {p v : Int} {t : Tm} (h : tmFit p t v = true) (hx : t.args ≠ []) : t.n = 0 ∧ t.name = [] ∧ t.levels = [] := by
  rw [tmFit_eq, Bool.and_eq_true, Bool.and_eq_true] at h
  have h1 := h.1.1
  have hl : t.args.length ≠ 0 := fun e => hx (List.eq_nil_of_length_eq_zero e)
  unfold tmNode at h1
  split at h1
  · simp only [Bool.and_eq_true, decide_eq_true_eq] at h1; exact absurd h1.2 hl
  split at h1
  · simp only [Bool.and_eq_true, decide_eq_true_eq] at h1; exact absurd h1.2 hl
  split at h1
  · simp only [Bool.and_eq_true, decide_eq_true_eq] at h1; exact absurd h1.2 hl
  split at h1
  · simp only [Bool.and_eq_true, decide_eq_true_eq] at h1
    exact ⟨h1.1.1.1, h1.1.1.2, List.eq_nil_of_length_eq_zero h1.1.2⟩
  split at h1
  · simp only [Bool.and_eq_true, decide_eq_true_eq] at h1
    exact ⟨h1.1.1.1, h1.1.1.2, List.eq_nil_of_length_eq_zero h1.1.2⟩
  · cases h1

theorem bld_some {f : Leaf} {k n : Int} {nm : List UInt8} {ls : List Lv} {xs : List Tm} {d : Int} {x : Tm} (h : f (.mk k n nm ls xs) d = some x) : bld f (.mk k n nm ls xs) d = x := by rw [bld, h]
theorem bld_stay {f : Leaf} {k n : Int} {nm : List UInt8} {ls : List Lv} {xs : List Tm} {d : Int} (h : f (.mk k n nm ls xs) d = none) : bld f (.mk k n nm ls xs) d = .mk k n nm ls (bldL f k xs 0 d) := by rw [bld, h]
theorem moved_yes {c f k n : Int} {nm : List UInt8} {ls : List Lv} {xs : List Tm} {d : Int} (h : k = 1 ∧ f + d ≤ n) : movedF c f (.mk k n nm ls xs) d = some (.mk 1 (n + c) [] [] []) := if_pos h
theorem moved_no {c f k n : Int} {nm : List UInt8} {ls : List Lv} {xs : List Tm} {d : Int} (h : ¬(k = 1 ∧ f + d ≤ n)) : movedF c f (.mk k n nm ls xs) d = none := if_neg h
theorem instF_no {args : List Tm} {k n : Int} {nm : List UInt8} {ls : List Lv} {xs : List Tm} {d : Int} (h : ¬(k = 1 ∧ d ≤ n)) : instF args (.mk k n nm ls xs) d = none := if_neg h
theorem instF_out {args : List Tm} {k n : Int} {nm : List UInt8} {ls : List Lv} {xs : List Tm} {d : Int} (h : k = 1 ∧ d ≤ n) (h2 : (args.length : Int) ≤ n - d) : instF args (.mk k n nm ls xs) d = some (.mk 1 (n - args.length) [] [] []) := (if_pos h).trans (if_pos h2)
theorem instF_in {args : List Tm} {k n : Int} {nm : List UInt8} {ls : List Lv} {xs : List Tm} {d : Int} (h : k = 1 ∧ d ≤ n) (h2 : ¬(args.length : Int) ≤ n - d) : instF args (.mk k n nm ls xs) d = some (tmLift d (args.getD (args.length - 1 - (n - d).toNat) tm0) 0) := (if_pos h).trans (if_neg h2)

/-! raised: what moves is lifted -/
mutual
theorem bld_moved {p c from_ : Int} : ∀ (t : Tm) (d v : Int), tmFit p t v = true → bld (movedF c from_) t d = tmLift c t (from_ + d)
  | .mk k n nm ls xs, d, v, h => by
    rw [tmLift]
    by_cases h1 : k = 1 ∧ from_ + d ≤ n
    · obtain ⟨a, b, rfl, rfl, rfl⟩ := fit_var h h1.1
      rw [bld_some (moved_yes h1), if_pos h1, tmLiftL, h1.1]
    · rw [bld_stay (moved_no h1), if_neg h1, bldL_moved k xs 0 d v (fit_args h)]
theorem bldL_moved {p c from_ : Int} (k : Int) : ∀ (ts : List Tm) (i : Nat) (d v : Int), tmFitL p k ts i v = true → bldL (movedF c from_) k ts i d = tmLiftL c k ts i (from_ + d)
  | [], _, _, _, _ => rfl
  | t :: ts, i, d, v, h => by
    obtain ⟨h1, h2⟩ := fitL_cons h
    rw [bldL, tmLiftL, bld_moved t _ _ h1, bldL_moved k ts (i + 1) d v h2]
    by_cases hb : tmBind k i = true
    · rw [if_pos hb, if_pos hb, Int.add_assoc]
    · rw [if_neg hb, if_neg hb]
end
mutual
/-- nothing in the place of any leaf -/
theorem bld_none : ∀ (t : Tm) (d : Int), bld (fun _ _ => none) t d = t
  | .mk k n nm ls xs, d => by
    rw [bld_stay rfl, bldL_none k xs 0 d]
theorem bldL_none (k : Int) : ∀ (ts : List Tm) (i : Nat) (d : Int), bldL (fun _ _ => none) k ts i d = ts
  | [], _, _ => rfl
  | t :: ts, i, d => by rw [bldL, bld_none t, bldL_none k ts (i + 1) d]
end

/-! lifts -/
mutual
theorem lift_lift {c e : Int} (hc : 0 ≤ c) : ∀ (t : Tm) (d : Int), tmLift e (tmLift c t d) d = tmLift (c + e) t d
  | .mk k n nm ls xs, d => by
    rw [tmLift, tmLift, tmLift, liftL_lift hc k xs 0 d]
    congr 1
    by_cases h : k = 1 ∧ d ≤ n
    · rw [if_pos h, if_pos ⟨h.1, by omega⟩, if_pos h]; omega
    · rw [if_neg h, if_neg h]
      rw [if_neg h]
theorem liftL_lift {c e : Int} (hc : 0 ≤ c) (k : Int) : ∀ (ts : List Tm) (i : Nat) (d : Int), tmLiftL e k (tmLiftL c k ts i d) i d = tmLiftL (c + e) k ts i d
  | [], _, _ => rfl
  | t :: ts, i, d => by rw [tmLiftL, tmLiftL, tmLiftL, lift_lift hc t, liftL_lift hc k ts (i + 1) d]
end
mutual
theorem lift_zero : ∀ (t : Tm) (d : Int), tmLift 0 t d = t
  | .mk k n nm ls xs, d => by
    rw [tmLift, liftL_zero k xs 0 d]
    congr 1
    split <;> omega
theorem liftL_zero (k : Int) : ∀ (ts : List Tm) (i : Nat) (d : Int), tmLiftL 0 k ts i d = ts
  | [], _, _ => rfl
  | t :: ts, i, d => by rw [tmLiftL, lift_zero t, liftL_zero k ts (i + 1) d]
end
mutual
/-- how much is needed of what is raised -/
theorem loose_raise {c : Int} (hc : 0 ≤ c) : ∀ (t : Tm) (d : Int), tmLoose (tmLift c t d) d = if tmLoose t d = 0 then 0 else tmLoose t d + c
  | .mk k n nm ls xs, d => by
    rw [tmLift, tmLoose, tmLoose]
    by_cases k1 : k = 1
    · rw [if_pos k1, if_pos k1]
      by_cases hd : d ≤ n
      · rw [if_pos ⟨k1, hd⟩, if_neg (by omega)]; omega
      · rw [if_neg (fun h => hd h.2), if_pos (by omega)]; omega
    · rw [if_neg k1, if_neg k1]
      exact looseL_raise hc k xs 0 d
theorem looseL_raise {c : Int} (hc : 0 ≤ c) (k : Int) : ∀ (ts : List Tm) (i : Nat) (d : Int), tmLooseL k (tmLiftL c k ts i d) i d = if tmLooseL k ts i d = 0 then 0 else tmLooseL k ts i d + c
  | [], _, _ => rfl
  | t :: ts, i, d => by
    have h1 := loose_raise hc t (if tmBind k i = true then d + 1 else d)
    have h2 := tmLoose_nonneg t (if tmBind k i = true then d + 1 else d)
    have h3 := tmLooseL_nonneg k ts (i + 1) d
    rw [tmLiftL, tmLooseL, tmLooseL, looseL_raise hc k ts (i + 1) d]
    obtain ⟨e, he⟩ : ∃ e, (if tmBind k i = true then d + 1 else d) = e := ⟨_, rfl⟩
    rw [he] at h1 h2 ⊢
    rw [h1]
    by_cases a1 : tmLoose t e = 0
    · by_cases a2 : tmLooseL k ts (i + 1) d = 0
      · rw [if_pos a1, if_pos a2, if_pos (by omega)]; omega
      · rw [if_pos a1, if_neg a2, if_neg (by omega)]; omega
    · by_cases a2 : tmLooseL k ts (i + 1) d = 0
      · rw [if_neg a1, if_pos a2, if_neg (by omega)]; omega
      · rw [if_neg a1, if_neg a2, if_neg (by omega)]; omega
end
mutual
/-- is a variable below so many used? -/
def tmLow (c : Int) : Tm → Int → Bool
  | .mk k n _ _ xs, d => decide (k = 1 ∧ d ≤ n ∧ n < c + d) || tmLowL c k xs 0 d
def tmLowL (c k : Int) : List Tm → Nat → Int → Bool
  | [], _, _ => false
  | t :: ts, i, d => tmLow c t (if tmBind k i = true then d + 1 else d) || tmLowL c k ts (i + 1) d
end
mutual
theorem low_lift {c : Int} (hc : 0 ≤ c) : ∀ (t : Tm) (d : Int), tmLow c (tmLift c t d) d = false
  | .mk k n nm ls xs, d => by
    rw [tmLift, tmLow, lowL_lift hc k xs 0 d, Bool.or_false, decide_eq_false_iff_not]
    rintro ⟨h1, h2, h3⟩
    split at h2 <;> split at h3 <;> omega
theorem lowL_lift {c : Int} (hc : 0 ≤ c) (k : Int) : ∀ (ts : List Tm) (i : Nat) (d : Int), tmLowL c k (tmLiftL c k ts i d) i d = false
  | [], _, _ => rfl
  | t :: ts, i, d => by rw [tmLiftL, tmLowL, low_lift hc t, lowL_lift hc k ts (i + 1) d]; rfl
end

/-! terms in the place of variables -/
theorem bld_inst_var {args : List Tm} {n d : Int} : bld (instF args) (.mk 1 n [] [] []) d = if d ≤ n then (if (args.length : Int) ≤ n - d then .mk 1 (n - args.length) [] [] [] else tmLift d (args.getD (args.length - 1 - (n - d).toNat) tm0) 0) else .mk 1 n [] [] [] := by
  by_cases h : d ≤ n
  · rw [if_pos h]
    by_cases h2 : (args.length : Int) ≤ n - d
    · rw [if_pos h2, bld_some (instF_out ⟨rfl, h⟩ h2)]
    · rw [if_neg h2, bld_some (instF_in ⟨rfl, h⟩ h2)]
  · rw [if_neg h, bld_stay (instF_no fun e => h e.2)]
    rfl
theorem bld_inst_other {args : List Tm} {k n : Int} {nm : List UInt8} {ls : List Lv} {xs : List Tm} {d : Int} (h : k ≠ 1) : bld (instF args) (.mk k n nm ls xs) d = .mk k n nm ls (bldL (instF args) k xs 0 d) := bld_stay (instF_no fun e => h e.1)
mutual
/-- what is raised, with terms in the new place, is as it was -/
theorem inst_lift {p : Int} {args : List Tm} : ∀ (t : Tm) (d v : Int), tmFit p t v = true → bld (instF args) (tmLift args.length t d) d = t
  | .mk k n nm ls xs, d, v, h => by
    rw [tmLift]
    by_cases h1 : k = 1
    · obtain ⟨a, b, rfl, rfl, rfl⟩ := fit_var h h1
      subst h1
      rw [tmLiftL]
      by_cases h2 : d ≤ n
      · rw [if_pos ⟨rfl, h2⟩, bld_inst_var, if_pos (by omega), if_pos (by omega)]
        congr 1
        omega
      · rw [if_neg (fun e => h2 e.2), bld_inst_var, if_neg h2]
    · rw [bld_inst_other h1, if_neg (fun e => h1 e.1), instL_lift k xs 0 d v (fit_args h)]
theorem instL_lift {p : Int} {args : List Tm} (k : Int) : ∀ (ts : List Tm) (i : Nat) (d v : Int), tmFitL p k ts i v = true → bldL (instF args) k (tmLiftL args.length k ts i d) i d = ts
  | [], _, _, _, _ => rfl
  | t :: ts, i, d, v, h => by
    obtain ⟨h1, h2⟩ := fitL_cons h
    rw [tmLiftL, bldL, inst_lift t _ _ h1, instL_lift k ts (i + 1) d v h2]
end
mutual
theorem inst_under {p : Int} {a : Tm} {c : Int} (hc : 0 ≤ c) : ∀ (t : Tm) (e v : Int), tmFit p t v = true → bld (instF [a]) (tmLift (1 + c) t e) (c + e) = tmLift c t e
  | .mk k n nm ls xs, e, v, h => by
    rw [tmLift, tmLift]
    by_cases h1 : k = 1
    · obtain ⟨x, y, rfl, rfl, rfl⟩ := fit_var h h1
      subst h1
      rw [tmLiftL, tmLiftL]
      by_cases h2 : e ≤ n
      · rw [if_pos ⟨rfl, h2⟩, if_pos ⟨rfl, h2⟩, bld_inst_var, if_pos (by omega), if_pos (by simp only [List.length_cons, List.length_nil]; omega)]
        congr 1
        simp only [List.length_cons, List.length_nil]
        omega
      · rw [if_neg (fun q => h2 q.2), if_neg (fun q => h2 q.2), bld_inst_var, if_neg (by omega)]
    · rw [bld_inst_other h1, if_neg (fun q => h1 q.1), if_neg (fun q => h1 q.1), instL_under hc k xs 0 e v (fit_args h)]
theorem instL_under {p : Int} {a : Tm} {c : Int} (hc : 0 ≤ c) (k : Int) : ∀ (ts : List Tm) (i : Nat) (e v : Int), tmFitL p k ts i v = true → bldL (instF [a]) k (tmLiftL (1 + c) k ts i e) i (c + e) = tmLiftL c k ts i e
  | [], _, _, _, _ => rfl
  | t :: ts, i, e, v, h => by
    obtain ⟨h1, h2⟩ := fitL_cons h
    rw [tmLiftL, bldL, tmLiftL, instL_under hc k ts (i + 1) e v h2]
    congr 1
    by_cases hb : tmBind k i = true
    · rw [if_pos hb, if_pos hb, show c + e + 1 = c + (e + 1) by omega]
      exact inst_under hc t _ _ h1
    · rw [if_neg hb, if_neg hb]
      exact inst_under hc t _ _ h1
end
mutual
/-- one behind the other, or at once -/
theorem inst_steps {p : Int} {a b : Tm} {w : Int} (hb : tmFit p b w = true) : ∀ (t : Tm) (d v : Int), 0 ≤ d → tmFit p t v = true → bld (instF [a]) (bld (instF [tmLift 1 b 0]) t d) d = bld (instF [a, b]) t d
  | .mk k n nm ls xs, d, v, h0, h => by
    by_cases h1 : k = 1
    · obtain ⟨x, y, rfl, rfl, rfl⟩ := fit_var h h1
      subst h1
      rw [bld_inst_var, bld_inst_var]
      simp only [List.length_cons, List.length_nil]
      by_cases h2 : d ≤ n
      · rw [if_pos h2, if_pos h2]
        by_cases h3 : n = d
        · subst h3
          rw [if_neg (by omega), if_neg (by omega), Int.sub_self]
          show bld (instF [a]) (tmLift n (tmLift 1 b 0) 0) n = tmLift n b 0
          rw [lift_lift (by omega)]
          have := inst_under (a := a) h0 b 0 w hb
          rw [Int.add_zero] at this
          exact this
        · rw [if_pos (by omega), bld_inst_var]
          simp only [List.length_cons, List.length_nil]
          rw [if_pos (by omega)]
          by_cases h4 : n = d + 1
          · rw [if_neg (by omega), if_neg (by omega), show n - ((0 + 1 : Nat) : Int) - d = 0 by omega, show n - d = 1 by omega]
            rfl
          · rw [if_pos (by omega), if_pos (by omega)]
            congr 1
            omega
      · rw [if_neg h2, if_neg h2, bld_inst_var, if_neg h2]
    · rw [bld_inst_other h1, bld_inst_other h1, bld_inst_other h1, instL_steps hb k xs 0 d v h0 (fit_args h)]
theorem instL_steps {p : Int} {a b : Tm} {w : Int} (hb : tmFit p b w = true) (k : Int) : ∀ (ts : List Tm) (i : Nat) (d v : Int), 0 ≤ d → tmFitL p k ts i v = true → bldL (instF [a]) k (bldL (instF [tmLift 1 b 0]) k ts i d) i d = bldL (instF [a, b]) k ts i d
  | [], _, _, _, _, _ => rfl
  | t :: ts, i, d, v, h0, h => by
    obtain ⟨h1, h2⟩ := fitL_cons h
    rw [bldL, bldL, bldL, inst_steps hb t _ _ (by split <;> omega) h1, instL_steps hb k ts (i + 1) d v h0 h2]
end
mutual
theorem inst_loose {p : Int} {a b : Tm} : ∀ (t : Tm) (d v : Int), 0 ≤ d → tmFit p t v = true → tmLoose (bld (instF [a, b]) t d) d ≤ max (max (tmLoose t d - 2) (tmLoose a 0)) (tmLoose b 0)
  | .mk k n nm ls xs, d, v, h0, h => by
    have ha := tmLoose_nonneg a 0
    have hb := tmLoose_nonneg b 0
    by_cases h1 : k = 1
    · obtain ⟨x, y, rfl, rfl, rfl⟩ := fit_var h h1
      subst h1
      rw [bld_inst_var]
      simp only [List.length_cons, List.length_nil]
      by_cases h2 : d ≤ n
      · rw [if_pos h2]
        have la := loose_lift h0 a 0
        have lb := loose_lift h0 b 0
        rw [Int.zero_add] at la lb
        by_cases h3 : n = d
        · subst h3
          rw [if_neg (by omega), Int.sub_self]
          show tmLoose (tmLift n b 0) n ≤ _
          omega
        · by_cases h4 : n = d + 1
          · rw [if_neg (by omega), show n - d = 1 by omega]
            show tmLoose (tmLift d a 0) d ≤ _
            omega
          · rw [if_pos (by omega), tmLoose, tmLoose, if_pos rfl, if_pos rfl]
            omega
      · rw [if_neg h2, tmLoose, if_pos rfl]
        omega
    · rw [bld_inst_other h1, tmLoose, tmLoose, if_neg h1, if_neg h1]
      exact instL_loose k xs 0 d v h0 (fit_args h)
theorem instL_loose {p : Int} {a b : Tm} (k : Int) : ∀ (ts : List Tm) (i : Nat) (d v : Int), 0 ≤ d → tmFitL p k ts i v = true → tmLooseL k (bldL (instF [a, b]) k ts i d) i d ≤ max (max (tmLooseL k ts i d - 2) (tmLoose a 0)) (tmLoose b 0)
  | [], _, _, _, _, _ => by
    have ha := tmLoose_nonneg a 0
    rw [bldL, tmLooseL]
    omega
  | t :: ts, i, d, v, h0, h => by
    obtain ⟨h1, h2⟩ := fitL_cons h
    have e1 := inst_loose (a := a) (b := b) t (if tmBind k i = true then d + 1 else d) _ (by split <;> omega) h1
    have e2 := instL_loose (a := a) (b := b) k ts (i + 1) d v h0 h2
    rw [bldL, tmLooseL, tmLooseL]
    omega
end

/-! how often a variable is used -/
mutual
def tmUses (m : Int) : Tm → Int → Nat
  | .mk k n _ _ xs, d => (if k = 1 ∧ n = m + d then 1 else 0) + tmUsesL m k xs 0 d
def tmUsesL (m k : Int) : List Tm → Nat → Int → Nat
  | [], _, _ => 0
  | t :: ts, i, d => tmUses m t (if tmBind k i = true then d + 1 else d) + tmUsesL m k ts (i + 1) d
end
mutual
theorem inst_nodes {p : Int} {a : Tm} : ∀ (t : Tm) (d v : Int), tmFit p t v = true → (bld (instF [a]) t d).nodes + tmUses 0 t d = t.nodes + tmUses 0 t d * a.nodes
  | .mk k n nm ls xs, d, v, h => by
    by_cases h1 : k = 1
    · obtain ⟨x, y, rfl, rfl, rfl⟩ := fit_var h h1
      subst h1
      rw [bld_inst_var, tmUses, tmUsesL, Int.zero_add]
      simp only [List.length_cons, List.length_nil, true_and]
      by_cases h2 : d ≤ n
      · rw [if_pos h2]
        by_cases h3 : n = d
        · subst h3
          rw [if_neg (by omega), if_pos rfl, Int.sub_self]
          show (tmLift n a 0).nodes + 1 = 1 + 1 * a.nodes
          rw [tmLift_nodes]
          omega
        · rw [if_pos (by omega), if_neg h3]
          simp only [Tm.nodes, Tm.nodesL, Lv.nodesL]
          omega
      · rw [if_neg h2, if_neg (by omega)]
        simp only [Tm.nodes, Tm.nodesL, Lv.nodesL]
        omega
    · rw [bld_inst_other h1, tmUses, if_neg (fun e => h1 e.1), Nat.zero_add]
      have := instL_nodes (a := a) k xs 0 d v (fit_args h)
      simp only [Tm.nodes]
      omega
theorem instL_nodes {p : Int} {a : Tm} (k : Int) : ∀ (ts : List Tm) (i : Nat) (d v : Int), tmFitL p k ts i v = true → Tm.nodesL (bldL (instF [a]) k ts i d) + tmUsesL 0 k ts i d = Tm.nodesL ts + tmUsesL 0 k ts i d * a.nodes
  | [], _, _, _, _ => by rw [bldL, tmUsesL]; omega
  | t :: ts, i, d, v, h => by
    obtain ⟨h1, h2⟩ := fitL_cons h
    have e1 := inst_nodes (a := a) t (if tmBind k i = true then d + 1 else d) _ h1
    have e2 := instL_nodes (a := a) k ts (i + 1) d v h2
    rw [bldL, Tm.nodesL, Tm.nodesL, tmUsesL, Nat.add_mul]
    omega
end
mutual
theorem inst_unused {p : Int} {a b : Tm} : ∀ (t : Tm) (d v : Int), tmFit p t v = true → tmUses 0 t d = 0 → bld (instF [a]) t d = bld (instF [b]) t d
  | .mk k n nm ls xs, d, v, h, hu => by
    rw [tmUses] at hu
    by_cases h1 : k = 1
    · obtain ⟨x, y, rfl, rfl, rfl⟩ := fit_var h h1
      subst h1
      rw [Int.zero_add] at hu
      have h3 : n ≠ d := fun e => by rw [if_pos ⟨rfl, e⟩] at hu; omega
      rw [bld_inst_var, bld_inst_var]
      simp only [List.length_cons, List.length_nil]
      by_cases h2 : d ≤ n
      · rw [if_pos h2, if_pos h2, if_pos (by omega), if_pos (by omega)]
      · rw [if_neg h2, if_neg h2]
    · rw [bld_inst_other h1, bld_inst_other h1, instL_unused k xs 0 d v (fit_args h) (by omega)]
theorem instL_unused {p : Int} {a b : Tm} (k : Int) : ∀ (ts : List Tm) (i : Nat) (d v : Int), tmFitL p k ts i v = true → tmUsesL 0 k ts i d = 0 → bldL (instF [a]) k ts i d = bldL (instF [b]) k ts i d
  | [], _, _, _, _, _ => rfl
  | t :: ts, i, d, v, h, hu => by
    obtain ⟨h1, h2⟩ := fitL_cons h
    rw [tmUsesL] at hu
    rw [bldL, bldL, inst_unused t _ _ h1 (by omega), instL_unused k ts (i + 1) d v h2 (by omega)]
end
end Go.Proofs.YtpjolipkmemcoaaGreatDoor

/-
  Constants abstracted, and replaced, in plain words (bind). No condition.
-/
namespace Go.Proofs.YtpjolipkmemcoaaGreatDoor
open Go.RowKit

mutual
/-- does a constant stand in a term? -/
def tmHas (c : List UInt8) : Tm → Bool
  | .mk k _ nm _ xs => decide (k = 3 ∧ nm = c) || tmHasL c xs
def tmHasL (c : List UInt8) : List Tm → Bool
  | [] => false
  | t :: ts => tmHas c t || tmHasL c ts
end
mutual
/-- does it stand with levels? -/
def tmLeveled (c : List UInt8) : Tm → Bool
  | .mk k _ nm ls xs => decide (k = 3 ∧ nm = c ∧ ls ≠ []) || tmLeveledL c xs
def tmLeveledL (c : List UInt8) : List Tm → Bool
  | [] => false
  | t :: ts => tmLeveled c t || tmLeveledL c ts
end
theorem fit_const {p v : Int} {k n : Int} {nm : List UInt8} {ls : List Lv} {xs : List Tm} (h : tmFit p (.mk k n nm ls xs) v = true) (hk : k = 3) : n = 0 ∧ nameOk nm = true ∧ ls.length ≤ 4 ∧ xs = [] := by
  subst hk
  rw [tmFit, Bool.and_eq_true, Bool.and_eq_true] at h
  have h1 := h.1.1
  unfold tmNode at h1
  rw [if_neg (by omega), if_neg (by omega), if_pos rfl] at h1
  simp only [Bool.and_eq_true, decide_eq_true_eq] at h1
  exact ⟨h1.1.1.1, h1.1.1.2, h1.1.2, List.eq_nil_of_length_eq_zero h1.2⟩
theorem fit_tV {p v n : Int} (h0 : 0 ≤ n) (h1 : n < v) : tmFit p (.mk 1 n [] [] []) v = true := by
  rw [tmFit, tmFitL, Bool.and_true, Bool.and_eq_true, tmNode_1]
  exact ⟨⟨h0, h1, rfl, rfl, rfl⟩, rfl⟩

/-! where a text stands -/
theorem stAtI_spec {nms : List (List UInt8)} {nm : List UInt8} (h : 0 ≤ stAtI nms nm) : ∃ i : Nat, stAtI nms nm = i ∧ ∃ hi : i < nms.length, nms[i] = nm := by
  unfold stAtI at h ⊢
  cases hf : nms.findIdx? (fun x => decide (x = nm)) with
  | none => rw [hf] at h; simp at h
  | some i =>
    rw [List.findIdx?_eq_some_iff_getElem] at hf
    obtain ⟨hi, h1, _⟩ := hf
    exact ⟨i, rfl, hi, by simpa using h1⟩
theorem stAtI_none {nms : List (List UInt8)} {nm : List UInt8} (h : ¬0 ≤ stAtI nms nm) : nm ∉ nms := by
  unfold stAtI at h
  cases hf : nms.findIdx? (fun x => decide (x = nm)) with
  | some i => rw [hf] at h; exact absurd (by simp) h
  | none =>
    rw [List.findIdx?_eq_none_iff] at hf
    intro hm
    have := hf nm hm
    simp at this
theorem stAtI_lt (nms : List (List UInt8)) (nm : List UInt8) : stAtI nms nm < nms.length ∧ -1 ≤ stAtI nms nm := by
  by_cases h : 0 ≤ stAtI nms nm
  · obtain ⟨i, e, hi, _⟩ := stAtI_spec h
    omega
  · unfold stAtI at h ⊢
    cases hf : nms.findIdx? (fun x => decide (x = nm)) with
    | some i => rw [hf] at h; exact absurd (by simp) h
    | none => simp only; omega

/-! abstracted -/
theorem abs_const {nms : List (List UInt8)} {k n : Int} {nm : List UInt8} {ls : List Lv} {xs : List Tm} {d : Int} (h : k = 3 ∧ 0 ≤ stAtI nms nm) : absF nms (.mk k n nm ls xs) d = some (.mk 1 ((nms.length : Int) - 1 - stAtI nms nm + d) [] [] []) := if_pos h
theorem abs_other {nms : List (List UInt8)} {k n : Int} {nm : List UInt8} {ls : List Lv} {xs : List Tm} {d : Int} (h : ¬(k = 3 ∧ 0 ≤ stAtI nms nm)) : absF nms (.mk k n nm ls xs) d = movedF nms.length 0 (.mk k n nm ls xs) d := if_neg h
theorem bld_abs_const {nms : List (List UInt8)} {k n : Int} {nm : List UInt8} {ls : List Lv} {xs : List Tm} {d : Int} (h : k = 3 ∧ 0 ≤ stAtI nms nm) : bld (absF nms) (.mk k n nm ls xs) d = .mk 1 ((nms.length : Int) - 1 - stAtI nms nm + d) [] [] [] := bld_some (abs_const h)
theorem bld_abs_var {nms : List (List UInt8)} {n d : Int} (h : d ≤ n) : bld (absF nms) (.mk 1 n [] [] []) d = .mk 1 (n + nms.length) [] [] [] := by
  refine bld_some ?_
  rw [abs_other (by omega)]
  exact moved_yes ⟨rfl, by omega⟩
theorem bld_abs_stay {nms : List (List UInt8)} {k n : Int} {nm : List UInt8} {ls : List Lv} {xs : List Tm} {d : Int} (h : ¬(k = 3 ∧ 0 ≤ stAtI nms nm)) (h2 : ¬(k = 1 ∧ d ≤ n)) : bld (absF nms) (.mk k n nm ls xs) d = .mk k n nm ls (bldL (absF nms) k xs 0 d) := by
  refine bld_stay ?_
  rw [abs_other h]
  exact moved_no (fun e => h2 ⟨e.1, by omega⟩)
/-- constants that stand for themselves -/
def constsOf (nms : List (List UInt8)) : List Tm := nms.map fun nm => .mk 3 0 nm [] []
theorem constsOf_len (nms : List (List UInt8)) : (constsOf nms).length = nms.length := List.length_map _
mutual
/-- constants that are abstracted, and put in again, are as they were -/
theorem abs_back {p : Int} {nms : List (List UInt8)} : ∀ (t : Tm) (d v : Int), tmFit p t v = true → (∀ c ∈ nms, tmLeveled c t = false) → bld (instF (constsOf nms)) (bld (absF nms) t d) d = t
  | .mk k n nm ls xs, d, v, h, hl => by
    by_cases h1 : k = 3 ∧ 0 ≤ stAtI nms nm
    · obtain ⟨i, e, hi, hg⟩ := stAtI_spec h1.2
      obtain ⟨a, b, c, f⟩ := fit_const h h1.1
      have hlv : ls = [] := by
        have := hl nm (by rw [← hg]; exact List.getElem_mem hi)
        rw [tmLeveled, Bool.or_eq_false_iff, decide_eq_false_iff_not] at this
        by_cases hz : ls = []
        · exact hz
        · exact absurd ⟨h1.1, rfl, hz⟩ this.1
      rw [bld_abs_const h1, bld_inst_var, if_pos (by omega), if_neg (by rw [constsOf_len]; omega), constsOf_len]
      rw [show nms.length - 1 - ((nms.length : Int) - 1 - stAtI nms nm + d - d).toNat = i by omega]
      rw [List.getD_eq_getElem?_getD, List.getElem?_eq_getElem (by rw [constsOf_len]; exact hi)]
      simp only [Option.getD_some, constsOf, List.getElem_map]
      rw [tmLift, if_neg (by omega), tmLiftL, hg, h1.1, a, hlv, f]
    · by_cases h2 : k = 1
      · obtain ⟨a, b, rfl, rfl, rfl⟩ := fit_var h h2
        subst h2
        by_cases h3 : d ≤ n
        · rw [bld_abs_var h3, bld_inst_var, if_pos (by omega), constsOf_len, if_pos (by omega)]
          congr 1
          omega
        · rw [bld_abs_stay h1 (fun e => h3 e.2), bldL, bld_inst_var, if_neg h3]
      · rw [bld_abs_stay h1 (fun e => h2 e.1), bld_inst_other h2, absL_back k xs 0 d v (fit_args h) fun c hc => ?_]
        have := hl c hc
        rw [tmLeveled, Bool.or_eq_false_iff] at this
        exact this.2
theorem absL_back {p : Int} {nms : List (List UInt8)} (k : Int) : ∀ (ts : List Tm) (i : Nat) (d v : Int), tmFitL p k ts i v = true → (∀ c ∈ nms, tmLeveledL c ts = false) → bldL (instF (constsOf nms)) k (bldL (absF nms) k ts i d) i d = ts
  | [], _, _, _, _, _ => rfl
  | t :: ts, i, d, v, h, hl => by
    obtain ⟨h1, h2⟩ := fitL_cons h
    rw [bldL, bldL, abs_back t _ _ h1 (fun c hc => ?_), absL_back k ts (i + 1) d v h2 (fun c hc => ?_)]
    · have := hl c hc
      rw [tmLeveledL, Bool.or_eq_false_iff] at this
      exact this.2
    · have := hl c hc
      rw [tmLeveledL, Bool.or_eq_false_iff] at this
      exact this.1
end
mutual
theorem abs_nodes {p : Int} {nms : List (List UInt8)} : ∀ (t : Tm) (d v : Int), tmFit p t v = true → (bld (absF nms) t d).nodes ≤ t.nodes
  | .mk k n nm ls xs, d, v, h => by
    by_cases h1 : k = 3 ∧ 0 ≤ stAtI nms nm
    · rw [bld_abs_const h1]
      simp only [Tm.nodes, Tm.nodesL, Lv.nodesL]
      omega
    · by_cases h2 : k = 1 ∧ d ≤ n
      · obtain ⟨a, b, rfl, rfl, rfl⟩ := fit_var h h2.1
        obtain ⟨rfl, h3⟩ := h2
        rw [bld_abs_var h3]
        exact Nat.le_refl _
      · rw [bld_abs_stay h1 h2]
        have := absL_nodes (nms := nms) k xs 0 d v (fit_args h)
        simp only [Tm.nodes]
        omega
theorem absL_nodes {p : Int} {nms : List (List UInt8)} (k : Int) : ∀ (ts : List Tm) (i : Nat) (d v : Int), tmFitL p k ts i v = true → Tm.nodesL (bldL (absF nms) k ts i d) ≤ Tm.nodesL ts
  | [], _, _, _, _ => Nat.le_refl _
  | t :: ts, i, d, v, h => by
    obtain ⟨h1, h2⟩ := fitL_cons h
    have e1 := abs_nodes (nms := nms) t (if tmBind k i = true then d + 1 else d) _ h1
    have e2 := absL_nodes (nms := nms) k ts (i + 1) d v h2
    rw [bldL, Tm.nodesL, Tm.nodesL]
    omega
end
theorem fit_mk {p v v' : Int} {k n : Int} {nm : List UInt8} {ls : List Lv} {xs ys : List Tm} (h : tmFit p (.mk k n nm ls xs) v = true) (hk : k ≠ 1) (hl : ys.length = xs.length) (hy : tmFitL p k ys 0 v' = true) : tmFit p (.mk k n nm ls ys) v' = true := by
  rw [tmFit, Bool.and_eq_true, Bool.and_eq_true] at h ⊢
  rw [hl, tmNode_k (v' := v) hk]
  exact ⟨h.1, hy⟩
mutual
theorem abs_fit {p : Int} {nms : List (List UInt8)} (hp : p ≤ 4) : ∀ (t : Tm) (d v : Int), 0 ≤ v → 0 ≤ d → tmFit p t (v + d) = true → tmFit p (bld (absF nms) t d) (v + nms.length + d) = true
  | .mk k n nm ls xs, d, v, h0, hd, h => by
    by_cases h1 : k = 3 ∧ 0 ≤ stAtI nms nm
    · have := stAtI_lt nms nm
      rw [bld_abs_const h1]
      exact fit_tV (by omega) (by omega)
    · by_cases h2 : k = 1
      · obtain ⟨a, b, rfl, rfl, rfl⟩ := fit_var h h2
        subst h2
        by_cases h3 : d ≤ n
        · rw [bld_abs_var h3]
          exact fit_tV (by omega) (by omega)
        · rw [bld_abs_stay h1 (fun e => h3 e.2), bldL]
          exact fit_tV a (by omega)
      · rw [bld_abs_stay h1 (fun e => h2 e.1)]
        exact fit_mk h h2 (bldL_len _ _ _ _ _) (absL_fit hp k xs 0 d v h0 hd (fit_args h))
theorem absL_fit {p : Int} {nms : List (List UInt8)} (hp : p ≤ 4) (k : Int) : ∀ (ts : List Tm) (i : Nat) (d v : Int), 0 ≤ v → 0 ≤ d → tmFitL p k ts i (v + d) = true → tmFitL p k (bldL (absF nms) k ts i d) i (v + nms.length + d) = true
  | [], _, _, _, _, _, _ => rfl
  | t :: ts, i, d, v, h0, hd, h => by
    obtain ⟨h1, h2⟩ := fitL_cons h
    rw [bldL, tmFitL, Bool.and_eq_true]
    refine ⟨?_, absL_fit hp k ts (i + 1) d v h0 hd h2⟩
    by_cases hb : tmBind k i = true
    · rw [if_pos hb] at h1 ⊢
      rw [if_pos hb, Int.add_assoc (v + _)]
      exact abs_fit hp t (d + 1) v h0 (by omega) (by rw [← Int.add_assoc]; exact h1)
    · rw [if_neg hb] at h1 ⊢
      rw [if_neg hb]
      exact abs_fit hp t d v h0 hd h1
end
mutual
theorem abs_has {p : Int} {nms : List (List UInt8)} {c : List UInt8} (hc : c ∈ nms) : ∀ (t : Tm) (d v : Int), tmFit p t v = true → tmHas c (bld (absF nms) t d) = false
  | .mk k n nm ls xs, d, v, h => by
    by_cases h1 : k = 3 ∧ 0 ≤ stAtI nms nm
    · rw [bld_abs_const h1, tmHas, tmHasL]
      simp
    · by_cases h2 : k = 1 ∧ d ≤ n
      · obtain ⟨a, b, rfl, rfl, rfl⟩ := fit_var h h2.1
        obtain ⟨rfl, h3⟩ := h2
        rw [bld_abs_var h3, tmHas, tmHasL]
        simp
      · rw [bld_abs_stay h1 h2, tmHas, absL_has hc k xs 0 d v (fit_args h), Bool.or_false, decide_eq_false_iff_not]
        rintro ⟨e1, rfl⟩
        refine h1 ⟨e1, ?_⟩
        by_cases h4 : 0 ≤ stAtI nms nm
        · exact h4
        · exact absurd hc (stAtI_none h4)
theorem absL_has {p : Int} {nms : List (List UInt8)} {c : List UInt8} (hc : c ∈ nms) (k : Int) : ∀ (ts : List Tm) (i : Nat) (d v : Int), tmFitL p k ts i v = true → tmHasL c (bldL (absF nms) k ts i d) = false
  | [], _, _, _, _ => rfl
  | t :: ts, i, d, v, h => by
    obtain ⟨h1, h2⟩ := fitL_cons h
    rw [bldL, tmHasL, abs_has hc t _ _ h1, absL_has hc k ts (i + 1) d v h2]
    rfl
end

/-! replaced -/
theorem repl_yes {c : List UInt8} {u : Tm} {k n : Int} {nm : List UInt8} {ls : List Lv} {xs : List Tm} {d : Int} (h : k = 3 ∧ nm = c) : bld (replF c u) (.mk k n nm ls xs) d = tmLift d u 0 := bld_some (if_pos h)
theorem repl_no {c : List UInt8} {u : Tm} {k n : Int} {nm : List UInt8} {ls : List Lv} {xs : List Tm} {d : Int} (h : ¬(k = 3 ∧ nm = c)) : bld (replF c u) (.mk k n nm ls xs) d = .mk k n nm ls (bldL (replF c u) k xs 0 d) := bld_stay (if_neg h)
mutual
theorem has_lift {c : List UInt8} {e : Int} : ∀ (t : Tm) (d : Int), tmHas c (tmLift e t d) = tmHas c t
  | .mk k n nm ls xs, d => by rw [tmLift, tmHas, tmHas, hasL_lift k xs 0 d]
theorem hasL_lift {c : List UInt8} {e : Int} (k : Int) : ∀ (ts : List Tm) (i : Nat) (d : Int), tmHasL c (tmLiftL e k ts i d) = tmHasL c ts
  | [], _, _ => rfl
  | t :: ts, i, d => by rw [tmLiftL, tmHasL, tmHasL, has_lift t, hasL_lift k ts (i + 1) d]
end
mutual
theorem repl_has {p : Int} {c : List UInt8} {u : Tm} : ∀ (t : Tm) (d v : Int), tmFit p t v = true → tmHas c (bld (replF c u) t d) = (tmHas c t && tmHas c u)
  | .mk k n nm ls xs, d, v, h => by
    by_cases h1 : k = 3 ∧ nm = c
    · rw [repl_yes h1, has_lift, tmHas, decide_eq_true h1, Bool.true_or, Bool.true_and]
    · rw [repl_no h1, tmHas, tmHas, decide_eq_false h1, Bool.false_or, Bool.false_or, replL_has k xs 0 d v (fit_args h)]
theorem replL_has {p : Int} {c : List UInt8} {u : Tm} (k : Int) : ∀ (ts : List Tm) (i : Nat) (d v : Int), tmFitL p k ts i v = true → tmHasL c (bldL (replF c u) k ts i d) = (tmHasL c ts && tmHas c u)
  | [], _, _, _, _ => rfl
  | t :: ts, i, d, v, h => by
    obtain ⟨h1, h2⟩ := fitL_cons h
    rw [bldL, tmHasL, tmHasL, repl_has t _ _ h1, replL_has k ts (i + 1) d v h2]
    cases tmHas c t <;> cases tmHasL c ts <;> cases tmHas c u <;> rfl
end
mutual
theorem repl_none {c : List UInt8} {u : Tm} : ∀ (t : Tm) (d : Int), tmHas c t = false → bld (replF c u) t d = t
  | .mk k n nm ls xs, d, h => by
    rw [tmHas, Bool.or_eq_false_iff, decide_eq_false_iff_not] at h
    rw [repl_no h.1, replL_none k xs 0 d h.2]
theorem replL_none {c : List UInt8} {u : Tm} (k : Int) : ∀ (ts : List Tm) (i : Nat) (d : Int), tmHasL c ts = false → bldL (replF c u) k ts i d = ts
  | [], _, _, _ => rfl
  | t :: ts, i, d, h => by
    rw [tmHasL, Bool.or_eq_false_iff] at h
    rw [bldL, repl_none t _ h.1, replL_none k ts (i + 1) d h.2]
end
mutual
theorem repl_self {p : Int} {c : List UInt8} : ∀ (t : Tm) (d v : Int), tmFit p t v = true → tmLeveled c t = false → bld (replF c (.mk 3 0 c [] [])) t d = t
  | .mk k n nm ls xs, d, v, h, hl => by
    rw [tmLeveled, Bool.or_eq_false_iff, decide_eq_false_iff_not] at hl
    by_cases h1 : k = 3 ∧ nm = c
    · obtain ⟨a, b, e, f⟩ := fit_const h h1.1
      have hz : ls = [] := by
        by_cases hz : ls = []
        · exact hz
        · exact absurd ⟨h1.1, h1.2, hz⟩ hl.1
      rw [repl_yes h1, tmLift, if_neg (by omega), tmLiftL, h1.1, h1.2, a, hz, f]
    · rw [repl_no h1, replL_self k xs 0 d v (fit_args h) hl.2]
theorem replL_self {p : Int} {c : List UInt8} (k : Int) : ∀ (ts : List Tm) (i : Nat) (d v : Int), tmFitL p k ts i v = true → tmLeveledL c ts = false → bldL (replF c (.mk 3 0 c [] [])) k ts i d = ts
  | [], _, _, _, _, _ => rfl
  | t :: ts, i, d, v, h, hl => by
    obtain ⟨h1, h2⟩ := fitL_cons h
    rw [tmLeveledL, Bool.or_eq_false_iff] at hl
    rw [bldL, repl_self t _ _ h1 hl.1, replL_self k ts (i + 1) d v h2 hl.2]
end
mutual
theorem repl_fit {p : Int} {c : List UInt8} {u : Tm} {w : Int} (hp : p ≤ 4) (hu : tmFit p u w = true) : ∀ (t : Tm) (d : Int), 0 ≤ d → tmFit p t (w + d) = true → tmFit p (bld (replF c u) t d) (w + d) = true
  | .mk k n nm ls xs, d, hd, h => by
    by_cases h1 : k = 3 ∧ nm = c
    · rw [repl_yes h1]
      exact fit_lift hd u 0 w hu
    · rw [repl_no h1]
      by_cases h2 : k = 1
      · obtain ⟨a, b, rfl, rfl, rfl⟩ := fit_var h h2
        rw [bldL]
        exact h
      · exact fit_mk h h2 (bldL_len _ _ _ _ _) (replL_fit hp hu k xs 0 d hd (fit_args h))
theorem replL_fit {p : Int} {c : List UInt8} {u : Tm} {w : Int} (hp : p ≤ 4) (hu : tmFit p u w = true) (k : Int) : ∀ (ts : List Tm) (i : Nat) (d : Int), 0 ≤ d → tmFitL p k ts i (w + d) = true → tmFitL p k (bldL (replF c u) k ts i d) i (w + d) = true
  | [], _, _, _, _ => rfl
  | t :: ts, i, d, hd, h => by
    obtain ⟨h1, h2⟩ := fitL_cons h
    rw [bldL, tmFitL, Bool.and_eq_true]
    refine ⟨?_, replL_fit hp hu k ts (i + 1) d hd h2⟩
    by_cases hb : tmBind k i = true
    · rw [if_pos hb] at h1 ⊢
      rw [if_pos hb, Int.add_assoc]
      exact repl_fit hp hu t (d + 1) (by omega) (by rw [← Int.add_assoc]; exact h1)
    · rw [if_neg hb] at h1 ⊢
      rw [if_neg hb]
      exact repl_fit hp hu t d hd h1
end

end Go.Proofs.YtpjolipkmemcoaaGreatDoor

/-
  A term's constants, in order; slices.Contains over texts; bind.Occurs. No condition.
-/
namespace Go.Proofs.YtpjolipkmemcoaaGreatDoor
open Go.RowKit

/-! a term's constants -/
mutual
theorem has_subs {c : List UInt8} : ∀ t : Tm, tmHas c t = true ↔ c ∈ cnames t.subs
  | .mk k n nm ls xs => by
    rw [tmHas, Tm.subs, cnames, List.filter_cons]
    have ih := hasL_subs (c := c) xs
    rw [cnames] at ih
    by_cases h : k = 3
    · rw [if_pos (by simp [Tm.kind, h]), List.map_cons, List.mem_cons, ← ih]
      simp only [Bool.or_eq_true, decide_eq_true_eq, h, true_and]
      exact ⟨fun e => e.imp Eq.symm id, fun e => e.imp Eq.symm id⟩
    · rw [if_neg (by simp [Tm.kind, h]), ← ih]
      simp [h]
theorem hasL_subs {c : List UInt8} : ∀ ts : List Tm, tmHasL c ts = true ↔ c ∈ cnames (Tm.subsL ts)
  | [] => by simp [tmHasL, Tm.subsL, cnames]
  | t :: ts => by
    have h1 := has_subs (c := c) t
    have h2 := hasL_subs (c := c) ts
    rw [cnames] at h1 h2
    rw [tmHasL, Tm.subsL, cnames, List.filter_append, List.map_append, List.mem_append, Bool.or_eq_true, h1, h2]
end

theorem once_all {l : List (List UInt8)} : ∀ (j : Nat) (h : j < l.length), l[j] ∈ stsOnce l
  | j, h => by
    unfold stsOnce Lib.compact Lib.compactUpTo
    by_cases hk : Lib.keeps l.toArray j = true
    · refine List.mem_map.2 ⟨j, List.mem_filter.2 ⟨List.mem_range.2 h, hk⟩, ?_⟩
      rw [getElem!_pos l.toArray j (by simpa using h)]
      simp
    · unfold Lib.keeps at hk
      simp only [decide_eq_true_eq, not_or, Decidable.not_not] at hk
      obtain ⟨h0, h1⟩ := hk
      rw [getElem!_pos l.toArray j (by simpa using h), getElem!_pos l.toArray (j - 1) (by simp; omega)] at h1
      have ih := once_all (l := l) (j - 1) (by omega)
      unfold stsOnce Lib.compact Lib.compactUpTo at ih
      have e : l[j] = l[j - 1]'(by omega) := by simpa using h1
      rw [e]
      exact ih
termination_by j => j
theorem nmSort_mem {l : List (List UInt8)} {s : List UInt8} : s ∈ nmSort l ↔ s ∈ l := by
  unfold nmSort
  constructor
  · intro h
    exact stsSort_mem.1 (stsOnce_mem h)
  · intro h
    obtain ⟨j, hj, e⟩ := List.getElem_of_mem (stsSort_mem.2 h)
    rw [← e]
    exact once_all j hj
/-- does a constant occur in a right term? -/
def tmOccurs (c : List UInt8) (t : Tm) : Bool := tmRight 4 1125899906842624 t && tmHas c t
theorem occurs_iff (c : List UInt8) (t : Tm) : decide (c ∈ tmConsts t) = tmOccurs c t := by
  unfold tmConsts tmOccurs
  by_cases h : tmRight 4 1125899906842624 t = true
  · rw [if_pos h, h, Bool.true_and, Bool.eq_iff_iff, decide_eq_true_eq, nmSort_mem]
    exact (has_subs t).symm
  · rw [if_neg h, Bool.eq_false_iff.2 h]
    simp
end Go.Proofs.YtpjolipkmemcoaaGreatDoor

/-
  slices.Index, Contains over texts. No condition.
-/
namespace Go.Proofs.YtpjolipkmemcoaaGreatDoor
open Go.RowKit

theorem stAtI_hit {ss : List (List UInt8)} {s : List UInt8} {j : Nat} (h : j < ss.length) (he : ss[j] = s) (hn : s ∉ ss.take j) : stAtI ss s = j := by
  unfold stAtI
  have : ss.findIdx? (fun x => decide (x = s)) = some j := by
    rw [List.findIdx?_eq_some_iff_getElem]
    refine ⟨h, by simp [he], fun i hi => ?_⟩
    simp only [decide_eq_true_eq]
    intro e
    exact hn (List.mem_take_iff_getElem.2 ⟨i, by omega, e⟩)
  rw [this]
theorem stAtI_miss {ss : List (List UInt8)} {s : List UInt8} (hn : s ∉ ss) : stAtI ss s = -1 := by
  unfold stAtI
  have : ss.findIdx? (fun x => decide (x = s)) = none := by
    rw [List.findIdx?_eq_none_iff]
    intro x hx
    simp only [decide_eq_false_iff_not]
    rintro rfl
    exact hn hx
  rw [this]
set_option maxRecDepth 100000 in
theorem IndexS_con (o : Own) (ss : List (List UInt8)) (s : List UInt8) : Ans Tryz.prog 58 [.sl o 1 (ss.map .str), .str s] (.i (stAtI ss s)) := by
  intro H Q hq
  have hlen : (ss.map AV.str).length = ss.length := List.length_map _
  refine con_of_awp (esc := fun _ => false) tab_ok mixed Tryz.func58 rfl (ent Tryz.func58 (by kernel_rfl) rfl) (by kernel_rfl) ?_
  intro hw hn
  have hmax : ss.length ≤ 9223372036854775807 := by
    have := Wf.len (hw (.sl o 1 (ss.map .str)) (by simp))
    simpa using this
  clear hw hn
  refine ⟨Nat, fun j => ⟨[(0, .g (.sl o 1 (ss.map .str))), (1, .g (.str s)), (4, .g (.i 0)), (7, .g (.i ss.length)), (8, .g (.i j))], [], H⟩, fun j => j ≤ ss.length ∧ s ∉ ss.take j, fun j => ss.length - j, ⟨0, ⟨Nat.zero_le _, by simp⟩, ?_⟩, ?_⟩
  · (constructor <;> repeat' (first | exact trivial | exact ⟨rfl, rfl⟩ | exact ⟨rfl, LeL.refl _⟩ | exact Le.refl _ | exact List.Sublist.refl _ | (show Le (AV.i _) (AV.i _); rw [List.length_map]; exact Le.refl _) | refine And.intro ?_ ?_))
  · rintro j ⟨hj, hnot⟩
    refine ifB_dec (fun h1 => ?_) (fun h1 => ?_)
    · have hlt : j < ss.length := by omega
      refine ⟨j, rfl, .str ss[j], by simp [hlt], ?_⟩
      refine ifB_dec (fun h2 => ?_) (fun h2 => ?_)
      · exact ⟨_, H, ret_i (stAtI_hit hlt h2.symm hnot).symm, List.Sublist.refl _, hq⟩
      · refine ⟨in64_of (by first | omega | (dsimp only; omega)) (by first | omega | (dsimp only; omega)), ?_⟩
        refine ⟨j + 1, ⟨by omega, ?_⟩, by (try dsimp only); omega, ?_⟩
        · rw [List.take_succ_eq_append_getElem hlt]
          intro hm
          rcases List.mem_append.1 hm with hm | hm
          · exact hnot hm
          · exact h2 (List.mem_singleton.1 hm)
        · (constructor <;> repeat' (first | exact trivial | exact ⟨rfl, rfl⟩ | exact ⟨rfl, LeL.refl _⟩ | exact Le.refl _ | exact List.Sublist.refl _ | (show Le (AV.i _) (AV.i _); rw [List.length_map]; exact Le.refl _) | refine And.intro ?_ ?_))
    · have hj' : ss.length = j := by omega
      subst hj'
      rw [List.take_length] at hnot
      exact ⟨_, H, ret_i (stAtI_miss hnot).symm, List.Sublist.refl _, hq⟩
theorem stAtI_mem {ss : List (List UInt8)} {s : List UInt8} : decide (0 ≤ stAtI ss s) = decide (s ∈ ss) := by
  by_cases h : 0 ≤ stAtI ss s
  · obtain ⟨i, _, hi, he⟩ := stAtI_spec h
    rw [decide_eq_true h, decide_eq_true (he ▸ List.getElem_mem hi)]
  · rw [decide_eq_false h, decide_eq_false (stAtI_none h)]
set_option maxRecDepth 100000 in
theorem ContainsS_con (o : Own) (ss : List (List UInt8)) (s : List UInt8) : Ans Tryz.prog 39 [.sl o 1 (ss.map .str), .str s] (.b (decide (s ∈ ss))) := by
  intro H Q hq
  rw [← stAtI_mem] at hq
  refine con_of_awp (esc := fun _ => false) tab_ok mixed Tryz.func39 rfl (ent Tryz.func39 (by kernel_rfl) rfl) (by kernel_rfl) ?_
  intro hw hn
  refine ⟨_, LeL.refl _, IndexS_con o ss s _ _ ?_⟩
  intro hz1 hz2; clear hz1 hz2
  refine ifB_dec (fun h1 => ?_) (fun h1 => ?_)
  · exact ⟨_, H, ret_b (by rw [decide_eq_true h1]), List.Sublist.refl _, hq⟩
  · exact ⟨_, H, ret_b (by rw [decide_eq_false h1]), List.Sublist.refl _, hq⟩
end Go.Proofs.YtpjolipkmemcoaaGreatDoor
