/-
  Texts put together: T1, T2, T3, T4, U0, U1, U2, U3. No condition.
-/
import Derived.Test.YtahdkhklngjmoaaGreatDoorM16
/-
  Terms with others in the place of leaves, in plain words (bind). No condition.
-/
namespace Go.Proofs.YtahdkhklngjmoaaGreatDoor
open Go.RowKit

/-- what stands in the place of a leaf in deep binders -/
abbrev Leaf := Tm → Int → Option Tm
mutual
/-- a term made anew -/
def bld (f : Leaf) : Tm → Int → Tm
  | .mk k n nm ls xs, d => match f (.mk k n nm ls xs) d with
    | some x => x
    | none => .mk k n nm ls (bldL f k xs 0 d)
def bldL (f : Leaf) (k : Int) : List Tm → Nat → Int → List Tm
  | [], _, _ => []
  | t :: ts, i, d => bld f t (if tmBind k i = true then d + 1 else d) :: bldL f k ts (i + 1) d
end
theorem bldL_len (f : Leaf) (k : Int) : ∀ (ts : List Tm) (i : Nat) (d : Int), (bldL f k ts i d).length = ts.length
  | [], _, _ => rfl
  | t :: ts, i, d => by rw [bldL, List.length_cons, List.length_cons, bldL_len f k ts]
/-! the leaves -/
def movedF (c from_ : Int) : Leaf := fun t d => if t.kind = 1 ∧ from_ + d ≤ t.n then some (.mk 1 (t.n + c) [] [] []) else none
def instF (args : List Tm) : Leaf := fun t d => if t.kind = 1 ∧ d ≤ t.n then (if (args.length : Int) ≤ t.n - d then some (.mk 1 (t.n - args.length) [] [] []) else some (tmLift d (args.getD (args.length - 1 - (t.n - d).toNat) tm0) 0)) else none
/-- where a text stands first; -1: nowhere -/
def stAtI (nms : List (List UInt8)) (nm : List UInt8) : Int := match nms.findIdx? (fun x => decide (x = nm)) with
  | some i => i
  | none => -1
/-! a right term's variables have no more than their number -/
theorem fit_var {p v : Int} {k n : Int} {nm : List UInt8} {ls : List Lv} {xs : List Tm} (h : tmFit p (.mk k n nm ls xs) v = true) (hk : k = 1) : 0 ≤ n ∧ n < v ∧ nm = [] ∧ ls = [] ∧ xs = [] := by
  subst hk
  rw [tmFit, Bool.and_eq_true, Bool.and_eq_true, tmNode_1] at h
  obtain ⟨⟨⟨a, b, c, d, e⟩, _⟩, _⟩ := h
  exact ⟨a, b, c, List.eq_nil_of_length_eq_zero d, List.eq_nil_of_length_eq_zero e⟩
theorem fit_args {p v : Int} {k n : Int} {nm : List UInt8} {ls : List Lv} {xs : List Tm} (h : tmFit p (.mk k n nm ls xs) v = true) : tmFitL p k xs 0 v = true := by
  rw [tmFit, Bool.and_eq_true] at h
  exact h.2
theorem fitL_cons {p k v : Int} {t : Tm} {ts : List Tm} {i : Nat} (h : tmFitL p k (t :: ts) i v = true) : tmFit p t (if tmBind k i = true then v + 1 else v) = true ∧ tmFitL p k ts (i + 1) v = true := by
  rw [tmFitL, Bool.and_eq_true] at h
  exact h
/-- a right term that is no leaf has a kind and parts alone -/
theorem fit_inner {p v : Int} {t : Tm} (h : tmFit p t v = true) (hx : t.args ≠ []) : t.n = 0 ∧ t.name = [] ∧ t.levels = [] := by
  rw [tmFit_eq, Bool.and_eq_true, Bool.and_eq_true] at h
  have h1 := h.1.1
  have hl : t.args.length ≠ 0 := fun e => hx (List.eq_nil_of_length_eq_zero e)
  unfold tmNode at h1
  split at h1
  · simp only [Bool.and_eq_true, decide_eq_true_eq] at h1; exact absurd h1.2 hl
  split at h1
  · simp only [Bool.and_eq_true, decide_eq_true_eq] at h1; exact absurd h1.2 hl
  split at h1
  · simp only [Bool.and_eq_true, decide_eq_true_eq] at h1; exact absurd h1.2 hl
  split at h1
  · simp only [Bool.and_eq_true, decide_eq_true_eq] at h1
    exact ⟨h1.1.1.1, h1.1.1.2, List.eq_nil_of_length_eq_zero h1.1.2⟩
  split at h1
  · simp only [Bool.and_eq_true, decide_eq_true_eq] at h1
    exact ⟨h1.1.1.1, h1.1.1.2, List.eq_nil_of_length_eq_zero h1.1.2⟩
  · cases h1

theorem bld_some {f : Leaf} {k n : Int} {nm : List UInt8} {ls : List Lv} {xs : List Tm} {d : Int} {x : Tm} (h : f (.mk k n nm ls xs) d = some x) : bld f (.mk k n nm ls xs) d = x := by rw [bld, h]
theorem bld_stay {f : Leaf} {k n : Int} {nm : List UInt8} {ls : List Lv} {xs : List Tm} {d : Int} (h : f (.mk k n nm ls xs) d = none) : bld f (.mk k n nm ls xs) d = .mk k n nm ls (bldL f k xs 0 d) := by rw [bld, h]
theorem moved_yes {c f k n : Int} {nm : List UInt8} {ls : List Lv} {xs : List Tm} {d : Int} (h : k = 1 ∧ f + d ≤ n) : movedF c f (.mk k n nm ls xs) d = some (.mk 1 (n + c) [] [] []) := if_pos h
theorem moved_no {c f k n : Int} {nm : List UInt8} {ls : List Lv} {xs : List Tm} {d : Int} (h : ¬(k = 1 ∧ f + d ≤ n)) : movedF c f (.mk k n nm ls xs) d = none := if_neg h
theorem instF_no {args : List Tm} {k n : Int} {nm : List UInt8} {ls : List Lv} {xs : List Tm} {d : Int} (h : ¬(k = 1 ∧ d ≤ n)) : instF args (.mk k n nm ls xs) d = none := if_neg h
theorem instF_out {args : List Tm} {k n : Int} {nm : List UInt8} {ls : List Lv} {xs : List Tm} {d : Int} (h : k = 1 ∧ d ≤ n) (h2 : (args.length : Int) ≤ n - d) : instF args (.mk k n nm ls xs) d = some (.mk 1 (n - args.length) [] [] []) := (if_pos h).trans (if_pos h2)
theorem instF_in {args : List Tm} {k n : Int} {nm : List UInt8} {ls : List Lv} {xs : List Tm} {d : Int} (h : k = 1 ∧ d ≤ n) (h2 : ¬(args.length : Int) ≤ n - d) : instF args (.mk k n nm ls xs) d = some (tmLift d (args.getD (args.length - 1 - (n - d).toNat) tm0) 0) := (if_pos h).trans (if_neg h2)

/-! raised: what moves is lifted -/
mutual
theorem bld_moved {p c from_ : Int} : ∀ (t : Tm) (d v : Int), tmFit p t v = true → bld (movedF c from_) t d = tmLift c t (from_ + d)
  | .mk k n nm ls xs, d, v, h => by
    rw [tmLift]
    by_cases h1 : k = 1 ∧ from_ + d ≤ n
    · obtain ⟨a, b, rfl, rfl, rfl⟩ := fit_var h h1.1
      rw [bld_some (moved_yes h1), if_pos h1, tmLiftL, h1.1]
    · rw [bld_stay (moved_no h1), if_neg h1, bldL_moved k xs 0 d v (fit_args h)]
theorem bldL_moved {p c from_ : Int} (k : Int) : ∀ (ts : List Tm) (i : Nat) (d v : Int), tmFitL p k ts i v = true → bldL (movedF c from_) k ts i d = tmLiftL c k ts i (from_ + d)
  | [], _, _, _, _ => rfl
  | t :: ts, i, d, v, h => by
    obtain ⟨h1, h2⟩ := fitL_cons h
    rw [bldL, tmLiftL, bld_moved t _ _ h1, bldL_moved k ts (i + 1) d v h2]
    by_cases hb : tmBind k i = true
    · rw [if_pos hb, if_pos hb, Int.add_assoc]
    · rw [if_neg hb, if_neg hb]
end

/-! lifts -/

/-! terms in the place of variables -/
theorem bld_inst_var {args : List Tm} {n d : Int} : bld (instF args) (.mk 1 n [] [] []) d = if d ≤ n then (if (args.length : Int) ≤ n - d then .mk 1 (n - args.length) [] [] [] else tmLift d (args.getD (args.length - 1 - (n - d).toNat) tm0) 0) else .mk 1 n [] [] [] := by
  by_cases h : d ≤ n
  · rw [if_pos h]
    by_cases h2 : (args.length : Int) ≤ n - d
    · rw [if_pos h2, bld_some (instF_out ⟨rfl, h⟩ h2)]
    · rw [if_neg h2, bld_some (instF_in ⟨rfl, h⟩ h2)]
  · rw [if_neg h, bld_stay (instF_no fun e => h e.2)]
    rfl
theorem bld_inst_other {args : List Tm} {k n : Int} {nm : List UInt8} {ls : List Lv} {xs : List Tm} {d : Int} (h : k ≠ 1) : bld (instF args) (.mk k n nm ls xs) d = .mk k n nm ls (bldL (instF args) k xs 0 d) := bld_stay (instF_no fun e => h e.1)

/-! how often a variable is used -/
end Go.Proofs.YtahdkhklngjmoaaGreatDoor

/-
  Constants abstracted, and replaced, in plain words (bind). No condition.
-/
namespace Go.Proofs.YtahdkhklngjmoaaGreatDoor
open Go.RowKit

/-! where a text stands -/
theorem stAtI_spec {nms : List (List UInt8)} {nm : List UInt8} (h : 0 ≤ stAtI nms nm) : ∃ i : Nat, stAtI nms nm = i ∧ ∃ hi : i < nms.length, nms[i] = nm := by
  unfold stAtI at h ⊢
  cases hf : nms.findIdx? (fun x => decide (x = nm)) with
  | none => rw [hf] at h; simp at h
  | some i =>
    rw [List.findIdx?_eq_some_iff_getElem] at hf
    obtain ⟨hi, h1, _⟩ := hf
    exact ⟨i, rfl, hi, by simpa using h1⟩
theorem stAtI_none {nms : List (List UInt8)} {nm : List UInt8} (h : ¬0 ≤ stAtI nms nm) : nm ∉ nms := by
  unfold stAtI at h
  cases hf : nms.findIdx? (fun x => decide (x = nm)) with
  | some i => rw [hf] at h; exact absurd (by simp) h
  | none =>
    rw [List.findIdx?_eq_none_iff] at hf
    intro hm
    have := hf nm hm
    simp at this
/-! abstracted -/
theorem fit_mk {p v v' : Int} {k n : Int} {nm : List UInt8} {ls : List Lv} {xs ys : List Tm} (h : tmFit p (.mk k n nm ls xs) v = true) (hk : k ≠ 1) (hl : ys.length = xs.length) (hy : tmFitL p k ys 0 v' = true) : tmFit p (.mk k n nm ls ys) v' = true := by
  rw [tmFit, Bool.and_eq_true, Bool.and_eq_true] at h ⊢
  rw [hl, tmNode_k (v' := v) hk]
  exact ⟨h.1, hy⟩

/-! replaced -/

end Go.Proofs.YtahdkhklngjmoaaGreatDoor

/-
  A term's constants, in order; slices.Contains over texts; bind.Occurs. No condition.
-/
namespace Go.Proofs.YtahdkhklngjmoaaGreatDoor
open Go.RowKit

/-! a term's constants -/
end Go.Proofs.YtahdkhklngjmoaaGreatDoor

/-
  slices.Index, Contains over texts. No condition.
-/
namespace Go.Proofs.YtahdkhklngjmoaaGreatDoor
open Go.RowKit

theorem stAtI_hit {ss : List (List UInt8)} {s : List UInt8} {j : Nat} (h : j < ss.length) (he : ss[j] = s) (hn : s ∉ ss.take j) : stAtI ss s = j := by
  unfold stAtI
  have : ss.findIdx? (fun x => decide (x = s)) = some j := by
    rw [List.findIdx?_eq_some_iff_getElem]
    refine ⟨h, by simp [he], fun i hi => ?_⟩
    simp only [decide_eq_true_eq]
    intro e
    exact hn (List.mem_take_iff_getElem.2 ⟨i, by omega, e⟩)
  rw [this]
theorem stAtI_miss {ss : List (List UInt8)} {s : List UInt8} (hn : s ∉ ss) : stAtI ss s = -1 := by
  unfold stAtI
  have : ss.findIdx? (fun x => decide (x = s)) = none := by
    rw [List.findIdx?_eq_none_iff]
    intro x hx
    simp only [decide_eq_false_iff_not]
    rintro rfl
    exact hn hx
  rw [this]
set_option maxRecDepth 100000 in
theorem IndexS_con (o : Own) (ss : List (List UInt8)) (s : List UInt8) : Ans Tryz.prog 182 [.sl o 1 (ss.map .str), .str s] (.i (stAtI ss s)) := by
  intro H Q hq
  have hlen : (ss.map AV.str).length = ss.length := List.length_map _
  refine con_of_awp (esc := fun _ => false) tab_ok mixed Tryz.func182 rfl (ent Tryz.func182 (by kernel_rfl) rfl) (by kernel_rfl) ?_
  intro hw hn
  have hmax : ss.length ≤ 9223372036854775807 := by
    have := Wf.len (hw (.sl o 1 (ss.map .str)) (by simp))
    simpa using this
  clear hw hn
  refine ⟨Nat, fun j => ⟨[(0, .g (.sl o 1 (ss.map .str))), (1, .g (.str s)), (4, .g (.i 0)), (7, .g (.i ss.length)), (8, .g (.i j))], [], H⟩, fun j => j ≤ ss.length ∧ s ∉ ss.take j, fun j => ss.length - j, ⟨0, ⟨Nat.zero_le _, by simp⟩, ?_⟩, ?_⟩
  · (constructor <;> repeat' (first | exact trivial | exact ⟨rfl, rfl⟩ | exact ⟨rfl, LeL.refl _⟩ | exact Le.refl _ | exact List.Sublist.refl _ | (show Le (AV.i _) (AV.i _); rw [List.length_map]; exact Le.refl _) | refine And.intro ?_ ?_))
  · rintro j ⟨hj, hnot⟩
    refine ifB_dec (fun h1 => ?_) (fun h1 => ?_)
    · have hlt : j < ss.length := by omega
      refine ⟨j, rfl, .str ss[j], by simp [hlt], ?_⟩
      refine ifB_dec (fun h2 => ?_) (fun h2 => ?_)
      · exact ⟨_, H, ret_i (stAtI_hit hlt h2.symm hnot).symm, List.Sublist.refl _, hq⟩
      · refine ⟨in64_of (by first | omega | (dsimp only; omega)) (by first | omega | (dsimp only; omega)), ?_⟩
        refine ⟨j + 1, ⟨by omega, ?_⟩, by (try dsimp only); omega, ?_⟩
        · rw [List.take_succ_eq_append_getElem hlt]
          intro hm
          rcases List.mem_append.1 hm with hm | hm
          · exact hnot hm
          · exact h2 (List.mem_singleton.1 hm)
        · (constructor <;> repeat' (first | exact trivial | exact ⟨rfl, rfl⟩ | exact ⟨rfl, LeL.refl _⟩ | exact Le.refl _ | exact List.Sublist.refl _ | (show Le (AV.i _) (AV.i _); rw [List.length_map]; exact Le.refl _) | refine And.intro ?_ ?_))
    · have hj' : ss.length = j := by omega
      subst hj'
      rw [List.take_length] at hnot
      exact ⟨_, H, ret_i (stAtI_miss hnot).symm, List.Sublist.refl _, hq⟩
theorem stAtI_mem {ss : List (List UInt8)} {s : List UInt8} : decide (0 ≤ stAtI ss s) = decide (s ∈ ss) := by
  by_cases h : 0 ≤ stAtI ss s
  · obtain ⟨i, _, hi, he⟩ := stAtI_spec h
    rw [decide_eq_true h, decide_eq_true (he ▸ List.getElem_mem hi)]
  · rw [decide_eq_false h, decide_eq_false (stAtI_none h)]
set_option maxRecDepth 100000 in
theorem ContainsS_con (o : Own) (ss : List (List UInt8)) (s : List UInt8) : Ans Tryz.prog 165 [.sl o 1 (ss.map .str), .str s] (.b (decide (s ∈ ss))) := by
  intro H Q hq
  rw [← stAtI_mem] at hq
  refine con_of_awp (esc := fun _ => false) tab_ok mixed Tryz.func165 rfl (ent Tryz.func165 (by kernel_rfl) rfl) (by kernel_rfl) ?_
  intro hw hn
  refine ⟨_, LeL.refl _, IndexS_con o ss s _ _ ?_⟩
  intro hz1 hz2; clear hz1 hz2
  refine ifB_dec (fun h1 => ?_) (fun h1 => ?_)
  · exact ⟨_, H, ret_b (by rw [decide_eq_true h1]), List.Sublist.refl _, hq⟩
  · exact ⟨_, H, ret_b (by rw [decide_eq_false h1]), List.Sublist.refl _, hq⟩
end Go.Proofs.YtahdkhklngjmoaaGreatDoor

/-
  Terms made anew with so many nodes at most, in plain words (bind). No condition.
-/
namespace Go.Proofs.YtahdkhklngjmoaaGreatDoor
open Go.RowKit

section
variable {σ : Type} (f : Leaf) (st : σ → Tm → Int → σ)
/-- how many nodes, as far as they are counted -/
def nodesI (t : Tm) : Int := ((min t.nodes 2001 : Nat) : Int)
mutual
/-- a term made anew, what is left of the nodes, and what the leaves' function has noted -/
def btm : Tm → Int → Int × σ → Tm × Int × σ
  | .mk k n nm ls xs, d, w => if w.1 < 0 then (tm0, w) else match f (.mk k n nm ls xs) d with
    | some x => (x, w.1 - nodesI x, st w.2 (.mk k n nm ls xs) d)
    | none => match xs with
      | [] => (.mk k n nm ls [], w.1 - nodesI (.mk k n nm ls []), st w.2 (.mk k n nm ls []) d)
      | x :: ys => (.mk k 0 [] [] (btmL k (x :: ys) 0 d (w.1 - 1, st w.2 (.mk k n nm ls (x :: ys)) d)).1, (btmL k (x :: ys) 0 d (w.1 - 1, st w.2 (.mk k n nm ls (x :: ys)) d)).2)
def btmL (k : Int) : List Tm → Nat → Int → Int × σ → List Tm × Int × σ
  | [], _, _, w => ([], w)
  | t :: ts, i, d, w => ((btm t (if tmBind k i = true then d + 1 else d) w).1 :: (btmL k ts (i + 1) d (btm t (if tmBind k i = true then d + 1 else d) w).2).1, (btmL k ts (i + 1) d (btm t (if tmBind k i = true then d + 1 else d) w).2).2)
end
variable {f st}
theorem btm_stop {t : Tm} {d : Int} {w : Int × σ} (h : w.1 < 0) : btm f st t d w = (tm0, w) := by
  cases t with
  | mk k n nm ls xs => cases xs <;> rw [btm, if_pos h]
theorem btm_put {t x : Tm} {d : Int} {w : Int × σ} (h : ¬w.1 < 0) (hf : f t d = some x) : btm f st t d w = (x, w.1 - nodesI x, st w.2 t d) := by
  cases t with
  | mk k n nm ls xs => cases xs <;> rw [btm, if_neg h, hf]
theorem btm_leaf {t : Tm} {d : Int} {w : Int × σ} (h : ¬w.1 < 0) (hf : f t d = none) (ha : t.args = []) : btm f st t d w = (t, w.1 - nodesI t, st w.2 t d) := by
  cases t with
  | mk k n nm ls xs =>
    obtain rfl : xs = [] := ha
    rw [btm, if_neg h, hf]
theorem btm_in {t : Tm} {d : Int} {w : Int × σ} (h : ¬w.1 < 0) (hf : f t d = none) (ha : t.args ≠ []) : btm f st t d w = (.mk t.kind 0 [] [] (btmL f st t.kind t.args 0 d (w.1 - 1, st w.2 t d)).1, (btmL f st t.kind t.args 0 d (w.1 - 1, st w.2 t d)).2) := by
  cases t with
  | mk k n nm ls xs =>
    cases xs with
    | nil => exact absurd rfl ha
    | cons x xs => rw [btm, if_neg h, hf]; rfl
theorem btmL_len (k : Int) : ∀ (ts : List Tm) (i : Nat) (d : Int) (w : Int × σ), (btmL f st k ts i d w).1.length = ts.length
  | [], _, _, _ => by rw [btmL]
  | t :: ts, i, d, w => by rw [btmL, List.length_cons, List.length_cons, btmL_len k ts]
theorem btmL_snoc (k : Int) (t : Tm) : ∀ (ts : List Tm) (i : Nat) (d : Int) (w : Int × σ), btmL f st k (ts ++ [t]) i d w = ((btmL f st k ts i d w).1 ++ [(btm f st t (if tmBind k (i + ts.length) = true then d + 1 else d) (btmL f st k ts i d w).2).1], (btm f st t (if tmBind k (i + ts.length) = true then d + 1 else d) (btmL f st k ts i d w).2).2)
  | [], i, d, w => by simp only [List.nil_append, btmL, List.length_nil, Nat.add_zero]
  | x :: ts, i, d, w => by
    rw [List.cons_append, btmL, btmL_snoc k t ts (i + 1)]
    rw [btmL, List.length_cons, show i + 1 + ts.length = i + (ts.length + 1) by omega]
    rfl
theorem btmL_take {k : Int} {ts : List Tm} {d : Int} {w : Int × σ} {j : Nat} (h : j < ts.length) : btmL f st k (ts.take (j + 1)) 0 d w = ((btmL f st k (ts.take j) 0 d w).1 ++ [(btm f st ts[j] (if tmBind k j = true then d + 1 else d) (btmL f st k (ts.take j) 0 d w).2).1], (btm f st ts[j] (if tmBind k j = true then d + 1 else d) (btmL f st k (ts.take j) 0 d w).2).2) := by
  rw [List.take_succ_eq_append_getElem h, btmL_snoc]
  simp only [List.length_take, Nat.min_eq_left (Nat.le_of_lt h), Nat.zero_add]
theorem nodesI_le (t : Tm) : 1 ≤ nodesI t ∧ nodesI t ≤ 2001 := by
  have := t.nodes_pos
  unfold nodesI
  omega
mutual
theorem btm_bound : ∀ (t : Tm) (d : Int) (w : Int × σ), -2001 ≤ w.1 → -2001 ≤ (btm f st t d w).2.1 ∧ (btm f st t d w).2.1 ≤ w.1
  | .mk k n nm ls xs, d, w, h => by
    by_cases h0 : w.1 < 0
    · rw [btm_stop h0]; exact ⟨h, Int.le_refl _⟩
    · cases hf : f (.mk k n nm ls xs) d with
      | some x =>
        rw [btm_put h0 hf]
        have := nodesI_le x
        simp only
        omega
      | none =>
        by_cases ha : xs = []
        · rw [btm_leaf h0 hf ha]
          have := nodesI_le (.mk k n nm ls xs)
          simp only
          omega
        · rw [btm_in h0 hf ha]
          have := btmL_bound k xs 0 d (w.1 - 1, st w.2 (.mk k n nm ls xs) d) (by simp only; omega)
          simp only [Tm.kind, Tm.args] at this ⊢
          omega
theorem btmL_bound (k : Int) : ∀ (ts : List Tm) (i : Nat) (d : Int) (w : Int × σ), -2001 ≤ w.1 → -2001 ≤ (btmL f st k ts i d w).2.1 ∧ (btmL f st k ts i d w).2.1 ≤ w.1
  | [], _, _, _, h => by rw [btmL]; exact ⟨h, Int.le_refl _⟩
  | t :: ts, i, d, w, h => by
    have h1 := btm_bound t (if tmBind k i = true then d + 1 else d) w h
    have h2 := btmL_bound k ts (i + 1) d _ h1.1
    rw [btmL]
    simp only
    omega
end
mutual
/-- where there are nodes enough, all is as it should be; where not, it is told -/
theorem btm_spec {p : Int} (hs : ∀ t d x, f t d = some x → x.nodes ≤ 2000) : ∀ (t : Tm) (d v : Int) (w : Int × σ), 0 ≤ w.1 → t.nodes ≤ 2000 → tmFit p t v = true →
    (((bld f t d).nodes : Int) ≤ w.1 → (btm f st t d w).1 = bld f t d ∧ (btm f st t d w).2.1 = w.1 - (bld f t d).nodes) ∧ (w.1 < (bld f t d).nodes → (btm f st t d w).2.1 < 0)
  | .mk k n nm ls xs, d, v, w, h, ht, hfit => by
    have h0 : ¬w.1 < 0 := by omega
    cases hf : f (.mk k n nm ls xs) d with
    | some x =>
      have := hs _ _ _ hf
      rw [bld_some hf, btm_put h0 hf]
      have : nodesI x = x.nodes := by unfold nodesI; omega
      simp only [this]
      exact ⟨fun _ => by simp, fun _ => by omega⟩
    | none =>
      by_cases ha : xs = []
      · subst ha
        rw [bld_stay hf, btm_leaf h0 hf rfl, bldL]
        have : nodesI (.mk k n nm ls []) = (Tm.mk k n nm ls []).nodes := by unfold nodesI; omega
        simp only [this]
        exact ⟨fun _ => by simp, fun _ => by omega⟩
      · obtain ⟨hn, hnm, hls⟩ := fit_inner hfit ha
        simp only [Tm.n, Tm.name, Tm.levels] at hn hnm hls
        subst hn hnm hls
        rw [bld_stay hf, btm_in h0 hf ha]
        have hnd : (Tm.mk k 0 [] [] (bldL f k xs 0 d)).nodes = 1 + Tm.nodesL (bldL f k xs 0 d) := by simp only [Tm.nodes, Lv.nodesL]; omega
        have hnt : (Tm.mk k 0 [] [] xs).nodes = 1 + Tm.nodesL xs := by simp only [Tm.nodes, Lv.nodesL]; omega
        have hw : (w.1 - 1, st w.2 (.mk k 0 [] [] xs) d).1 = w.1 - 1 := rfl
        have := btmL_spec hs k xs 0 d v (w.1 - 1, st w.2 (.mk k 0 [] [] xs) d) (by simp only; omega) (by omega) (fit_args hfit)
        simp only [Tm.kind, Tm.args] at this ⊢
        refine ⟨fun h1 => ?_, fun h1 => ?_⟩
        · have := this.1 (by omega) (by omega)
          refine ⟨by rw [this.1], by omega⟩
        · by_cases h2 : 0 ≤ w.1 - 1
          · exact this.2 h2 (by omega)
          · have hb := btmL_bound (f := f) (st := st) k xs 0 d (w.1 - 1, st w.2 (.mk k 0 [] [] xs) d) (by simp only; omega)
            simp only at hb
            omega
theorem btmL_spec {p : Int} (hs : ∀ t d x, f t d = some x → x.nodes ≤ 2000) (k : Int) : ∀ (ts : List Tm) (i : Nat) (d v : Int) (w : Int × σ), -2001 ≤ w.1 → Tm.nodesL ts ≤ 2000 → tmFitL p k ts i v = true →
    (0 ≤ w.1 → (Tm.nodesL (bldL f k ts i d) : Int) ≤ w.1 → (btmL f st k ts i d w).1 = bldL f k ts i d ∧ (btmL f st k ts i d w).2.1 = w.1 - Tm.nodesL (bldL f k ts i d)) ∧ (0 ≤ w.1 → w.1 < Tm.nodesL (bldL f k ts i d) → (btmL f st k ts i d w).2.1 < 0)
  | [], _, _, _, w, _, _, _ => by
    rw [bldL, btmL, Tm.nodesL]
    exact ⟨fun _ _ => ⟨rfl, by simp⟩, fun h1 h2 => by simp at h2; omega⟩
  | t :: ts, i, d, v, w, h, ht, hfit => by
    obtain ⟨f1, f2⟩ := fitL_cons hfit
    rw [Tm.nodesL] at ht
    rw [bldL, btmL, Tm.nodesL]
    obtain ⟨e, he⟩ : ∃ e, (if tmBind k i = true then d + 1 else d) = e := ⟨_, rfl⟩
    rw [he]
    have hb := btm_bound (f := f) (st := st) t e w h
    have hbL := btmL_bound (f := f) (st := st) k ts (i + 1) d (btm f st t e w).2 hb.1
    have h2 := btmL_spec hs k ts (i + 1) d v (btm f st t e w).2 hb.1 (by omega) f2
    simp only
    refine ⟨fun h0 h1 => ?_, fun h0 h1 => ?_⟩
    · have g := (btm_spec hs t e _ w h0 (by omega) f1).1 (by omega)
      have g2 := h2.1 (by omega) (by omega)
      exact ⟨by rw [g.1, g2.1], by omega⟩
    · have g := btm_spec hs t e _ w h0 (by omega) f1
      by_cases h3 : ((bld f t e).nodes : Int) ≤ w.1
      · have g1 := g.1 h3
        exact h2.2 (by omega) (by omega)
      · have g1 := g.2 (by omega)
        omega
end
mutual
/-- what each step keeps, all keep -/
theorem btm_J {J : Int × σ → Prop} (hJ : ∀ w t d l, J w → 0 ≤ w.1 → l ≤ w.1 - 1 → J (l, st w.2 t d)) : ∀ (t : Tm) (d : Int) (w : Int × σ), J w → J (btm f st t d w).2
  | .mk k n nm ls xs, d, w, h => by
    by_cases h0 : w.1 < 0
    · rw [btm_stop h0]; exact h
    · cases hf : f (.mk k n nm ls xs) d with
      | some x =>
        rw [btm_put h0 hf]
        have := nodesI_le x
        exact hJ _ _ _ _ h (by omega) (by omega)
      | none =>
        by_cases ha : xs = []
        · rw [btm_leaf h0 hf ha]
          have := nodesI_le (.mk k n nm ls xs)
          exact hJ _ _ _ _ h (by omega) (by omega)
        · rw [btm_in h0 hf ha]
          exact btmL_J hJ k xs 0 d (w.1 - 1, st w.2 (.mk k n nm ls xs) d) (hJ _ _ _ _ h (by omega) (by omega))
theorem btmL_J {J : Int × σ → Prop} (hJ : ∀ w t d l, J w → 0 ≤ w.1 → l ≤ w.1 - 1 → J (l, st w.2 t d)) (k : Int) : ∀ (ts : List Tm) (i : Nat) (d : Int) (w : Int × σ), J w → J (btmL f st k ts i d w).2
  | [], _, _, _, h => by rw [btmL]; exact h
  | t :: ts, i, d, w, h => by
    rw [btmL]
    exact btmL_J hJ k ts (i + 1) d _ (btm_J hJ t (if tmBind k i = true then d + 1 else d) w h)
end
end
section
variable {σ : Type} (st : σ → Tm → Int → σ)
variable {st} {f : Leaf}
end
end Go.Proofs.YtahdkhklngjmoaaGreatDoor

/-
  bind: build.done, build.term. No condition.
-/
namespace Go.Proofs.YtahdkhklngjmoaaGreatDoor
open Go.RowKit

def leafX : Option Tm → AV
  | some x => .tup [tmX x, .b true]
  | none => .tup [tmX tm0, .b false]
/-- a build stands in a heap -/
def Builds {σ : Type} (b : Nat) (fv : AV) (F : Int × σ → Heap) : Prop := ∀ (w : Int × σ) (l : Int), Heap.At b (.cells [fv, .i w.1]) (.cells [fv, .i l]) (F w) (F (l, w.2))
/-- what a leaves' function does -/
def LeafOk {σ : Type} (J : Int × σ → Prop) (g : FuncId) (caps : List AV) (f : Leaf) (st : σ → Tm → Int → σ) (F : Int × σ → Heap) : Prop :=
  ∀ (t : Tm) (d v : Int) (w : Int × σ) (G : Heap) (Q : AV → Heap → Prop), tmFit 4 t v = true → v ≤ 1125899906844700 → 0 ≤ d → d ≤ 2001 → t.nodes ≤ 2000 → 0 ≤ w.1 → J w → Q (leafX (f t d)) (G ++ F (w.1, st w.2 t d)) → Con Tryz.prog g ([tmX t, .i d] ++ caps) (G ++ F w) Q
theorem Builds.on {σ : Type} {b : Nat} {fv : AV} {F : Int × σ → Heap} (h : Builds b fv F) (G : Heap) : Builds b fv (fun w => G ++ F w) := fun w l => At.after (h w l) G
theorem Builds.mem {σ : Type} {b : Nat} {fv : AV} {F : Int × σ → Heap} (h : Builds b fv F) (w : Int × σ) : (b, .cells [fv, .i w.1]) ∈ F w := (h w 0).mem

theorem le22 : 2 ≤ 2 := by decide
set_option maxRecDepth 100000 in
theorem binner_con (k : Int) (i : Nat) (deep : Int) (h : in64 (deep + 1)) : Ans Tryz.prog 179 [.i k, .i i, .i deep] (.i (if tmBind k i = true then deep + 1 else deep)) := by
  intro H Q hq
  have yes : tmBind k i = true → ∃ r H', Le (.i (deep + 1)) r ∧ List.Sublist H' H ∧ Q r H' := fun h => by
    rw [if_pos h] at hq
    exact ⟨_, H, Le.refl _, List.Sublist.refl _, hq⟩
  have no : tmBind k i = false → ∃ r H', Le (.i deep) r ∧ List.Sublist H' H ∧ Q r H' := fun h => by
    rw [if_neg (by rw [h]; decide)] at hq
    exact ⟨_, H, Le.refl _, List.Sublist.refl _, hq⟩
  refine con_of_awp (esc := fun _ => false) tab_ok mixed Tryz.func179 rfl (ent Tryz.func179 (by kernel_rfl) rfl) (by kernel_rfl) ?_
  intro hw hn
  clear hw hn
  refine ifB_dec (fun h1 => ?_) (fun h1 => ?_)
  · refine ifB_dec (fun h2 => ?_) (fun h2 => ?_)
    · have : i = 1 := by omega
      exact ⟨h, yes (by subst h1; subst this; rfl)⟩
    · refine ifB_dec (fun h3 => ?_) (fun h3 => ?_)
      · omega
      · exact no (by subst h1; simp [tmBind]; omega)
  · refine ifB_dec (fun h2 => ?_) (fun h2 => ?_)
    · refine ifB_dec (fun h3 => ?_) (fun h3 => ?_)
      · have : i = 1 := by omega
        exact ⟨h, yes (by subst h2; subst this; rfl)⟩
      · refine ifB_dec (fun h4 => ?_) (fun h4 => ?_)
        · omega
        · exact no (by subst h2; simp [tmBind]; omega)
    · refine ifB_dec (fun h3 => ?_) (fun h3 => ?_)
      · refine ifB_dec (fun h4 => ?_) (fun h4 => ?_)
        · have : i = 2 := by omega
          exact ⟨h, yes (by subst h3; subst this; rfl)⟩
        · exact no (by subst h3; simp [tmBind]; omega)
      · exact no (by simp [tmBind, h1, h2, h3])
set_option maxRecDepth 100000 in
theorem bright_con (t : Tm) : Ans Tryz.prog 131 [tmX t] (.b (tmRight 4 1125899906842624 t)) := by
  intro H Q hq
  refine con_of_awp (esc := fun _ => false) tab_ok mixed Tryz.func131 rfl (ent Tryz.func131 (by kernel_rfl) rfl) (by kernel_rfl) ?_
  intro hw hn
  refine ⟨_, LeL.refl _, tmRight_con 4 1125899906842624 t _ _ ?_⟩
  intro hz1 hz2; clear hz1 hz2
  exact ⟨_, H, Le.refl _, List.Sublist.refl _, hq⟩
set_option maxRecDepth 100000 in
theorem bwrong_con (t : Tm) : Ans Tryz.prog 132 [tmX t] (.b (!tmRight 4 1125899906842624 t)) := by
  intro H Q hq
  refine con_of_awp (esc := fun _ => false) tab_ok mixed Tryz.func132 rfl (ent Tryz.func132 (by kernel_rfl) rfl) (by kernel_rfl) ?_
  intro hw hn
  refine ⟨_, LeL.refl _, bright_con t _ _ ?_⟩
  intro hz1 hz2; clear hz1 hz2
  exact ⟨_, H, Le.refl _, List.Sublist.refl _, hq⟩
set_option maxRecDepth 100000 in
theorem done_con {σ : Type} {b : Nat} {fv : AV} {F : Int × σ → Heap} (hF : Builds b fv F) (x : Tm) (w : Int × σ) (h0 : -2001 ≤ w.1) (h1 : w.1 ≤ 2000) (G : Heap) (Q : AV → Heap → Prop) (hq : Q (tmX x) (G ++ F (w.1 - nodesI x, w.2))) :
    Con Tryz.prog 178 [.ptr b 0, tmX x] (G ++ F w) Q := by
  have hx := nodesI_le x
  have hG := hF.on G
  have hin := hG.mem w
  refine con_of_awp (esc := fun _ => false) tab_ok mixed Tryz.func178 rfl (ent Tryz.func178 (by kernel_rfl) rfl) (by kernel_rfl) ?_
  intro hw hn
  refine ⟨[0, 1, 2, 3, 4, 5, 6, 7, 8, 9], [(b, .cells [fv, .i w.1])], by kernel_rfl, pin1 hin, ?_⟩
  refine ⟨_, List.mem_singleton.2 rfl, ?_⟩
  refine ⟨_, LeL.refl _, tmNodes_con x _ _ ?_⟩
  intro hz1 hz2; clear hz1 hz2
  refine ⟨pin1 hin, ?_⟩
  refine ⟨in64_of (by first | omega | (dsimp only; omega)) (by first | omega | (dsimp only; omega)), ?_⟩
  refine ⟨_, _, hG w (w.1 - nodesI x), le22, ?_⟩
  refine keepP_t (by kernel_rfl) ?_
  exact ⟨_, _, Le.refl _, List.Sublist.refl _, hq⟩
theorem bufH_app (q : Option Cap) (G H : Heap) : bufH q G ++ H = bufH q (G ++ H) := by cases q <;> rfl
set_option maxRecDepth 100000 in
set_option maxHeartbeats 2000000 in
theorem bterm_con {σ : Type} {b : Nat} {g : FuncId} {caps : List AV} {f : Leaf} {st : σ → Tm → Int → σ} {F : Int × σ → Heap} (hF : Builds b (.fn (.func g) caps) F) {J : Int × σ → Prop} (hJ : ∀ w t d l, J w → 0 ≤ w.1 → l ≤ w.1 - 1 → J (l, st w.2 t d)) (hL : LeafOk J g caps f st F) : ∀ (N : Nat) (t : Tm) (d v : Int) (w : Int × σ) (G : Heap) (Q : AV → Heap → Prop), t.nodes ≤ N → N ≤ 2000 → tmFit 4 t v = true → v + N ≤ 1125899906844700 → 0 ≤ d → d + N ≤ 2001 → -2001 ≤ w.1 → w.1 ≤ 2000 → J w →
    Q (tmX (btm f st t d w).1) (G ++ F (btm f st t d w).2) → Con Tryz.prog 161 [.ptr b 0, tmX t, .i d] (G ++ F w) Q := by
  intro N
  induction N with
  | zero => intro t d v w G Q h; have := t.nodes_pos; omega
  | succ N ih =>
    intro t d v w G Q hN hN2 hfit hv hd0 hd1 hw0 hw1 hj hq
    have hnd := t.nodes_eq
    have htl := tmLen_nodes t.args
    have hfl := tmFit_argL hfit
    have hG := hF.on G
    have hin := hG.mem w
    obtain ⟨s1, hs1⟩ : ∃ s1, st w.2 t d = s1 := ⟨_, rfl⟩
    have hin1 := hG.mem (w.1, s1)
    have hleaf := hL t d v w G
    rw [hs1] at hleaf
    obtain ⟨r, hr⟩ : ∃ r, btm f st t d w = r := ⟨_, rfl⟩
    rw [hr] at hq
    obtain ⟨fx, hfx⟩ : ∃ fx, f t d = fx := ⟨_, rfl⟩
    rw [hfx] at hleaf
    refine con_of_awp (esc := fun _ => false) tab_ok mixed Tryz.func161 rfl (ent Tryz.func161 (by kernel_rfl) rfl) (by kernel_rfl) ?_
    intro hw hn
    clear hw hn
    refine ⟨_, hin, ?_⟩
    refine ifB_dec (fun h1 => ?_) (fun h1 => ?_)
    · rw [btm_stop h1] at hr
      subst hr
      exact ⟨_, _, le_tm0, List.Sublist.refl _, hq⟩
    · refine ⟨[0, 1, 2, 3, 4, 5, 10, 6, 7, 8, 9, 11, 12], [(b, .cells [.fn (.func g) caps, .i w.1])], by kernel_rfl, pin1 hin, ?_⟩
      refine ⟨_, List.mem_singleton.2 rfl, ?_⟩
      refine ⟨pin1 hin, ?_⟩
      refine ⟨_, LeL.refl _, hleaf _ hfit (by omega) hd0 (by omega) (by omega) (by omega) hj ?_⟩
      intro hz1 hz2; clear hz1 hz2
      cases fx with
      | some x =>
        rw [btm_put h1 hfx, hs1] at hr
        subst hr
        refine ⟨pin1 hin1, ?_⟩
        refine ⟨_, LeL.refl _, done_con hF x (w.1, s1) hw0 hw1 G _ ?_⟩
        intro hz1 hz2; clear hz1 hz2
        exact ⟨_, _, Le.refl _, List.Sublist.refl _, hq⟩
      | none =>
        refine ⟨pin1 hin1, ?_⟩
        refine ifB_dec (fun h2 => ?_) (fun h2 => ?_)
        · have ha : t.args = [] := List.eq_nil_of_length_eq_zero (by simpa using h2)
          rw [btm_leaf h1 hfx ha, hs1] at hr
          subst hr
          refine ⟨[tmX t, .sl .full 5 (([] : List Tm).map tmA)], ⟨Le.refl _, Le.nil' _, trivial⟩, App_con .full t [] (by omega) (by simp) (by simp) _ _ ?_⟩
          intro hz1 hz2; clear hz1 hz2
          refine ⟨_, LeL.refl _, done_con hF t (w.1, s1) hw0 hw1 G _ ?_⟩
          intro hz1 hz2; clear hz1 hz2
          exact ⟨_, _, Le.refl _, List.Sublist.refl _, hq⟩
        · have ha : t.args ≠ [] := fun e => h2 (by rw [e]; rfl)
          rw [btm_in h1 hfx ha, hs1] at hr
          subst hr
          refine ⟨_, hin1, ?_⟩
          refine ⟨in64_of (by first | omega | (dsimp only; omega)) (by first | omega | (dsimp only; omega)), ?_⟩
          refine ⟨_, _, hG (w.1, s1) (w.1 - 1), le22, ?_⟩
          refine ⟨Option Cap × Nat, fun p => ⟨[(0, .g (.ptr b 0)), (2, .g (.i d)), (4, .lp 4 0), (6, .lp 6 0), (9, .lp 9 0), (51, .g (.sl .no 5 (t.args.map tmA))), (52, .g (.i t.args.length)), (53, .g (.i p.2))], [(9, [.i t.kind, .i 0, .str [], .sl .full 0 [], .sl (ownQ p.1) 5 ((btmL f st t.kind (t.args.take p.2) 0 d (w.1 - 1, s1)).1.map tmA)]), (7, (tmX tm0).cells), (6, [.i 0, .i 0, .str [], .sl .full 0 [], .sl .full 0 []]), (4, (tmX t).cells)], bufH p.1 G ++ F (btmL f st t.kind (t.args.take p.2) 0 d (w.1 - 1, s1)).2⟩,
            fun q => q.2 ≤ t.args.length ∧ tmFitL 4 t.kind (t.args.drop q.2) q.2 v = true, fun q => t.args.length - q.2, ⟨(none, 0), ⟨Nat.zero_le _, hfl⟩, ?_⟩, ?_⟩
          · refine ⟨⟨Le.refl _, Le.refl _, ⟨rfl, rfl⟩, ⟨rfl, rfl⟩, ⟨rfl, rfl⟩, Le.refl _, le_of_eq ?_, Le.refl _, trivial⟩, ⟨⟨rfl, ⟨Le.refl _, Le.refl _, Le.refl _, Le.refl _, Le.nil' _, trivial⟩⟩, ⟨rfl, LeL.refl _⟩, ⟨rfl, LeL.refl _⟩, ⟨rfl, LeL.refl _⟩, trivial⟩, List.Sublist.refl _⟩
            show AV.i _ = AV.i _
            rw [List.length_map]
          · rintro ⟨q, j⟩ ⟨hjl, hft⟩
            simp only at hjl hft
            have hbd := btmL_bound (f := f) (st := st) t.kind (t.args.take j) 0 d (w.1 - 1, s1) (by simp only; omega)
            have hJj := btmL_J (f := f) (st := st) hJ t.kind (t.args.take j) 0 d (w.1 - 1, s1) (by rw [← hs1]; exact hJ w t d _ hj (by omega) (by omega))
            have hlenj := btmL_len (f := f) (st := st) t.kind (t.args.take j) 0 d (w.1 - 1, s1)
            refine ifB_dec (fun h3 => ?_) (fun h3 => ?_)
            · simp only at h3
              have hlt : j < t.args.length := by omega
              have hmem := Tm.nodesL_mem (List.getElem_mem hlt)
              rw [tmFitL_at hlt, Bool.and_eq_true] at hft
              have hd2 : 0 ≤ (if tmBind t.kind j = true then d + 1 else d) ∧ (if tmBind t.kind j = true then d + 1 else d) ≤ d + 1 := by split <;> omega
              have hv2 : (if tmBind t.kind j = true then v + 1 else v) ≤ v + 1 := by split <;> omega
              have htake := btmL_take (f := f) (st := st) (k := t.kind) (d := d) (w := (w.1 - 1, s1)) hlt
              obtain ⟨d2, hd2e⟩ : ∃ d2, (if tmBind t.kind j = true then d + 1 else d) = d2 := ⟨_, rfl⟩
              rw [hd2e] at htake hd2
              obtain ⟨acc, hacc⟩ : ∃ acc, btmL f st t.kind (t.args.take j) 0 d (w.1 - 1, s1) = acc := ⟨_, rfl⟩
              rw [hacc] at htake hbd hlenj hJj
              obtain ⟨z, hz⟩ : ∃ z, btm f st t.args[j] d2 acc.2 = z := ⟨_, rfl⟩
              rw [hz] at htake
              have hsn : acc.1.map tmA ++ [tmX z.1] = (btmL f st t.kind (t.args.take (j + 1)) 0 d (w.1 - 1, s1)).1.map tmA := by rw [htake, List.map_append, ← tmA_eq]; rfl
              have hnext : ∀ c' : Cap, Le (.sl (.own c') 5 (acc.1.map tmA ++ [tmX z.1])) (.sl (ownQ (some c')) 5 ((btmL f st t.kind (t.args.take (j + 1)) 0 d (w.1 - 1, s1)).1.map tmA)) := fun c' => by rw [hsn]; exact Le.refl _
              have hG2 : ∀ G' : Heap, G' ++ F (btmL f st t.kind (t.args.take (j + 1)) 0 d (w.1 - 1, s1)).2 = G' ++ F z.2 := fun G' => by rw [htake]
              have hlen2 : acc.1.length ≤ t.args.length := by rw [hlenj, List.length_take]; omega
              simp only [hacc]
              refine ⟨j, rfl, _, tmAt' hlt, ?_⟩
              refine ⟨[0, 1, 2, 3, 4, 5, 6, 7, 8, 9, 10, 11, 12, 13], [], by kernel_rfl, by simp, ?_⟩
              refine ⟨_, LeL.refl _, (binner_con t.kind j d (in64_of (by omega) (by omega))).to (by rw [hd2e]) _ _ ?_⟩
              intro hz1 hz2; clear hz1 hz2
              refine ⟨_, LeL.refl _, ih t.args[j] d2 (if tmBind t.kind j = true then v + 1 else v) acc.2 (bufH q G) _ (by omega) (by omega) hft.1 (by omega) hd2.1 (by omega) (by simp only at hbd; omega) (by simp only at hbd; omega) hJj ?_⟩
              rw [hz]
              intro hz1 hz2; clear hz1 hz2
              refine ⟨?_, ?_⟩
              · simp only [List.length_map, List.length_cons, List.length_nil]
                (first | refine Or.inl ?_ | skip)
                show _ * (80 + 1) ≤ _
                omega
              refine own_of (q := q) (H0 := G ++ F z.2) ?_ ?_ ?_ (fun c' hc => ?_)
              · exact bufH_app q G _
              · exact rfl
              · exact fun _ h => h
              refine ⟨in64_of (by first | omega | (dsimp only; omega)) (by first | omega | (dsimp only; omega)), ?_⟩
              exact ⟨(some c', j + 1), ⟨(by simp only; omega), hft.2⟩, by (try dsimp only); omega, ⟨⟨Le.refl _, Le.refl _, ⟨rfl, rfl⟩, ⟨rfl, rfl⟩, ⟨rfl, rfl⟩, Le.refl _, Le.refl _, Le.refl _, trivial⟩, ⟨⟨rfl, ⟨Le.refl _, Le.refl _, Le.refl _, Le.refl _, hnext c', trivial⟩⟩, ⟨rfl, LeL.refl _⟩, ⟨rfl, LeL.refl _⟩, ⟨rfl, LeL.refl _⟩, trivial⟩, sub_eq (congrArg (_ :: ·) (hG2 G))⟩⟩
            · simp only at h3
              have hj' : t.args.length = j := by omega
              subst hj'
              have hfin : Le (.agg [.i t.kind, .i 0, .str [], .sl .full 0 [], .sl (ownQ q) 5 ((btmL f st t.kind (t.args.take t.args.length) 0 d (w.1 - 1, s1)).1.map tmA)]) (tmX (.mk t.kind 0 [] [] (btmL f st t.kind (t.args.take t.args.length) 0 d (w.1 - 1, s1)).1)) :=
                Le.agg ⟨Le.refl _, Le.refl _, Le.refl _, Le.nil _ _, ownQ_le _ _ _, trivial⟩
              have hsub : List.Sublist (G ++ F (btmL f st t.kind (t.args.take t.args.length) 0 d (w.1 - 1, s1)).2) (bufH q G ++ F (btmL f st t.kind (t.args.take t.args.length) 0 d (w.1 - 1, s1)).2) := by rw [bufH_app]; exact bufH_sub q _
              exact ⟨_, _, hfin, hsub, by rw [List.take_length]; exact hq⟩
end Go.Proofs.YtahdkhklngjmoaaGreatDoor

/-
  bind: made, moved, raised, Lift. No condition.
-/
namespace Go.Proofs.YtahdkhklngjmoaaGreatDoor
open Go.RowKit

/-- what a leaves' function does, whatever stands ahead in the heap -/
def LeafS {σ : Type} (J : Int × σ → Prop) (g : FuncId) (caps : List AV) (f : Leaf) (st : σ → Tm → Int → σ) (H0 : σ → Heap) : Prop :=
  ∀ (t : Tm) (d v l : Int) (s : σ) (G : Heap) (Q : AV → Heap → Prop), tmFit 4 t v = true → v ≤ 1125899906844700 → 0 ≤ d → d ≤ 2001 → t.nodes ≤ 2000 → 0 ≤ l → J (l, s) → Q (leafX (f t d)) (G ++ H0 (st s t d)) → Con Tryz.prog g ([tmX t, .i d] ++ caps) (G ++ H0 s) Q
set_option maxRecDepth 100000 in
theorem LeafS.ok {σ : Type} {g : FuncId} {caps : List AV} {f : Leaf} {st : σ → Tm → Int → σ} {H0 : σ → Heap} {J : Int × σ → Prop} (h : LeafS J g caps f st H0) (b : Nat) (fv : AV) : LeafOk J g caps f st (fun w => (b, .cells [fv, .i w.1]) :: H0 w.2) := by
  intro t d v w G Q h1 h2 h3 h4 h5 h6 h7 hq
  have e : ∀ s, G ++ (b, .cells [fv, .i w.1]) :: H0 s = (G ++ [(b, .cells [fv, .i w.1])]) ++ H0 s := fun s => by simp
  have := h t d v w.1 w.2 (G ++ [(b, .cells [fv, .i w.1])]) Q h1 h2 h3 h4 h5 h6 h7
  rw [← e, ← e] at this
  exact this hq
def LeafA (g : FuncId) (caps : List AV) (f : Leaf) : Prop :=
  ∀ (t : Tm) (d v : Int), tmFit 4 t v = true → v ≤ 1125899906844700 → 0 ≤ d → d ≤ 2001 → t.nodes ≤ 2000 → Ans Tryz.prog g ([tmX t, .i d] ++ caps) (leafX (f t d))
set_option maxRecDepth 100000 in
theorem LeafA.s {g : FuncId} {caps : List AV} {f : Leaf} (h : LeafA g caps f) (H : Heap) : LeafS (fun _ => True) g caps f (fun (s : Unit) _ _ => s) (fun _ => H) :=
  fun t d v _ _ _ Q h1 h2 h3 h4 h5 _ _ hq => h t d v h1 h2 h3 h4 h5 _ Q hq
theorem builds_top {σ : Type} (b : Nat) (fv : AV) (H0 : σ → Heap) : Builds b fv (fun w : Int × σ => (b, .cells [fv, .i w.1]) :: H0 w.2) := fun _ _ => .here
theorem right_fit {p v : Int} {t : Tm} (h : tmRight p v t = true) : t.nodes ≤ 2000 ∧ tmFit p t (min v 1125899906842624) = true := by
  unfold tmRight at h
  simp only [Bool.and_eq_true, decide_eq_true_eq] at h
  exact ⟨h.1.2, h.2⟩
def madeX {σ : Type} (r : Tm × Int × σ) : AV := if r.2.1 < 0 then .tup [tmX tm0, .b false] else .tup [tmX r.1, .b true]
set_option maxRecDepth 100000 in
theorem bmade_con {σ : Type} {g : FuncId} {caps : List AV} {f : Leaf} {st : σ → Tm → Int → σ} {H0 : σ → Heap} {J : Int × σ → Prop} (hJ : ∀ w t d l, J w → 0 ≤ w.1 → l ≤ w.1 - 1 → J (l, st w.2 t d)) (hL : LeafS J g caps f st H0) (t : Tm) (ht : tmRight 4 1125899906842624 t = true) (s0 : σ) (hj : J (2000, s0)) (Q : AV → Heap → Prop)
    (hq : Q (madeX (btm f st t 0 (2000, s0))) (H0 (btm f st t 0 (2000, s0)).2.2)) : Con Tryz.prog 133 [tmX t, .fn (.func g) caps] (H0 s0) Q := by
  obtain ⟨hn1, hfit⟩ := right_fit ht
  obtain ⟨r, hr⟩ : ∃ r, btm f st t 0 (2000, s0) = r := ⟨_, rfl⟩
  rw [hr] at hq
  have hb := btm_bound (f := f) (st := st) t 0 (2000, s0) (by simp)
  rw [hr] at hb
  refine con_of_awp (esc := ([10].contains ·)) tab_ok mixed Tryz.func133 rfl (ent Tryz.func133 (by kernel_rfl) rfl) (by kernel_rfl) ?_
  intro hw hn b hb2
  have hT := bterm_con (builds_top b (.fn (.func g) caps) H0) hJ (hL.ok b (.fn (.func g) caps)) 2000 t 0 1125899906842624 (2000, s0) []
  rw [hr] at hT
  refine ⟨_, LeL.refl _, hT _ hn1 (by omega) (by simpa using hfit) (by omega) (by omega) (by omega) (by simp) (by simp) hj ?_⟩
  intro hz1 hz2; clear hz1 hz2
  refine ⟨_, List.mem_cons_self, ?_⟩
  refine ifB_dec (fun h1 => ?_) (fun h1 => ?_)
  · refine ⟨_, _, ?_, List.sublist_cons_self _ _, hq⟩
    have hfin : Le (.tup [.agg [.i 0, .i 0, .str [], .sl .full 0 [], .sl .full 0 []], .b false]) (madeX r) := by
      unfold madeX
      rw [if_pos h1]
      exact Le.tup ⟨le_tm0, Le.refl _, trivial⟩
    exact hfin
  · refine ⟨_, _, ?_, List.sublist_cons_self _ _, hq⟩
    unfold madeX
    rw [if_neg h1]
    exact Le.refl _
/-- a term, if it has not too many nodes -/
def madeB (x : Tm) : Tm × Bool := if x.nodes ≤ 2000 then (x, true) else (tm0, false)
theorem madeX_eq {σ : Type} {f : Leaf} {st : σ → Tm → Int → σ} (hs : ∀ t d x, f t d = some x → x.nodes ≤ 2000) {t : Tm} (ht : tmRight 4 1125899906842624 t = true) (s0 : σ) : madeX (btm f st t 0 (2000, s0)) = .tup [tmX (madeB (bld f t 0)).1, .b (madeB (bld f t 0)).2] := by
  obtain ⟨h1, h2⟩ := right_fit ht
  obtain ⟨k1, k2⟩ := btm_spec (st := st) hs t 0 _ (2000, s0) (by simp) h1 h2
  unfold madeX madeB
  by_cases h : (bld f t 0).nodes ≤ 2000
  · obtain ⟨g1, g2⟩ := k1 (by simp only; omega)
    rw [if_neg (by rw [g2]; simp only; omega), if_pos h, g1]
  · rw [if_pos (k2 (by simp only; omega)), if_neg h]
set_option maxRecDepth 100000 in
theorem bmade_ans {g : FuncId} {caps : List AV} {f : Leaf} (hL : LeafA g caps f) (hs : ∀ t d x, f t d = some x → x.nodes ≤ 2000) (t : Tm) (ht : tmRight 4 1125899906842624 t = true) : Ans Tryz.prog 133 [tmX t, .fn (.func g) caps] (.tup [tmX (madeB (bld f t 0)).1, .b (madeB (bld f t 0)).2]) := by
  intro H Q hq
  refine bmade_con (fun _ _ _ _ _ _ _ => trivial) (LeafA.s hL H) t ht () trivial Q ?_
  rw [madeX_eq hs ht]
  exact hq

set_option maxRecDepth 100000 in
theorem moved_con (c from_ : Int) : Ans Tryz.prog 162 [.i c, .i from_] (.fn (.func 180) [.ip [.i from_], .ip [.i c]]) := by
  intro H Q hq
  refine Con.ice (Con.ice ?_)
  refine con_of_awp (esc := ([2,3].contains ·)) tab_ok mixed Tryz.func162 rfl (ent Tryz.func162 (by kernel_rfl) rfl) (by kernel_rfl) ?_
  intro hw hn b hb b2 hb2
  exact ⟨_, _, Le.refl _, List.Sublist.refl _, b2, [.i from_], (b, .cells [.i c]) :: H, .fn (.func 180) [.ip [.i from_], .ptr b 0], .here, fun M h => LeM.fn ⟨ptr_ice h, LeM.refl _, trivial⟩, b, [.i c], H, .fn (.func 180) [.ip [.i from_], .ip [.i c]], .here, fun M h => LeM.fn ⟨LeM.refl _, ptr_ice h, trivial⟩, hq⟩
theorem movedF_nodes {c from_ : Int} (t : Tm) (d : Int) (x : Tm) (h : movedF c from_ t d = some x) : x.nodes ≤ 2000 := by
  unfold movedF at h
  split at h
  · cases h; simp [Tm.nodes, Tm.nodesL, Lv.nodesL]
  · cases h
set_option maxRecDepth 100000 in
theorem moved1_con {c from_ : Int} (h0 : 0 ≤ c) (h1 : c ≤ 2000000) (h2 : 0 ≤ from_) (h3 : from_ ≤ 2000000) : LeafA 180 [.ip [.i from_], .ip [.i c]] (movedF c from_) := by
  intro t d v hfit hv hd0 hd1 hn H Q hq
  obtain ⟨fx, hfx⟩ : ∃ fx, movedF c from_ t d = fx := ⟨_, rfl⟩
  rw [hfx] at hq
  unfold movedF at hfx
  refine con_of_awp (esc := fun _ => false) tab_ok mixed Tryz.func180 rfl (ent Tryz.func180 (by kernel_rfl) rfl) (by kernel_rfl) ?_
  intro hw hnn
  clear hw hnn
  have no : ¬(t.kind = 1 ∧ from_ + d ≤ t.n) → ∃ r H', Le (.tup [.agg [.i 0, .i 0, .str [], .sl .full 0 [], .sl .full 0 []], .b false]) r ∧ List.Sublist H' H ∧ Q r H' := fun h => by
    rw [if_neg h] at hfx
    subst hfx
    exact ⟨.tup [tmX tm0, .b false], H, Le.tup ⟨le_tm0, Le.refl _, trivial⟩, List.Sublist.refl _, hq⟩
  refine ifB_dec (fun k1 => ?_) (fun k1 => ?_)
  · have hvn := tmFit_var hfit k1
    refine ⟨in64_of (by first | omega | (dsimp only; omega)) (by first | omega | (dsimp only; omega)), ?_⟩
    refine ifB_dec (fun k2 => ?_) (fun k2 => ?_)
    · exact no fun h => by omega
    · refine ⟨in64_of (by first | omega | (dsimp only; omega)) (by first | omega | (dsimp only; omega)), ?_⟩
      rw [if_pos ⟨k1, by omega⟩] at hfx
      subst hfx
      refine ⟨_, LeL.refl _, Var_con _ _ _ ?_⟩
      intro hz1 hz2; clear hz1 hz2
      exact ⟨_, H, Le.refl _, List.Sublist.refl _, hq⟩
  · exact no fun h => k1 h.1
set_option maxRecDepth 100000 in
theorem raised_con {t : Tm} (ht : tmRight 4 1125899906842624 t = true) {c : Int} (h0 : 0 ≤ c) (h1 : c ≤ 2000000) : Ans Tryz.prog 136 [tmX t, .i c] (tmX (tmLift c t 0)) := by
  intro H Q hq
  obtain ⟨hn1, hfit⟩ := right_fit ht
  have hb := bld_moved (c := c) (from_ := 0) t 0 _ hfit
  have hm := bmade_ans (moved1_con (from_ := 0) h0 h1 (by decide) (by decide)) movedF_nodes t ht
  rw [hb, Int.add_zero] at hm
  unfold madeB at hm
  rw [if_pos (by rw [tmLift_nodes]; exact hn1)] at hm
  refine con_of_awp (esc := fun _ => false) tab_ok mixed Tryz.func136 rfl (ent Tryz.func136 (by kernel_rfl) rfl) (by kernel_rfl) ?_
  intro hw hn
  refine ⟨[0, 1, 7, 2, 3, 4, 5, 6, 8, 9], [], by kernel_rfl, by simp, ?_⟩
  refine ⟨_, LeL.refl _, moved_con c 0 _ _ ?_⟩
  intro hz1 hz2; clear hz1 hz2
  refine ⟨_, LeL.refl _, hm _ _ ?_⟩
  intro hz1 hz2; clear hz1 hz2
  exact ⟨_, H, Le.refl _, List.Sublist.refl _, hq⟩
end Go.Proofs.YtahdkhklngjmoaaGreatDoor

/-
  bind: Inst, Replace. No condition.
-/
namespace Go.Proofs.YtahdkhklngjmoaaGreatDoor
open Go.RowKit

theorem tmFit_nvar {p v : Int} {t : Tm} (h : tmFit p t v = true) (hk : t.kind ≠ 1) : t.n = 0 := by
  rw [tmFit_eq, Bool.and_eq_true, Bool.and_eq_true] at h
  have h1 := h.1.1
  unfold tmNode at h1
  rw [if_neg hk] at h1
  repeat' split at h1
  all_goals first
    | (simp only [Bool.and_eq_true, decide_eq_true_eq] at h1; first | exact h1.1.1.1 | exact h1.1.1.1.1 | exact h1.1.1 | exact h1.1)
    | cases h1
theorem instF_nodes {args : List Tm} (ha : ∀ a ∈ args, tmRight 4 1125899906842624 a = true) (t : Tm) (d : Int) (x : Tm) (h : instF args t d = some x) : x.nodes ≤ 2000 := by
  unfold instF at h
  split at h
  · split at h
    · cases h; simp [Tm.nodes, Tm.nodesL, Lv.nodesL]
    · cases h
      rw [tmLift_nodes]
      by_cases hk : args.length - 1 - (t.n - d).toNat < args.length
      · rw [List.getD_eq_getElem?_getD, List.getElem?_eq_getElem hk]
        exact (right_fit (ha _ (List.getElem_mem hk))).1
      · rw [List.getD_eq_getElem?_getD, List.getElem?_eq_none (by omega)]
        simp [tm0, Tm.nodes, Tm.nodesL, Lv.nodesL]
  · cases h
set_option maxRecDepth 100000 in
set_option maxHeartbeats 1000000 in
theorem inst1_con {args : List Tm} {o : Own} {b6 b3 : Nat} {H0 : Heap} {n6 : Int} (ha : ∀ a ∈ args, tmRight 4 1125899906842624 a = true) (hl : args.length ≤ 1048576) (hn6 : n6 = args.length) (h6 : (b6, .cells [.i n6]) ∈ H0) (h3 : (b3, .cells [.sl o 5 (args.map tmA)]) ∈ H0) :
    LeafS (fun _ => True) 134 [.ptr b6 0, .ptr b3 0] (instF args) (fun (s : Unit) _ _ => s) (fun _ => H0) := by
  intro t d v _ s G Q hfit hv hd0 hd1 hn _ _ hq
  subst hn6
  have m6 : (b6, AObj.cells [.i args.length]) ∈ G ++ H0 := List.mem_append.2 (Or.inr h6)
  have m3 : (b3, AObj.cells [.sl o 5 (args.map tmA)]) ∈ G ++ H0 := List.mem_append.2 (Or.inr h3)
  clear h6 h3
  generalize G ++ H0 = H at *
  obtain ⟨fx, hfx⟩ : ∃ fx, instF args t d = fx := ⟨_, rfl⟩
  rw [hfx] at hq
  unfold instF at hfx
  have no : ¬(t.kind = 1 ∧ d ≤ t.n) → ∃ r H', Le (.tup [.agg [.i 0, .i 0, .str [], .sl .full 0 [], .sl .full 0 []], .b false]) r ∧ List.Sublist H' H ∧ Q r H' := fun h => by
    rw [if_neg h] at hfx
    subst hfx
    exact ⟨.tup [tmX tm0, .b false], H, Le.tup ⟨le_tm0, Le.refl _, trivial⟩, List.Sublist.refl _, hq⟩
  have hin : in64 (t.n - d) := by
    by_cases hk : t.kind = 1
    · have := tmFit_var hfit hk
      exact in64_of (by omega) (by omega)
    · have := tmFit_nvar hfit hk
      exact in64_of (by omega) (by omega)
  refine con_of_awp (esc := fun _ => false) tab_ok mixed Tryz.func134 rfl (ent Tryz.func134 (by kernel_rfl) rfl) (by kernel_rfl) ?_
  intro hw hnn
  clear hw hnn
  refine ⟨hin, ?_⟩
  refine ifB_dec (fun k1 => ?_) (fun k1 => ?_)
  · have hvn := tmFit_var hfit k1
    refine ifB_dec (fun k2 => ?_) (fun k2 => ?_)
    · exact no fun h => by omega
    · rw [if_pos ⟨k1, by omega⟩] at hfx
      refine ⟨_, m6, ?_⟩
      refine ifB_dec (fun k3 => ?_) (fun k3 => ?_)
      · rw [if_pos (by omega)] at hfx
        subst hfx
        refine ⟨_, m6, ?_⟩
        refine ⟨in64_of (by first | omega | (dsimp only; omega)) (by first | omega | (dsimp only; omega)), ?_⟩
        refine ⟨_, LeL.refl _, Var_con _ _ _ ?_⟩
        intro hz1 hz2; clear hz1 hz2
        exact ⟨_, H, Le.refl _, List.Sublist.refl _, hq⟩
      · rw [if_neg (by omega)] at hfx
        subst hfx
        have hk : args.length - 1 - (t.n - d).toNat < args.length := by omega
        rw [List.getD_eq_getElem?_getD, List.getElem?_eq_getElem hk] at hq
        refine ⟨_, m3, _, m6, ?_⟩
        refine ⟨in64_of (by first | omega | (dsimp only; omega)) (by first | omega | (dsimp only; omega)), ?_⟩
        refine ⟨in64_of (by first | omega | (dsimp only; omega)) (by first | omega | (dsimp only; omega)), ?_⟩
        refine ⟨args.length - 1 - (t.n - d).toNat, by omega, _, tmAt' hk, ?_⟩
        refine ⟨_, LeL.refl _, raised_con (ha _ (List.getElem_mem hk)) hd0 (by omega) _ _ ?_⟩
        intro hz1 hz2; clear hz1 hz2
        exact ⟨_, H, Le.refl _, List.Sublist.refl _, hq⟩
  · exact no fun h => k1 h.1
def bInst (t : Tm) (args : List Tm) : Tm × Bool := if tmRight 4 1125899906842624 t = true ∧ args.length ≤ 1048576 ∧ args.all (tmRight 4 1125899906842624) = true then madeB (bld (instF args) t 0) else (tm0, false)
set_option maxRecDepth 100000 in
set_option maxHeartbeats 1000000 in
theorem bInst_con (o : Own) (t : Tm) (args : List Tm) : Ans Tryz.prog 110 [tmX t, .sl o 5 (args.map tmA)] (.tup [tmX (bInst t args).1, .b (bInst t args).2]) := by
  intro H Q hq
  have hlen : (args.map tmA).length = args.length := List.length_map _
  have no : ¬(tmRight 4 1125899906842624 t = true ∧ args.length ≤ 1048576 ∧ args.all (tmRight 4 1125899906842624) = true) → ∀ b, ∃ r H', Le (.tup [.agg [.i 0, .i 0, .str [], .sl .full 0 [], .sl .full 0 []], .b false]) r ∧ List.Sublist H' ((b, .cells [.sl o 5 (args.map tmA)]) :: H) ∧ Q r H' := fun h b => by
    unfold bInst at hq
    rw [if_neg h] at hq
    exact ⟨.tup [tmX tm0, .b false], H, Le.tup ⟨le_tm0, Le.refl _, trivial⟩, List.sublist_cons_self _ _, hq⟩
  refine con_of_awp (esc := ([3,6].contains ·)) tab_ok mixed Tryz.func110 rfl (ent Tryz.func110 (by kernel_rfl) rfl) (by kernel_rfl) ?_
  intro hw hn b3 hb3
  clear hw hn
  by_cases h1 : tmRight 4 1125899906842624 t = true
  rotate_left
  · refine ⟨_, LeL.refl _, (bright_con t).no h1 _ _ ?_⟩
    intro hz1 hz2; clear hz1 hz2
    exact no (fun h => h1 h.1) _
  refine ⟨_, LeL.refl _, (bright_con t).yes h1 _ _ ?_⟩
  intro hz1 hz2; clear hz1 hz2
  refine ⟨_, List.mem_cons_self, ?_⟩
  refine ifB_dec (fun h2 => ?_) (fun h2 => ?_)
  · exact no (fun h => by have := h.2.1; omega) _
  have h2' : args.length ≤ 1048576 := by omega
  refine ⟨_, List.mem_cons_self, ?_⟩
  refine ⟨[.sl .no 5 (args.map tmA), .fn (.func 132) []], ⟨Le.own _ _ _, Le.refl _, trivial⟩, anyTm (p := fun t => !tmRight 4 1125899906842624 t) args _ (fun t _ Q hQ => bwrong_con t _ Q hQ) _ ?_⟩
  intro hz1 hz2; clear hz1 hz2
  obtain ⟨q3, h3⟩ : ∃ q, args.all (tmRight 4 1125899906842624) = q := ⟨_, rfl⟩
  have h3' : (args.any fun t => !tmRight 4 1125899906842624 t) = !q3 := by rw [← h3, List.not_all_eq_any_not]
  rw [h3']
  cases q3 with
  | false => exact no (fun h => by rw [h3] at h; exact absurd h.2.2 (by decide)) _
  | true =>
    have hall : ∀ t ∈ args, tmRight 4 1125899906842624 t = true := fun t ht => List.all_eq_true.1 h3 t ht
    unfold bInst at hq
    rw [if_pos ⟨h1, h2', h3⟩] at hq
    refine ⟨_, List.mem_cons_self, ?_⟩
    intro b6 hb6
    refine ⟨_, _, .here, Nat.le_refl _, ?_⟩
    have hm := bmade_con (fun _ _ _ _ _ _ _ => trivial) ((inst1_con (o := o) (b6 := b6) (b3 := b3) (H0 := (b6, .cells [.i (args.map tmA).length]) :: (b3, .cells [.sl o 5 (args.map tmA)]) :: H) hall h2' (by rw [hlen]) List.mem_cons_self (List.mem_cons_of_mem _ List.mem_cons_self))) t h1 () trivial 
    rw [madeX_eq (instF_nodes hall) h1] at hm
    refine ⟨_, LeL.refl _, hm _ ?_⟩
    intro hz1 hz2; clear hz1 hz2
    exact ⟨_, H, Le.refl _, (List.sublist_cons_self _ _).trans (List.sublist_cons_self _ _), hq⟩
end Go.Proofs.YtahdkhklngjmoaaGreatDoor

