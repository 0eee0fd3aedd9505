/-
  Texts put together: I1, I2, I3, I4, I5, I6, Lays8, I7, I8, I9, I10, I11, I12. No condition.
-/
import Derived.Test.YtahdkhklngjmoaaGreatDoorM17
import Derived.Test.YtahdkhklngjmoaaGreatDoorM18
import Derived.Test.YtahdkhklngjmoaaGreatDoorM16
import Derived.Test.YtahdkhklngjmoaaGreatDoorM12
import Derived.Test.YtahdkhklngjmoaaGreatDoorM6
import Derived.Shelf.Spec.SlicesGrow
import Derived.Ground.Names8Prog
/-
  Whnf, plain: a step, a head, a normal form, by ticks. No condition.
-/
namespace Go.Proofs.YtahdkhklngjmoaaGreatDoor
open Go.RowKit

/-- what is found: a reduction inside that can't go on, no step, a step -/
inductive Fd where
  | err (e : Int)
  | none
  | rx (k : Int) (u : Tm) (ok : Bool)
/-- a recursor's constructor -/
def wCtor (l : List En) (of : List (List UInt8)) (x : Tm) : Option En :=
  if (tmHead x).kind = 3 ∧ (tmHead x).name ∈ of then
    (let c := (envGet l (tmHead x).name).1
     if c.kind = 6 ∧ c.value.kind ≠ 0 ∧ ((tmArgs x).length : Int) = c.fixed + c.fields then some c else none)
  else none
/-- a recursor's step, when its major argument has been reduced -/
def wRule (c : Tm) (args : List Tm) (front major : Nat) (x : Tm) (ce : En) : Fd :=
  .rx 4 (tmAps (tmLv c.levels ce.value).1 (args.take front ++ (tmArgs x).drop ce.fixed.toNat ++ args.drop (major + 1))) (tmLv c.levels ce.value).2
def wIota (l : List En) (hd : Tm → Nat → Tm × Int × Nat) (c : Tm) (e : En) (args : List Tm) (n : Nat) : Fd × Nat :=
  let front := e.fixed.toNat + 1 + e.ctors.length
  let major := front + e.index.toNat
  match args[major]? with
  | none => (.none, n)
  | some a => match hd a n with
    | (x, err, n') => if err = 0 then (match wCtor l e.ctors x with
      | some ce => (wRule c args front major x ce, n')
      | none => (.none, n')) else (.err err, n')
def wConst (l : List En) (hd : Tm → Nat → Tm × Int × Nat) (c : Tm) (args : List Tm) (n : Nat) : Fd × Nat :=
  if (envGet l c.name).2 = true ∧ (c.levels.length : Int) = (envGet l c.name).1.params then
    (if (envGet l c.name).1.kind = 2 then (.rx 3 (tmAps (enValue (envGet l c.name).1 c.levels).1 args) (decide ((enValue (envGet l c.name).1 c.levels).2 = 0)), n)
     else if (envGet l c.name).1.kind = 7 then wIota l hd c (envGet l c.name).1 args n
     else (.none, n))
  else (.none, n)
def wFind (l : List En) (hd : Tm → Nat → Tm × Int × Nat) (t : Tm) (n : Nat) : Fd × Nat :=
  match (tmHead t).kind, (tmHead t).args, tmArgs t with
  | 5, [_, b], a :: ys => (.rx 1 (tmAps (bInst b [a]).1 ys) (bInst b [a]).2, n)
  | 7, [_, v, b], ys => (.rx 2 (tmAps (bInst b [v]).1 ys) (bInst b [v]).2, n)
  | 3, _, ys => wConst l hd (tmHead t) ys n
  | _, _, _ => (.none, n)
/-- a step: what it makes, its kind (0: none), or what went wrong; the ticks that are left -/
inductive Sp where
  | err (e : Int)
  | none
  | to (k : Int) (u : Tm)
def wDone (f : Fd × Nat) : Sp × Nat :=
  match f with
  | (.err e, n) => (.err e, n)
  | (.none, n) => (.none, n)
  | (.rx _ _ _, 0) => (.err 22, 0)
  | (.rx k u ok, n + 1) => if ok = true ∧ u.nodes ≤ 2000 then (.to k u, n) else (.err 15, n)
/-- a term's weak head normal form: the term, what went wrong, the ticks that are left -/
def wHead (l : List En) : Nat → Tm → Nat → Tm × Int × Nat
  | 0, t, n => (t, 0, n)
  | N + 1, t, n => match wDone (wFind l (wHead l N) t n) with
    | (.err e, n') => (tm0, e, n')
    | (.none, n') => (t, 0, n')
    | (.to _ u, n') => wHead l N u n'
/-- so many rounds are enough -/
def wTop (t : Tm) (n : Nat) : Nat := n * 2001 + t.nodes + 1
def wHd (l : List En) (t : Tm) (n : Nat) : Tm × Int × Nat := wHead l (wTop t n) t n
def wStep (l : List En) (t : Tm) (n : Nat) : Sp × Nat := wDone (wFind l (wHd l) t n)
/-- parts reduced from left to right -/
def wEach (f : Tm → Nat → Tm × Int × Nat) : List Tm → Nat → List Tm × Int × Nat
  | [], n => ([], 0, n)
  | t :: ts, n => match f t n with
    | (u, e, n') => if e = 0 then (match wEach f ts n' with
      | (us, e', n'') => (u :: us, e', n'')) else ([], e, n')
def wBuild (h : Tm) (xs ys : List Tm) (n : Nat) : Tm × Int × Nat :=
  if (tmAps (.mk h.kind h.n h.name h.levels xs) ys).nodes ≤ 2000 then (tmAps (.mk h.kind h.n h.name h.levels xs) ys, 0, n) else (tm0, 15, n)
def wNorm (l : List En) : Nat → Tm → Nat → Tm × Int × Nat
  | 0, t, n => (t, 0, n)
  | N + 1, t, n => match wHd l t n with
    | (w, e, n1) => if e = 0 then (match wEach (wNorm l N) (tmHead w).args n1 with
      | (xs, e2, n2) => if e2 = 0 then (match wEach (wNorm l N) (tmArgs w) n2 with
        | (ys, e3, n3) => if e3 = 0 then wBuild (tmHead w) xs ys n3 else (tm0, e3, n3)) else (tm0, e2, n2)) else (tm0, e, n1)
def wNf (l : List En) (t : Tm) (n : Nat) : Tm × Int × Nat := wNorm l (wTop t n) t n

/-! rounds enough -/
theorem tmArgs_nodes : ∀ (t a : Tm), a ∈ tmArgs t → a.nodes < t.nodes
  | .mk k n nm ls xs, a, h => by
    match xs, h with
    | [], h => simp [tmArgs] at h
    | [_], h => simp [tmArgs] at h
    | [f, b], h =>
      unfold tmArgs at h
      simp only at h
      by_cases hk : k = 4
      · rw [if_pos hk] at h
        have e : (Tm.mk k n nm ls [f, b]).nodes = Lv.nodesL ls + (f.nodes + (b.nodes + 0)) + 1 := (Tm.mk k n nm ls [f, b]).nodes_eq
        rcases List.mem_append.1 h with h | h
        · have := tmArgs_nodes f a h
          omega
        · rw [List.mem_singleton.1 h]
          omega
      · rw [if_neg hk] at h
        cases h
    | _ :: _ :: _ :: _, h => simp [tmArgs] at h
theorem tmHead_nodes : ∀ t : Tm, (tmHead t).nodes ≤ t.nodes
  | .mk k n nm ls xs => by
    match xs with
    | [] => exact Nat.le_refl _
    | [_] => exact Nat.le_refl _
    | [f, b] =>
      unfold tmHead
      simp only
      by_cases hk : k = 4
      · rw [if_pos hk]
        have e : (Tm.mk k n nm ls [f, b]).nodes = Lv.nodesL ls + (f.nodes + (b.nodes + 0)) + 1 := (Tm.mk k n nm ls [f, b]).nodes_eq
        have := tmHead_nodes f
        omega
      · rw [if_neg hk]
        exact Nat.le_refl _
    | _ :: _ :: _ :: _ => exact Nat.le_refl _
/-- what is found does not ask for more than the parts' heads -/
theorem wFind_congr {l : List En} {f g : Tm → Nat → Tm × Int × Nat} {t : Tm} {n : Nat} (h : ∀ a ∈ tmArgs t, f a n = g a n) : wFind l f t n = wFind l g t n := by
  have key : ∀ c e, wIota l f c e (tmArgs t) n = wIota l g c e (tmArgs t) n := fun c e => by
    unfold wIota
    simp only
    cases ha : (tmArgs t)[e.fixed.toNat + 1 + e.ctors.length + e.index.toNat]? with
    | none => rfl
    | some a => simp only; rw [h a (List.mem_of_getElem? ha)]
  have kc : ∀ c, wConst l f c (tmArgs t) n = wConst l g c (tmArgs t) n := fun c => by
    unfold wConst
    rw [key]
  unfold wFind
  split
  · rfl
  · rfl
  · exact kc _
  · rfl
/-- a step leaves no more ticks -/
def Keeps (f : Tm → Nat → Tm × Int × Nat) : Prop := ∀ t n, (f t n).2.2 ≤ n
theorem wFind_left {l : List En} {hd : Tm → Nat → Tm × Int × Nat} (h : Keeps hd) (t : Tm) (n : Nat) : (wFind l hd t n).2 ≤ n := by
  have hi : ∀ c e, (wIota l hd c e (tmArgs t) n).2 ≤ n := fun c e => by
    unfold wIota
    simp only
    cases (tmArgs t)[e.fixed.toNat + 1 + e.ctors.length + e.index.toNat]? with
    | none => exact Nat.le_refl _
    | some a =>
      have := h a n
      simp only
      split
      · split <;> exact this
      · exact this
  have hc : ∀ c, (wConst l hd c (tmArgs t) n).2 ≤ n := fun c => by
    unfold wConst
    split
    · split
      · exact Nat.le_refl _
      · split
        · exact hi _ _
        · exact Nat.le_refl _
    · exact Nat.le_refl _
  unfold wFind
  split
  · exact Nat.le_refl _
  · exact Nat.le_refl _
  · exact hc _
  · exact Nat.le_refl _
theorem wDone_left (f : Fd × Nat) : (wDone f).2 ≤ f.2 := by
  unfold wDone
  split
  · exact Nat.le_refl _
  · exact Nat.le_refl _
  · exact Nat.le_refl _
  · split <;> exact Nat.le_succ _
theorem wHead_left (l : List En) : ∀ N, Keeps (wHead l N)
  | 0, t, n => Nat.le_refl _
  | N + 1, t, n => by
    have h1 := wFind_left (l := l) (wHead_left l N) t n
    have h2 := wDone_left (wFind l (wHead l N) t n)
    rw [wHead]
    split
    · rename_i e n' he
      rw [he] at h2
      exact Nat.le_trans h2 h1
    · rename_i n' he
      rw [he] at h2
      exact Nat.le_trans h2 h1
    · rename_i k u n' he
      rw [he] at h2
      exact Nat.le_trans (wHead_left l N u n') (Nat.le_trans h2 h1)
/-- where a step is done a tick is taken, and what it makes is small -/
theorem wDone_to {f : Fd × Nat} {k : Int} {u : Tm} {n : Nat} (h : wDone f = (.to k u, n)) : n < f.2 ∧ u.nodes ≤ 2000 := by
  unfold wDone at h
  split at h
  · cases h
  · cases h
  · cases h
  · split at h
    · rename_i hk
      cases h
      exact ⟨Nat.lt_succ_self _, hk.2⟩
    · cases h
set_option maxRecDepth 100000 in
/-- rounds enough are enough -/
theorem wHead_enough (l : List En) : ∀ (N M : Nat) (t : Tm) (n : Nat), wTop t n ≤ N → wTop t n ≤ M → wHead l N t n = wHead l M t n := by
  intro N
  induction N using Nat.strongRecOn with
  | ind N ih =>
  intro M t n hN hM
  obtain ⟨N', rfl⟩ : ∃ N', N = N' + 1 := ⟨N - 1, by unfold wTop at hN; omega⟩
  obtain ⟨M', rfl⟩ : ∃ M', M = M' + 1 := ⟨M - 1, by unfold wTop at hM; omega⟩
  have hf : wFind l (wHead l N') t n = wFind l (wHead l M') t n := wFind_congr fun a ha => by
    have := tmArgs_nodes t a ha
    unfold wTop at hN hM
    exact ih N' (Nat.lt_succ_self _) M' a n (by unfold wTop; omega) (by unfold wTop; omega)
  rw [wHead, wHead, hf]
  cases hd : wDone (wFind l (wHead l M') t n) with
  | mk s n' =>
    cases s with
    | err e => rfl
    | none => rfl
    | to k u =>
      have h1 := wDone_to hd
      have h2 := wFind_left (l := l) (wHead_left l M') t n
      have h3 : n' * 2001 + 2001 ≤ n * 2001 := by
        have : n' + 1 ≤ n := by omega
        have := Nat.mul_le_mul_right 2001 this
        omega
      have h4 := h1.2
      clear hd hf h2 h1
      unfold wTop at hN hM
      have e1 : n' * 2001 + u.nodes + 1 ≤ N' := by omega
      have e2 : n' * 2001 + u.nodes + 1 ≤ M' := by omega
      exact ih N' (Nat.lt_succ_self _) M' u n' e1 e2
theorem wHead_hd (l : List En) {N : Nat} {t : Tm} {n : Nat} (h : wTop t n ≤ N) : wHead l N t n = wHd l t n := wHead_enough l N (wTop t n) t n h (Nat.le_refl (wTop t n))
/-- a head's rounds -/
theorem wHd_eq (l : List En) (t : Tm) (n : Nat) : wHd l t n = match wStep l t n with
    | (.err e, n') => (tm0, e, n')
    | (.none, n') => (t, 0, n')
    | (.to _ u, n') => wHd l u n' := by
  have hf : wFind l (wHead l (n * 2001 + t.nodes)) t n = wFind l (wHd l) t n := wFind_congr fun a ha => by
    have := tmArgs_nodes t a ha
    exact wHead_hd l (by unfold wTop; omega)
  unfold wStep
  show wHead l (n * 2001 + t.nodes + 1) t n = _
  rw [wHead, hf]
  cases hd : wDone (wFind l (wHd l) t n) with
  | mk s n' =>
    cases s with
    | err e => rfl
    | none => rfl
    | to k u =>
      have h1 := wDone_to hd
      have h2 := wFind_left (l := l) (wHead_left l (n * 2001 + t.nodes)) t n
      rw [hf] at h2
      have h3 : n' * 2001 + 2001 ≤ n * 2001 := by
        have : n' + 1 ≤ n := by omega
        have := Nat.mul_le_mul_right 2001 this
        omega
      exact wHead_hd l (by unfold wTop; omega)
end Go.Proofs.YtahdkhklngjmoaaGreatDoor

/-
  Whnf: runs: New, Env, Used, Left, Spend. No condition.
-/
namespace Go.Proofs.YtahdkhklngjmoaaGreatDoor
open Go.RowKit

theorem at_permW {b : Nat} {x y : AObj} {H R : Heap} (h : H.Perm ((b, x) :: R)) : ∃ H', Heap.At b x y H H' ∧ H'.Perm ((b, y) :: R) := by
  have hm : (b, x) ∈ H := h.mem_iff.2 List.mem_cons_self
  obtain ⟨A, B, rfl⟩ := List.append_of_mem hm
  refine ⟨A ++ (b, y) :: B, ?_, List.perm_middle.trans (List.Perm.cons _ (List.perm_middle.symm.trans h).cons_inv)⟩
  clear h hm
  induction A with
  | nil => exact .here
  | cons p A ih => exact .there ih
/-- a run in a heap -/
def HasW (rb : Nat) (ev : AV) (used left : Int) (X H : Heap) : Prop := H.Perm ((rb, .cells [ev, .i used, .i left]) :: X)
section
variable {rb : Nat} {ev : AV} {used left : Int} {X H : Heap} {Q : AV → Heap → Prop}
theorem HasW.mem (h : HasW rb ev used left X H) : (rb, AObj.cells [ev, .i used, .i left]) ∈ H := (show H.Perm _ from h).mem_iff.2 List.mem_cons_self
set_option maxRecDepth 100000 in
theorem wUsed_con (h : HasW rb ev used left X H) (hq : Q (.i used) H) : Con Tryz.prog 20 [.ptr rb 0] H Q := by
  refine con_of_awp (esc := fun _ => false) tab_ok mixed Tryz.func20 rfl (ent Tryz.func20 (by kernel_rfl) rfl) (by kernel_rfl) ?_
  intro hw hn
  clear hw hn
  refine ⟨_, h.mem, ?_⟩
  exact ⟨_, H, Le.refl _, List.Sublist.refl _, hq⟩
set_option maxRecDepth 100000 in
theorem wLeft_con (h : HasW rb ev used left X H) (hq : Q (.i left) H) : Con Tryz.prog 21 [.ptr rb 0] H Q := by
  refine con_of_awp (esc := fun _ => false) tab_ok mixed Tryz.func21 rfl (ent Tryz.func21 (by kernel_rfl) rfl) (by kernel_rfl) ?_
  intro hw hn
  clear hw hn
  refine ⟨_, h.mem, ?_⟩
  exact ⟨_, H, Le.refl _, List.Sublist.refl _, hq⟩
set_option maxRecDepth 100000 in
theorem wSpend_con (h : HasW rb ev used left X H) (n : Int) (hu : 0 ≤ used) (hu2 : used ≤ 1000000000) (hl2 : left ≤ 1000000000) (h0 : (n < 0 ∨ left < n) → Q (.b false) H) (h1 : 0 ≤ n → n ≤ left → ∀ H', HasW rb ev (used + n) (left - n) X H' → Q (.b true) H') : Con Tryz.prog 28 [.ptr rb 0, .i n] H Q := by
  refine con_of_awp (esc := fun _ => false) tab_ok mixed Tryz.func28 rfl (ent Tryz.func28 (by kernel_rfl) rfl) (by kernel_rfl) ?_
  intro hw hn
  clear hw hn
  refine ifB_dec (fun g1 => ?_) (fun g1 => ?_)
  · exact ⟨_, H, Le.refl _, List.Sublist.refl _, h0 (Or.inl g1)⟩
  · refine ⟨_, h.mem, ?_⟩
    refine ifB_dec (fun g2 => ?_) (fun g2 => ?_)
    · exact ⟨_, H, Le.refl _, List.Sublist.refl _, h0 (Or.inr g2)⟩
    · obtain ⟨H1, a1, p1⟩ := at_permW (y := .cells [ev, .i used, .i (left - n)]) h
      obtain ⟨H2, a2, p2⟩ := at_permW (y := .cells [ev, .i (used + n), .i (left - n)]) p1
      have g1 : ¬ n < 0 := g1
      have g2 : ¬ left < n := g2
      refine ⟨_, h.mem, ?_⟩
      refine ⟨in64_of (by first | omega | (dsimp only; omega)) (by first | omega | (dsimp only; omega)), ?_⟩
      refine ⟨_, _, a1, Nat.le_refl 3, ?_⟩
      refine ⟨_, p1.mem_iff.2 List.mem_cons_self, ?_⟩
      refine ⟨in64_of (by first | omega | (dsimp only; omega)) (by first | omega | (dsimp only; omega)), ?_⟩
      refine ⟨_, _, a2, Nat.le_succ 2, ?_⟩
      exact ⟨_, H2, Le.refl _, List.Sublist.refl _, h1 (by omega) (by omega) H2 p2⟩
end
set_option maxRecDepth 100000 in
theorem wNew_con {t : Tre} {l : List En} {n : Int} (h1 : 0 ≤ n) (h2 : n ≤ 1048576) {H : Heap} {Q : AV → Heap → Prop} (hq : ∀ rb H', HasW rb (envX t l) 0 n H H' → Q (.tup [.ptr rb 0, .i 0]) H') : Con Tryz.prog 32 [envX t l, .i n] H Q := by
  refine con_of_awp (esc := ([15].contains ·)) tab_ok mixed Tryz.func32 rfl (ent Tryz.func32 (by kernel_rfl) rfl) (by kernel_rfl) ?_
  intro hw hn
  clear hw hn
  refine ifB_f (show ¬ n < 0 by omega) ?_
  refine ifB_f (show ¬ 1048576 < n by omega) ?_
  intro rb hrb
  exact ⟨_, _, Le.refl _, List.Sublist.refl _, hq rb _ (List.Perm.refl _)⟩
end Go.Proofs.YtahdkhklngjmoaaGreatDoor

/-
  Whnf: the reference's and the law's small terms. No condition.
-/
namespace Go.Proofs.YtahdkhklngjmoaaGreatDoor
open Go.RowKit

def conT (nm : List UInt8) (ls : List Lv) : Tm := .mk 3 0 nm ls []
set_option maxRecDepth 100000 in
theorem constant13_con (o : Own) (nm : List UInt8) (ls : List Lv) : Ans Tryz.prog 33 [.str nm, .sl o 3 (ls.map lvA)] (tmX (conT nm ls)) := by
  intro H Q hq
  refine con_of_awp (esc := fun _ => false) tab_ok mixed Tryz.func33 rfl (ent Tryz.func33 (by kernel_rfl) rfl) (by kernel_rfl) ?_
  intro hw hn
  clear hw hn
  have hfin : Le (.agg [.i 3, .i 0, .str nm, .sl o 3 (ls.map lvA), .sl .full 0 []]) (tmX (conT nm ls)) := Le.agg ⟨Le.refl _, Le.refl _, Le.refl _, Le.own _ _ _, Le.nil _ _, trivial⟩
  exact ⟨_, H, hfin, List.Sublist.refl _, hq⟩
set_option maxRecDepth 100000 in
theorem constant13n_con (nm : List UInt8) : Ans Tryz.prog 33 [.str nm, .sl .full 0 []] (tmX (conT nm [])) := by
  intro H Q hq
  refine con_of_awp (esc := fun _ => false) tab_ok mixed Tryz.func33 rfl (ent Tryz.func33 (by kernel_rfl) rfl) (by kernel_rfl) ?_
  intro hw hn
  clear hw hn
  have hfin : Le (.agg [.i 3, .i 0, .str nm, .sl .full 0 [], .sl .full 0 []]) (tmX (conT nm [])) := Le.agg ⟨Le.refl _, Le.refl _, Le.refl _, Le.nil _ _, Le.nil _ _, trivial⟩
  exact ⟨_, H, hfin, List.Sublist.refl _, hq⟩
set_option maxRecDepth 100000 in
theorem variable13_con (n : Int) : Ans Tryz.prog 35 [.i n] (tmX (.mk 1 n [] [] [])) := by
  intro H Q hq
  refine con_of_awp (esc := fun _ => false) tab_ok mixed Tryz.func35 rfl (ent Tryz.func35 (by kernel_rfl) rfl) (by kernel_rfl) ?_
  intro hw hn
  clear hw hn
  have hfin : Le (.agg [.i 1, .i n, .str [], .sl .full 0 [], .sl .full 0 []]) (tmX (.mk 1 n [] [] [])) := Le.agg ⟨Le.refl _, Le.refl _, Le.refl _, Le.nil _ _, Le.nil _ _, trivial⟩
  exact ⟨_, H, hfin, List.Sublist.refl _, hq⟩
set_option maxRecDepth 100000 in
theorem lam13_con (a b : Tm) : Ans Tryz.prog 36 [tmX a, tmX b] (tmX (.mk 5 0 [] [] [a, b])) := by
  intro H Q hq
  refine con_of_awp (esc := fun _ => false) tab_ok mixed Tryz.func36 rfl (ent Tryz.func36 (by kernel_rfl) rfl) (by kernel_rfl) ?_
  intro hw hn
  clear hw hn
  exact ⟨_, H, le_parts 5 a b, List.Sublist.refl _, hq⟩
set_option maxRecDepth 100000 in
set_option maxHeartbeats 1000000 in
theorem apply13_con (o : Own) (f : Tm) (ts : List Tm) (hl : ts.length ≤ 1000000) : Ans Tryz.prog 34 [tmX f, .sl o 5 (ts.map tmA)] (tmX (tmAps f ts)) := by
  intro H Q hq
  have hln : (ts.map tmA).length = ts.length := List.length_map _
  refine con_of_awp (esc := fun _ => false) tab_ok mixed Tryz.func34 rfl (ent Tryz.func34 (by kernel_rfl) rfl) (by kernel_rfl) ?_
  intro hw hn
  clear hw hn
  refine ⟨Nat, fun j => ⟨[(1, .g (.sl o 5 (ts.map tmA))), (4, .lp 4 0), (5, .lp 5 0), (6, .g (.i j))], [(5, (tmX (tmAps f (ts.take j))).cells), (4, [.i 0, .i 0, .str [], .sl .full 0 [], .sl .full 0 []]), (2, (tmX f).cells)], H⟩, fun j => j ≤ ts.length, fun j => ts.length - j, ⟨0, Nat.zero_le _, ?_⟩, ?_⟩
  · exact ⟨⟨Le.refl _, ⟨rfl, rfl⟩, ⟨rfl, rfl⟩, Le.refl _, trivial⟩, ⟨⟨rfl, LeL.refl _⟩, ⟨rfl, LeL.refl _⟩, ⟨rfl, LeL.refl _⟩, trivial⟩, List.Sublist.refl _⟩
  · intro j hj
    refine ifB_dec (fun h1 => ?_) (fun h1 => ?_)
    · have hlt : j < ts.length := by
        have h1 : (j : Int) < ((ts.map tmA).length : Nat) := h1
        omega
      have hsn := tmAps_snoc (f := f) hlt
      have hle := le_parts 4 (tmAps f (ts.take j)) ts[j]
      refine ⟨[0, 1, 2, 3, 4, 5, 6, 7], [], by kernel_rfl, by simp, ?_⟩
      refine ⟨j, rfl, _, tmAt' hlt, ?_⟩
      refine ⟨in64_of (by first | omega | (dsimp only; omega)) (by first | omega | (dsimp only; omega)), ?_⟩
      refine ⟨j + 1, (by simp only; omega), by (try dsimp only); omega, ⟨⟨Le.refl _, ⟨rfl, rfl⟩, ⟨rfl, rfl⟩, Le.refl _, trivial⟩, ⟨⟨rfl, ?_⟩, ⟨rfl, LeL.refl _⟩, ⟨rfl, LeL.refl _⟩, trivial⟩, List.Sublist.refl _⟩⟩
      rw [hsn]
      exact ⟨Le.refl _, Le.refl _, Le.refl _, Le.nil _ _, (by
        show Le (.sl .full 5 [tmX (tmAps f (ts.take j)), tmX ts[j]]) (.sl .no 5 [tmA (tmAps f (ts.take j)), tmA ts[j]])
        rw [tmA_eq, tmA_eq]
        exact Le.own _ _ _), trivial⟩
    · have hje : j = ts.length := by
        have h1 : ¬ (j : Int) < ((ts.map tmA).length : Nat) := h1
        omega
      subst hje
      have htk : Le (tmX (tmAps f (ts.take ts.length))) (tmX (tmAps f ts)) := le_of_eq (by rw [List.take_length])
      exact ⟨_, H, htk, List.Sublist.refl _, hq⟩
def zeroT : Tm := conT [110, 97, 116, 46, 122, 101, 114, 111] []
def succT : Tm := conT [110, 97, 116, 46, 115, 117, 99, 99] []
def numT : Nat → Tm
  | 0 => zeroT
  | n + 1 => tmAps succT [numT n]
set_option maxRecDepth 100000 in
set_option maxHeartbeats 1000000 in
theorem num13_con (n : Nat) (hn : n ≤ 1000000) : Ans Tryz.prog 13 [.i (n : Nat)] (tmX (numT n)) := by
  intro H Q hq
  refine con_of_awp (esc := fun _ => false) tab_ok mixed Tryz.func13 rfl (ent Tryz.func13 (by kernel_rfl) rfl) (by kernel_rfl) ?_
  intro hw hn'
  clear hw hn'
  refine ⟨_, LeL.refl _, constant13n_con [110, 97, 116, 46, 122, 101, 114, 111] _ _ ?_⟩
  intro hz1 hz2; clear hz1 hz2
  refine ⟨Nat, fun j => ⟨[(0, .g (.i (n : Nat))), (2, .lp 2 0), (3, .lp 3 0), (4, .g (.i j))], [(3, (tmX (numT j)).cells), (2, [.i 0, .i 0, .str [], .sl .full 0 [], .sl .full 0 []])], H⟩, fun j => j ≤ n, fun j => n - j, ⟨0, Nat.zero_le _, ?_⟩, ?_⟩
  · exact ⟨⟨Le.refl _, ⟨rfl, rfl⟩, ⟨rfl, rfl⟩, Le.refl _, trivial⟩, ⟨⟨rfl, LeL.refl _⟩, ⟨rfl, LeL.refl _⟩, trivial⟩, List.Sublist.refl _⟩
  · intro j hj
    refine ifB_dec (fun h1 => ?_) (fun h1 => ?_)
    · have h1 : (j : Int) < (n : Nat) := h1
      have hle : Le (.sl .full 5 [tmX (numT j)]) (.sl .no 5 ([numT j].map tmA)) := Le.trans (Le.own _ _ _) (le_of_eq (by
        show AV.sl .no 5 [tmX (numT j)] = .sl .no 5 [tmA (numT j)]
        rw [tmA_eq]))
      refine ⟨[1, 2, 0, 3, 4], [], by kernel_rfl, by simp, ?_⟩
      refine ⟨_, LeL.refl _, constant13n_con [110, 97, 116, 46, 115, 117, 99, 99] _ _ ?_⟩
      intro hz1 hz2; clear hz1 hz2
      refine ⟨[tmX succT, .sl .no 5 ([numT j].map tmA)], ⟨Le.refl _, hle, trivial⟩, apply13_con .no succT [numT j] (show 1 ≤ 1000000 by decide) _ _ ?_⟩
      intro hz1 hz2; clear hz1 hz2
      refine ⟨in64_of (by first | omega | (dsimp only; omega)) (by first | omega | (dsimp only; omega)), ?_⟩
      refine ⟨j + 1, (by simp only; omega), by (try dsimp only); omega, ⟨⟨Le.refl _, ⟨rfl, rfl⟩, ⟨rfl, rfl⟩, Le.refl _, trivial⟩, ⟨⟨rfl, LeL.refl _⟩, ⟨rfl, LeL.refl _⟩, trivial⟩, List.Sublist.refl _⟩⟩
    · have h1 : ¬ (j : Int) < (n : Nat) := h1
      obtain rfl : n = j := by omega
      exact ⟨_, H, Le.refl _, List.Sublist.refl _, hq⟩
set_option maxRecDepth 100000 in
theorem of13_con (nm : List UInt8) (a b : Tm) : Ans Tryz.prog 12 [.str nm, tmX a, tmX b] (tmX (tmAps (conT nm []) [a, b])) := by
  intro H Q hq
  have hle : Le (.sl .full 5 [tmX a, tmX b]) (.sl .no 5 ([a, b].map tmA)) := Le.trans (Le.own _ _ _) (le_of_eq (by
    show AV.sl .no 5 [tmX a, tmX b] = .sl .no 5 [tmA a, tmA b]
    rw [tmA_eq, tmA_eq]))
  refine con_of_awp (esc := fun _ => false) tab_ok mixed Tryz.func12 rfl (ent Tryz.func12 (by kernel_rfl) rfl) (by kernel_rfl) ?_
  intro hw hn
  clear hw hn
  refine ⟨[0, 2, 3, 4, 1, 5, 6], [], by kernel_rfl, by simp, ?_⟩
  refine ⟨_, LeL.refl _, constant13n_con nm _ _ ?_⟩
  intro hz1 hz2; clear hz1 hz2
  refine ⟨[tmX (conT nm []), .sl .no 5 ([a, b].map tmA)], ⟨Le.refl _, hle, trivial⟩, apply13_con .no (conT nm []) [a, b] (show 2 ≤ 1000000 by decide) _ _ ?_⟩
  intro hz1 hz2; clear hz1 hz2
  exact ⟨_, H, Le.refl _, List.Sublist.refl _, hq⟩
end Go.Proofs.YtahdkhklngjmoaaGreatDoor

/-
  Whnf: the law's small terms. No condition.
-/
namespace Go.Proofs.YtahdkhklngjmoaaGreatDoor
open Go.RowKit

set_option maxRecDepth 100000 in
theorem constantL13_con (nm : List UInt8) : Ans Tryz.prog 26 [.str nm] (tmX (conT nm [])) := by
  intro H Q hq
  refine con_of_awp (esc := fun _ => false) tab_ok mixed Tryz.func26 rfl (ent Tryz.func26 (by kernel_rfl) rfl) (by kernel_rfl) ?_
  intro hw hn
  clear hw hn
  have hfin : Le (.agg [.i 3, .i 0, .str nm, .sl .full 0 [], .sl .full 0 []]) (tmX (conT nm [])) := Le.agg ⟨Le.refl _, Le.refl _, Le.refl _, Le.nil _ _, Le.nil _ _, trivial⟩
  exact ⟨_, H, hfin, List.Sublist.refl _, hq⟩
set_option maxRecDepth 100000 in
theorem variableL13_con (n : Int) : Ans Tryz.prog 27 [.i n] (tmX (.mk 1 n [] [] [])) := by
  intro H Q hq
  refine con_of_awp (esc := fun _ => false) tab_ok mixed Tryz.func27 rfl (ent Tryz.func27 (by kernel_rfl) rfl) (by kernel_rfl) ?_
  intro hw hn
  clear hw hn
  have hfin : Le (.agg [.i 1, .i n, .str [], .sl .full 0 [], .sl .full 0 []]) (tmX (.mk 1 n [] [] [])) := Le.agg ⟨Le.refl _, Le.refl _, Le.refl _, Le.nil _ _, Le.nil _ _, trivial⟩
  exact ⟨_, H, hfin, List.Sublist.refl _, hq⟩
set_option maxRecDepth 100000 in
theorem lamL13_con (a b : Tm) : Ans Tryz.prog 24 [tmX a, tmX b] (tmX (.mk 5 0 [] [] [a, b])) := by
  intro H Q hq
  refine con_of_awp (esc := fun _ => false) tab_ok mixed Tryz.func24 rfl (ent Tryz.func24 (by kernel_rfl) rfl) (by kernel_rfl) ?_
  intro hw hn
  clear hw hn
  exact ⟨_, H, le_parts 5 a b, List.Sublist.refl _, hq⟩
set_option maxRecDepth 100000 in
theorem appL13_con (a b : Tm) : Ans Tryz.prog 23 [tmX a, tmX b] (tmX (.mk 4 0 [] [] [a, b])) := by
  intro H Q hq
  refine con_of_awp (esc := fun _ => false) tab_ok mixed Tryz.func23 rfl (ent Tryz.func23 (by kernel_rfl) rfl) (by kernel_rfl) ?_
  intro hw hn
  clear hw hn
  exact ⟨_, H, le_parts 4 a b, List.Sublist.refl _, hq⟩
end Go.Proofs.YtahdkhklngjmoaaGreatDoor

/-
  Whnf: delta's value; a ctor's reading. No condition.
-/
namespace Go.Proofs.YtahdkhklngjmoaaGreatDoor
open Go.RowKit

set_option maxRecDepth 100000 in
theorem envValueW_con (t : Tre) (l : List En) (hp : Places t l) (x : List UInt8) (o : Own) (ls : List Lv) {e : En} (he : envGet l x = (e, true)) : Ans Tryz.prog 139 [envX t l, .str x, .sl o 3 (ls.map lvA)] (.tup [tmX (enValue e ls).1, .i (enValue e ls).2]) := by
  intro H Q hq
  refine con_of_awp (esc := fun _ => false) tab_ok mixed Tryz.func139 rfl (ent Tryz.func139 (by kernel_rfl) rfl) (by kernel_rfl) ?_
  intro hw hn
  clear hw hn
  refine ⟨_, LeL.refl _, envTell_con t l hp x o ls he (declValue_con o e ls) _ _ ?_⟩
  intro hz1 hz2; clear hz1 hz2
  exact ⟨_, H, Le.refl _, List.Sublist.refl _, hq⟩
end Go.Proofs.YtahdkhklngjmoaaGreatDoor

/-
  Whnf: need, small, caught, by. No condition.
-/
namespace Go.Proofs.YtahdkhklngjmoaaGreatDoor
open Go.RowKit

theorem perm_3 {α : Type _} {a b c : α} {l : List α} : List.Perm (a :: b :: c :: l) (b :: c :: a :: l) := (List.Perm.swap _ _ _).trans (List.Perm.cons _ (List.Perm.swap _ _ _))
theorem mem_of_eq {l l' : List Nat} {i : Nat} (h : l = l') (hi : i ∈ l) : i ∈ l' := h ▸ hi
/-- what a reduction panics with -/
def stuckV (e : Int) : Value := .iface 117 (.agg #[.int .i64 e])
section
variable {H : Heap} {Q : AV → Heap → Prop} {R : Value → Heap → Prop}
set_option maxRecDepth 100000 in
theorem wneed_con (q : Bool) (e : Int) (h1 : q = true → Q (.tup []) H) (h2 : q = false → R (stuckV e) H) : ConX Tryz.prog 60 [.b q, .i e] H Q R := by
  refine conX_of_awp (esc := fun _ => false) tab_ok mixed Tryz.func60 rfl (ent Tryz.func60 (by kernel_rfl) rfl) (by kernel_rfl) ?_
  intro hw hn
  clear hw hn
  cases q with
  | true => exact ⟨_, H, Le.refl _, List.Sublist.refl _, h1 rfl⟩
  | false => exact ⟨H, List.Sublist.refl _, h2 rfl⟩
set_option maxRecDepth 100000 in
theorem wsmall_con (t : Tm) (h1 : t.nodes ≤ 2000 → Q (tmX t) H) (h2 : ¬t.nodes ≤ 2000 → R (stuckV 15) H) : ConX Tryz.prog 62 [tmX t] H Q R := by
  refine conX_of_awp (esc := fun _ => false) tab_ok mixed Tryz.func62 rfl (ent Tryz.func62 (by kernel_rfl) rfl) (by kernel_rfl) ?_
  intro hw hn
  clear hw hn
  refine ⟨_, LeL.refl _, Con.x (tmNodes_con t _ _ ?_)⟩
  intro hz1 hz2; clear hz1 hz2
  refine ifB_dec (fun g1 => ?_) (fun g1 => ?_)
  · refine ⟨_, LeL.refl _, wneed_con true 15 (fun _ => ?_) nofun⟩
    intro hz1 hz2; clear hz1 hz2
    exact ⟨_, H, Le.refl _, List.Sublist.refl _, h1 (by omega)⟩
  · refine ⟨_, LeL.refl _, wneed_con false 15 nofun (fun _ => ⟨H, List.Sublist.refl _, h2 (by omega)⟩)⟩
end
/-- what a deferred call of by writes to: the term and the error that are answered -/
def HasBy (b6 b7 : Nat) (c6 : List AV) (c7 : AV) (X H : Heap) : Prop := H.Perm ((b7, .cells [c7]) :: (b6, .cells c6) :: X)
section
variable {b6 b7 : Nat} {c6 : List AV} {c7 : AV} {X H : Heap} {Q : AV → Heap → Prop}
set_option maxRecDepth 100000 in
theorem wcaught_nil (hq : Q (.tup []) H) : Con Tryz.prog 58 [.v .nilIface, .ptr b6 0, .ptr b7 0] H Q := by
  refine con_of_awp (esc := fun _ => false) tab_ok mixed Tryz.func58 rfl (ent Tryz.func58 (by kernel_rfl) rfl) (by kernel_rfl) ?_
  intro hw hn
  clear hw hn
  exact ⟨_, H, Le.refl _, List.Sublist.refl _, hq⟩
set_option maxRecDepth 100000 in
set_option maxHeartbeats 1000000 in
theorem wcaught_con (e : Int) (h : HasBy b6 b7 c6 c7 X H) (h6 : c6.length = 5) (hq : ∀ H', HasBy b6 b7 [.i 0, .i 0, .str [], .sl .full 0 [], .sl .full 0 []] (.i e) X H' → Q (.tup []) H') : Con Tryz.prog 58 [.v (stuckV e), .ptr b6 0, .ptr b7 0] H Q := by
  have hp : H.Perm ((b6, .cells c6) :: (b7, .cells [c7]) :: X) := h.trans (List.Perm.swap _ _ _)
  obtain ⟨H1, a1, p1⟩ := at_permW (y := .cells [.i 0, .i 0, .str [], .sl .full 0 [], .sl .full 0 []]) hp
  obtain ⟨H2, a2, p2⟩ := at_permW (y := .cells [.i e]) (p1.trans (List.Perm.swap _ _ _))
  have hput : putCells c6 0 [.i 0, .i 0, .str [], .sl .full 0 [], .sl .full 0 []] = [.i 0, .i 0, .str [], .sl .full 0 [], .sl .full 0 []] := by
    unfold putCells
    rw [List.drop_eq_nil_of_le (by rw [h6]; exact Nat.le_refl _)]
    rfl
  rw [← hput] at a1
  refine con_of_sem tab_ok Tryz.func58 rfl (ent Tryz.func58 (by kernel_rfl) rfl) (by kernel_rfl) ?_
  intro hw hn
  clear hw hn
  refine sem_seq (esc := fun _ => false) tab_ok mixed ?_
  refine sem_seq (esc := fun _ => false) tab_ok mixed ?_
  refine sem_seq (esc := fun _ => false) tab_ok mixed ?_
  refine sem_le ⟨[(1, .g (.ptr b6 0)), (2, .g (.ptr b7 0)), (6, .lp 6 0)], [(6, [.i e])], H⟩ ⟨⟨Le.refl _, Le.refl _, ⟨rfl, rfl⟩, trivial⟩, ⟨⟨rfl, LeL.refl _⟩, trivial⟩, List.Sublist.refl _⟩ ?_
  refine sem_any (esc := fun _ => false) tab_ok mixed [0, 1, 2, 5, 3] 4 [] (by kernel_rfl) (by kernel_rfl) (by kernel_rfl) (by simp) ?_
  intro K hK
  refine ⟨fun h => ?_, fun i hi => ?_⟩
  · exact absurd (h.symm.trans (show _ = [4, 6] by kernel_rfl)) (fun e => by cases e)
  have hi : i = 4 ∨ i = 6 := by simpa using mem_of_eq (show _ = [4, 6] by kernel_rfl) hi
  rcases hi with rfl | rfl
  · refine ⟨fun h => ?_, fun i hi => ?_⟩
    · exact absurd (h.symm.trans (show _ = [6] by kernel_rfl)) (fun e => by cases e)
    obtain rfl : i = 6 := by simpa using mem_of_eq (show _ = [6] by kernel_rfl) hi
    refine ⟨_, _, a1, by rw [h6]; exact Nat.le_refl _, ?_⟩
    refine ⟨fun h => ?_, fun i hi => ?_⟩
    · exact absurd (h.symm.trans (show _ = [7] by kernel_rfl)) (fun e => by cases e)
    obtain rfl : i = 7 := by simpa using mem_of_eq (show _ = [7] by kernel_rfl) hi
    refine ⟨fun h => ?_, fun i hi => ?_⟩
    · exact absurd (h.symm.trans (show _ = [8] by kernel_rfl)) (fun e => by cases e)
    obtain rfl : i = 8 := by simpa using mem_of_eq (show _ = [8] by kernel_rfl) hi
    refine ⟨_, _, a2, Nat.le_refl _, ?_⟩
    refine ⟨by kernel_rfl, hK _ ?_⟩
    exact ⟨_, _, Le.refl _, List.Sublist.refl _, hq _ p2⟩
  · refine ⟨_, _, a1, by rw [h6]; exact Nat.le_refl _, ?_⟩
    refine ⟨fun h => ?_, fun i hi => ?_⟩
    · exact absurd (h.symm.trans (show _ = [4] by kernel_rfl)) (fun e => by cases e)
    obtain rfl : i = 4 := by simpa using mem_of_eq (show _ = [4] by kernel_rfl) hi
    refine ⟨fun h => ?_, fun i hi => ?_⟩
    · exact absurd (h.symm.trans (show _ = [7] by kernel_rfl)) (fun e => by cases e)
    obtain rfl : i = 7 := by simpa using mem_of_eq (show _ = [7] by kernel_rfl) hi
    refine ⟨fun h => ?_, fun i hi => ?_⟩
    · exact absurd (h.symm.trans (show _ = [8] by kernel_rfl)) (fun e => by cases e)
    obtain rfl : i = 8 := by simpa using mem_of_eq (show _ = [8] by kernel_rfl) hi
    refine ⟨_, _, a2, Nat.le_refl _, ?_⟩
    refine ⟨by kernel_rfl, hK _ ?_⟩
    exact ⟨_, _, Le.refl _, List.Sublist.refl _, hq _ p2⟩
set_option maxRecDepth 100000 in
theorem by1_nil {R : Value → Heap → Prop} {Q : Heap → Prop} (hq : Q H) : DCon Tryz.prog 57 [.ptr b6 0, .ptr b7 0] H none Q R := by
  refine dcon_of_region (esc := fun _ => false) tab_ok Tryz.func57 rfl rfl rfl rfl rfl (by kernel_rfl) nofun ?_ ?_
  · intro o ho
    obtain rfl := List.mem_singleton.1 ho
    exact Or.inr ⟨_, _, _, rfl, ent Tryz.func58 (by kernel_rfl) rfl⟩
  · refine ⟨_, LeL.refl _, wcaught_nil ?_⟩
    intro hz1 hz2; clear hz1 hz2
    exact ⟨H, List.Sublist.refl _, hq⟩
set_option maxRecDepth 100000 in
theorem by1_con (e : Int) {R : Value → Heap → Prop} {Q : Heap → Prop} (h : HasBy b6 b7 c6 c7 X H) (h6 : c6.length = 5) (hq : ∀ H', HasBy b6 b7 [.i 0, .i 0, .str [], .sl .full 0 [], .sl .full 0 []] (.i e) X H' → Q H') : DCon Tryz.prog 57 [.ptr b6 0, .ptr b7 0] H (some (stuckV e)) Q R := by
  refine dcon_of_region (esc := fun _ => false) tab_ok Tryz.func57 rfl rfl rfl rfl rfl (by kernel_rfl) (fun v hv => by cases hv; rfl) ?_ ?_
  · intro o ho
    obtain rfl := List.mem_singleton.1 ho
    exact Or.inr ⟨_, _, _, rfl, ent Tryz.func58 (by kernel_rfl) rfl⟩
  · refine ⟨_, LeL.refl _, wcaught_con e h h6 fun H' h' => ?_⟩
    intro hz1 hz2; clear hz1 hz2
    exact ⟨H', List.Sublist.refl _, hq H' h'⟩
theorem HasBy.mem6 (h : HasBy b6 b7 c6 c7 X H) : (b6, AObj.cells c6) ∈ H := (show H.Perm _ from h).mem_iff.2 (List.mem_cons_of_mem _ List.mem_cons_self)
theorem HasBy.mem7 (h : HasBy b6 b7 c6 c7 X H) : (b7, AObj.cells [c7]) ∈ H := (show H.Perm _ from h).mem_iff.2 List.mem_cons_self
set_option maxRecDepth 100000 in
/-- what by answers stands in its two cells -/
theorem by_end {A : Heap} {r : AV} {x0 x1 x2 x3 x4 : AV} (h : HasBy b6 b7 [x0, x1, x2, x3, x4] c7 (A ++ X) H) (hr : Le (.tup [.agg [x0, x1, x2, x3, x4], c7]) r) {Q : AV → Heap → Prop} (hq : Q r X) : aretL tab ⟨[(6, .g (.ptr b6 0)), (7, .g (.ptr b7 0))], [], H⟩ Tryz.f37.results.toList (fun xs => ∃ r H2, Le (retAV xs) r ∧ List.Sublist H2 H ∧ ∃ H3 : Heap, H3.Perm H2 ∧ Q r H3) := by
  refine ⟨_, h.mem6, ?_⟩
  refine ⟨_, h.mem7, ?_⟩
  obtain ⟨H2, k1, k2⟩ := sub_of_perm (A := (b7, .cells [c7]) :: (b6, .cells [x0, x1, x2, x3, x4]) :: A) h
  exact ⟨r, H2, hr, k1, X, k2, hq⟩
theorem le_by0 (e : Int) : Le (.tup [.agg [.i 0, .i 0, .str [], .sl .full 0 [], .sl .full 0 []], .i e]) (.tup [tmX tm0, .i e]) := Le.tup ⟨le_tm0, Le.refl _, trivial⟩
set_option maxRecDepth 100000 in
theorem by_no {rb : Nat} (t : Tm) (w : AV) (hp : packOk t = false) (hq : Q (.tup [tmX tm0, .i 10]) H) : Con Tryz.prog 37 [.ptr rb 0, tmX t, w] H Q := by
  refine Con.permR (ConX.con ?_)
  refine conX_of_defer (esc := [6, 7].contains) tab_ok Tryz.func37 rfl (ent Tryz.func37 (by kernel_rfl) rfl) (by kernel_rfl) 1 rfl rfl rfl rfl (quiets (by kernel_rfl)) (quiets (by kernel_rfl)) 8 ?_
  intro hw hn b6 hb6 b7 hb7
  clear hw hn hb6 hb7
  refine ⟨_, _, [(6, .g (.ptr b6 0)), (7, .g (.ptr b7 0))], rfl, ent Tryz.func57 (by kernel_rfl) rfl, ?_⟩
  have hby : HasBy b6 b7 [.i 0, .i 0, .str [], .sl .full 0 [], .sl .full 0 []] (.i 0) H ((b7, .cells [.i 0]) :: (b6, .cells [.i 0, .i 0, .str [], .sl .full 0 [], .sl .full 0 []]) :: H) := List.Perm.refl _
  refine sem_of (esc := fun _ => false) tab_ok mixed ?_
  refine ⟨_, LeL.refl _, Con.x (packTerm_con t _ _ (fun _ => ?_) fun h0 => by rw [hp] at h0; cases h0)⟩
  intro hz1 hz2; clear hz1 hz2
  refine ⟨_, LeL.refl _, wneed_con false 10 nofun fun _ => ⟨fix2 rfl rfl, ?_⟩⟩
  refine by1_con 10 hby rfl fun H' h' => ?_
  exact by_end (A := []) h' (le_by0 10) hq
/-- what a reduction does, whatever stands ahead in the heap -/
def Redu (g : FuncId) (args : List AV) (H : Heap) (Q : AV → Heap → Prop) : Prop :=
  ∀ G : Heap, ConX Tryz.prog g args (G ++ H) (fun r H' => ∃ u H2, r = tmX u ∧ H'.Perm (G ++ H2) ∧ Q (.tup [tmX u, .i 0]) H2) fun v H' => ∃ e H2, v = stuckV e ∧ H'.Perm (G ++ H2) ∧ Q (.tup [tmX tm0, .i e]) H2
set_option maxRecDepth 100000 in
theorem by_clo {rb : Nat} (t : Tm) (g : FuncId) (caps : List AV) (hp : packOk t = true) (hcall : Redu g ([tmX t] ++ caps) H Q) : Con Tryz.prog 37 [.ptr rb 0, tmX t, .fn (.func g) caps] H Q := by
  refine Con.permR (ConX.con ?_)
  refine conX_of_defer (esc := [6, 7].contains) tab_ok Tryz.func37 rfl (ent Tryz.func37 (by kernel_rfl) rfl) (by kernel_rfl) 1 rfl rfl rfl rfl (quiets (by kernel_rfl)) (quiets (by kernel_rfl)) 8 ?_
  intro hw hn b6 hb6 b7 hb7
  clear hw hn hb6 hb7
  refine ⟨_, _, [(6, .g (.ptr b6 0)), (7, .g (.ptr b7 0))], rfl, ent Tryz.func57 (by kernel_rfl) rfl, ?_⟩
  have hby : HasBy b6 b7 [.i 0, .i 0, .str [], .sl .full 0 [], .sl .full 0 []] (.i 0) H ((b7, .cells [.i 0]) :: (b6, .cells [.i 0, .i 0, .str [], .sl .full 0 [], .sl .full 0 []]) :: H) := List.Perm.refl _
  refine sem_of (esc := fun _ => false) tab_ok mixed ?_
  refine ⟨_, LeL.refl _, Con.x (packTerm_yes hp fun c hc => ?_)⟩
  intro hz1 hz2; clear hz1 hz2
  refine ⟨_, LeL.refl _, wneed_con true 10 (fun _ => ?_) nofun⟩
  intro hz1 hz2; clear hz1 hz2
  refine ⟨_, LeL.refl _, (hcall [(c.b, .cap c), (b7, .cells [.i 0]), (b6, .cells [.i 0, .i 0, .str [], .sl .full 0 [], .sl .full 0 []])]).mono ?_ ?_⟩
  · rintro _ H1 ⟨u, H2, rfl, hp1, hq⟩
    intro hz1 hz2; clear hz1 hz2
    obtain ⟨H3, a3, p3⟩ := at_permW (y := .cells (tmX u).cells) (hp1.trans (show List.Perm _ ((b6, .cells [.i 0, .i 0, .str [], .sl .full 0 [], .sl .full 0 []]) :: (c.b, .cap c) :: (b7, .cells [.i 0]) :: H2) from List.perm_middle (l₁ := ([(c.b, .cap c), (b7, .cells [.i 0])] : Heap))))
    obtain ⟨H4, a4, p4⟩ := at_permW (y := .cells [.i 0]) (p3.trans (show List.Perm _ ((b7, .cells [.i 0]) :: (b6, .cells (tmX u).cells) :: (c.b, .cap c) :: H2) from List.perm_middle (l₁ := ([(b6, .cells (tmX u).cells), (c.b, .cap c)] : Heap))))
    refine ⟨_, _, a3, Nat.le_refl _, ?_⟩
    refine ⟨_, _, a4, Nat.le_refl _, ?_⟩
    refine ⟨Or.inr rfl, ⟨Le.refl _, Le.refl _, trivial⟩, by1_nil ?_⟩
    exact by_end (A := [(c.b, .cap c)]) p4 (Le.refl _) hq
  · rintro _ H1 ⟨e, H2, rfl, hp1, hq⟩
    refine ⟨fix2 rfl rfl, ?_⟩
    refine by1_con (X := (c.b, .cap c) :: H2) e (hp1.trans (show List.Perm _ ((b7, .cells [.i 0]) :: (b6, .cells [.i 0, .i 0, .str [], .sl .full 0 [], .sl .full 0 []]) :: (c.b, .cap c) :: H2) from perm_3)) rfl fun H' h' => ?_
    exact by_end (A := [(c.b, .cap c)]) h' (le_by0 e) hq
set_option maxRecDepth 100000 in
theorem by_bound {rb b off : Nat} (t : Tm) (g : FuncId) (hp : packOk t = true) (hcall : Redu g (.ptr b off :: [tmX t]) H Q) : Con Tryz.prog 37 [.ptr rb 0, tmX t, .v (.func (.func g) #[.pointer (some ⟨b, off, none⟩)] #[])] H Q := by
  refine Con.permR (ConX.con ?_)
  refine conX_of_defer (esc := [6, 7].contains) tab_ok Tryz.func37 rfl (ent Tryz.func37 (by kernel_rfl) rfl) (by kernel_rfl) 1 rfl rfl rfl rfl (quiets (by kernel_rfl)) (quiets (by kernel_rfl)) 8 ?_
  intro hw hn b6 hb6 b7 hb7
  clear hw hn hb6 hb7
  refine ⟨_, _, [(6, .g (.ptr b6 0)), (7, .g (.ptr b7 0))], rfl, ent Tryz.func57 (by kernel_rfl) rfl, ?_⟩
  have hby : HasBy b6 b7 [.i 0, .i 0, .str [], .sl .full 0 [], .sl .full 0 []] (.i 0) H ((b7, .cells [.i 0]) :: (b6, .cells [.i 0, .i 0, .str [], .sl .full 0 [], .sl .full 0 []]) :: H) := List.Perm.refl _
  refine sem_of (esc := fun _ => false) tab_ok mixed ?_
  refine ⟨_, LeL.refl _, Con.x (packTerm_yes hp fun c hc => ?_)⟩
  intro hz1 hz2; clear hz1 hz2
  refine ⟨_, LeL.refl _, wneed_con true 10 (fun _ => ?_) nofun⟩
  intro hz1 hz2; clear hz1 hz2
  refine ⟨_, LeL.refl _, (hcall [(c.b, .cap c), (b7, .cells [.i 0]), (b6, .cells [.i 0, .i 0, .str [], .sl .full 0 [], .sl .full 0 []])]).mono ?_ ?_⟩
  · rintro _ H1 ⟨u, H2, rfl, hp1, hq⟩
    intro hz1 hz2; clear hz1 hz2
    obtain ⟨H3, a3, p3⟩ := at_permW (y := .cells (tmX u).cells) (hp1.trans (show List.Perm _ ((b6, .cells [.i 0, .i 0, .str [], .sl .full 0 [], .sl .full 0 []]) :: (c.b, .cap c) :: (b7, .cells [.i 0]) :: H2) from List.perm_middle (l₁ := ([(c.b, .cap c), (b7, .cells [.i 0])] : Heap))))
    obtain ⟨H4, a4, p4⟩ := at_permW (y := .cells [.i 0]) (p3.trans (show List.Perm _ ((b7, .cells [.i 0]) :: (b6, .cells (tmX u).cells) :: (c.b, .cap c) :: H2) from List.perm_middle (l₁ := ([(b6, .cells (tmX u).cells), (c.b, .cap c)] : Heap))))
    refine ⟨_, _, a3, Nat.le_refl _, ?_⟩
    refine ⟨_, _, a4, Nat.le_refl _, ?_⟩
    refine ⟨Or.inr rfl, ⟨Le.refl _, Le.refl _, trivial⟩, by1_nil ?_⟩
    exact by_end (A := [(c.b, .cap c)]) p4 (Le.refl _) hq
  · rintro _ H1 ⟨e, H2, rfl, hp1, hq⟩
    refine ⟨fix2 rfl rfl, ?_⟩
    refine by1_con (X := (c.b, .cap c) :: H2) e (hp1.trans (show List.Perm _ ((b7, .cells [.i 0]) :: (b6, .cells [.i 0, .i 0, .str [], .sl .full 0 [], .sl .full 0 []]) :: (c.b, .cap c) :: H2) from perm_3)) rfl fun H' h' => ?_
    exact by_end (A := [(c.b, .cap c)]) h' (le_by0 e) hq
end
end Go.Proofs.YtahdkhklngjmoaaGreatDoor

/-
  DERIVED: THE SHELF's CONTRACTS AT THIS DUMP, IN PLAIN WORDS (tools/lay-plain.mjs out of 'YtahdkhklngjmoaaGreatDoorLays8.lean', which tools/lay-shelf.mjs wrote): THE SAME DECLARATIONS UNDER THE SAME NAMES: 'import', 'namespace', 'open', 'def', 'theorem' AND NOTHING ELSE: no command of the shelf's: FOR A HAND-IN. Each laying: the table of numbers ('.._ren') and one theorem, a field a fact of the dump's own or the kernel's comparison; each contract: ONE APPLICATION.
-/
namespace Go.Proofs.YtahdkhklngjmoaaGreatDoor
open Go.Shelf
def Tryz.l8g_ren : Go.Shelf.Ren := ⟨fun | 4 => 167 | n => n, fun | 22 => 28 | 25 => 30 | 3 => 3 | 4 => 4 | 9 => 9 | 20 => 20 | 0 => 0 | n => n, fun | n => n⟩
theorem Tryz.l8g : Go.Proofs.Lays8.n4 Tryz.prog Tryz.l8g_ren := {
  mixed := by kernel_rfl
  f4 := ⟨Tryz.f167.name, by decide, Tryz.func167.trans (congrArg some (by kernel_rfl))⟩
  t0 := Tryz.underlying0
  a0 := Tryz.isAgg0
  z0 := Tryz.sizeOf0
  v0 := Tryz.zeroValue0
  t3 := Tryz.underlying3
  a3 := Tryz.isAgg3
  z3 := Tryz.sizeOf3
  v3 := Tryz.zeroValue3
  t4 := Tryz.underlying4
  a4 := Tryz.isAgg4
  z4 := Tryz.sizeOf4
  v4 := Tryz.zeroValue4
  t9 := Tryz.underlying9
  a9 := Tryz.isAgg9
  z9 := Tryz.sizeOf9
  v9 := Tryz.zeroValue9
  t20 := Tryz.underlying20
  a20 := Tryz.isAgg20
  z20 := Tryz.sizeOf20
  v20 := Tryz.zeroValue20
  t22 := Tryz.underlying28
  a22 := Tryz.isAgg28
  z22 := Tryz.sizeOf28
  v22 := Tryz.zeroValue28 }
end Go.Proofs.YtahdkhklngjmoaaGreatDoor

/-
  slices.Grow, slices.Concat over terms. No condition.
-/
namespace Go.Proofs.YtahdkhklngjmoaaGreatDoor
open Go.RowKit

set_option maxRecDepth 100000 in
theorem Grow_con (n : Nat) (hn : 0 < n) (hl : n ≤ 1000000) {H : Heap} {Q : AV → Heap → Prop} (hq : ∀ c : Cap, c.b ∉ H.keys → Q (.sl (.own c) 5 []) ((c.b, .cap c) :: H)) : Con Tryz.prog 167 [.sl .full 0 [], .i n] H Q := by
  intro M w vs _ hI hargs
  simp only [repT] at hargs
  obtain ⟨v, _, rfl, hv, u, _, rfl, hu, rfl⟩ := hargs
  simp only [rep] at hv hu
  obtain ⟨a, cap, rfl, _, _, h3, _, h5, _⟩ := hv
  obtain rfl : cap = 0 := h5
  obtain rfl : u = .int .i64 n := hu.1
  have hi : Tryz.prog.info? 30 = some Tryz.t30 := by kernel_rfl
  have hcall := Any8.slices_Grow_grow Tryz.l8g Tryz.t30 _ hi rfl (by decide) a 0 0 n [] w (Nat.le_refl _) (by omega) (by (first | refine Or.inl ?_ | skip); show (0 + n) * 80 ≤ _; omega) (by omega) rfl (fun _ => rfl) nofun
  rw [ent Tryz.func167 (by kernel_rfl) rfl]
  refine Calls.mono hcall ?_
  rintro e w' ⟨rfl, rfl⟩
  have hge := grownCap_ge w (0 + n) 0 30
  have hle := grownCap_le_maxLen w (0 + n) 0 30 (by unfold maxLen; omega)
  obtain ⟨G, hG⟩ : ∃ G, grownCap w (0 + n) 0 30 = G := ⟨_, rfl⟩
  have hG' : grownCap w (0 + n) 0 (Tryz.l8g_ren.t 25) = G := hG
  rw [hG] at hge hle
  rw [hG']
  obtain ⟨z, hz⟩ : ∃ z : Array Value, Value.cells (.agg #[.int .i64 0, .int .i64 0, .string { data := #[] }, .slice none 0 0, .slice none 0 0]) = z := ⟨_, rfl⟩
  have hzs : z.size = 5 := by rw [← hz]; rfl
  obtain ⟨M', c, g1, g2, g3, g4, g5⟩ := inv_grow (T := 30) hI (s := 5) (cap := G) (xs := []) (vs := []) (rest := Builtin.zeroCells z (0 + n - 0) ++ Builtin.zeroCells z (G - (0 + n))) rfl (by
    rw [Array.size_append, size_zeroCells, size_zeroCells, hzs]
    simp only [List.length_nil]
    omega) (by decide) nofun (by simp [repC]) (Nat.zero_le _) hle
  have hw : w.drew.alloc (.cells (([] : List Value).toArray ++ Builtin.zeroCells (Value.cells (.agg #[.int .i64 0, .int .i64 0, .string { data := #[] }, .slice none 0 0, .slice none 0 0])) (0 + n - 0) ++ Builtin.zeroCells (Value.cells (.agg #[.int .i64 0, .int .i64 0, .string { data := #[] }, .slice none 0 0, .slice none 0 0])) (G - (0 + n))) (Tryz.l8g_ren.t 25)) = w.drew.alloc (.cells (([] : List Value).toArray ++ (Builtin.zeroCells z (0 + n - 0) ++ Builtin.zeroCells z (G - (0 + n)))) 30) := by
    rw [hz, Array.append_assoc]
    rfl
  have hw2 := hw
  refine ⟨_, rfl, M', .sl (.own c) 5 [], _, ?_, ?_, ?_, ?_, hq c g1⟩
  · rw [hw2]; exact g3.mono (by simp)
  · rw [hw2]; exact g4
  · intro b hb
    simp only [Heap.keys, List.map_cons, List.mem_cons] at hb
    rcases hb with rfl | hb
    · exact Or.inr g2
    · exact Or.inl hb
  · exact g5
set_option maxRecDepth 100000 in
theorem Grow_zero {H : Heap} {Q : AV → Heap → Prop} (hq : Q (.sl .full 0 []) H) : Con Tryz.prog 167 [.sl .full 0 [], .i 0] H Q := by
  intro M w vs _ hI hargs
  simp only [repT] at hargs
  obtain ⟨v, _, rfl, hv, u, _, rfl, hu, rfl⟩ := hargs
  have hv0 := hv
  simp only [rep] at hv hu
  obtain ⟨a, cap, rfl, _, _, h3, _, h5, _⟩ := hv
  obtain rfl : cap = 0 := h5
  obtain rfl : u = .int .i64 0 := hu.1
  have hcall := Any8.slices_Grow_room Tryz.l8g a 0 0 0 w (Nat.le_refl _) (by omega) (by omega) (by omega)
  rw [ent Tryz.func167 (by kernel_rfl) rfl]
  refine Calls.mono hcall ?_
  rintro e w' ⟨rfl, rfl⟩
  exact ⟨_, rfl, M, .sl .full 0 [], H, Evo.refl _ _ _, hI, fun b hb => Or.inl hb, hv0, hq⟩
/-- what Grow answers -/
def growV (q : Option Cap) : AV :=
  match q with
  | none => .sl .full 0 []
  | some c => .sl (.own c) 5 []
theorem growV_le (q : Option Cap) : Le (growV q) (.sl (ownQ q) 5 []) := by
  cases q with
  | none => exact Le.nil' 5
  | some c => exact Le.refl _
set_option maxRecDepth 100000 in
theorem Grow_q (n : Nat) (hl : n ≤ 1000000) {H : Heap} {Q : AV → Heap → Prop} (hq : ∀ q : Option Cap, Q (growV q) (bufH q H)) : Con Tryz.prog 167 [.sl .full 0 [], .i n] H Q := by
  by_cases hn : 0 < n
  · exact Grow_con n hn hl fun c hc => hq (some c)
  · obtain rfl : n = 0 := by omega
    exact Grow_zero (hq none)
/-- how many there are so far -/
def lensT (tss : List (List Tm)) : Nat := tss.flatten.length
theorem lensT_snoc {tss : List (List Tm)} {k : Nat} (h : k < tss.length) : lensT (tss.take (k + 1)) = lensT (tss.take k) + tss[k].length := by
  unfold lensT
  rw [List.take_succ_eq_append_getElem h, List.flatten_append, List.length_append]
  simp
theorem lensT_le (tss : List (List Tm)) (k : Nat) : lensT (tss.take k) ≤ lensT tss := by
  unfold lensT
  conv => rhs; rw [← List.take_append_drop k tss, List.flatten_append, List.length_append]
  omega
theorem rowsAt {tss : List (List Tm)} {k : Nat} (h : k < tss.length) : (tss.map fun ts => AV.sl .no 5 (ts.map tmA))[k]? = some (.sl .no 5 ((tss[k]).map tmA)) := by simp [h]
theorem flat_snoc {tss : List (List Tm)} {k : Nat} (h : k < tss.length) : (tss.take (k + 1)).flatten = (tss.take k).flatten ++ tss[k] := by
  rw [List.take_succ_eq_append_getElem h, List.flatten_append]
  simp
set_option maxRecDepth 100000 in
set_option maxHeartbeats 1000000 in
theorem Concat_con (o : Own) (tss : List (List Tm)) (hl : lensT tss ≤ 1000000) (hl2 : tss.length ≤ 1000000) : Ans Tryz.prog 143 [.sl o 1 (tss.map fun ts => .sl .no 5 (ts.map tmA))] (.sl .no 5 (tss.flatten.map tmA)) := by
  intro H Q hq
  have hln : (tss.map fun ts => AV.sl .no 5 (ts.map tmA)).length = tss.length := List.length_map _
  refine con_of_awp (esc := fun _ => false) tab_ok mixed Tryz.func143 rfl (ent Tryz.func143 (by kernel_rfl) rfl) (by kernel_rfl) ?_
  intro hw hn
  clear hw hn
  refine ⟨Nat, fun k => ⟨[(0, .g (.sl o 1 (tss.map fun ts => .sl .no 5 (ts.map tmA)))), (2, .g (.sl .full 0 [])), (3, .g (.i (lensT (tss.take k)))), (9, .g (.sl o 1 (tss.map fun ts => .sl .no 5 (ts.map tmA)))), (10, .g (.i tss.length)), (11, .g (.i k))], [], H⟩, fun k => k ≤ tss.length, fun k => tss.length - k, ⟨0, Nat.zero_le _, ?_⟩, ?_⟩
  · refine ⟨⟨Le.refl _, Le.refl _, Le.refl _, Le.refl _, le_of_eq ?_, Le.refl _, trivial⟩, trivial, List.Sublist.refl _⟩
    show AV.i _ = AV.i _
    rw [hln]
  · intro k hk
    refine ifB_dec (fun h1 => ?_) (fun h1 => ?_)
    · have hlt : k < tss.length := by
        have h1 : (k : Int) < (tss.length : Nat) := h1
        omega
      have hs := lensT_snoc hlt
      have hle := lensT_le tss (k + 1)
      refine ⟨k, rfl, _, rowsAt hlt, ?_⟩
      have hlk : ((tss[k]).map tmA).length = (tss[k]).length := List.length_map _
      refine ⟨in64_of (by omega) (by omega), ?_⟩
      refine ⟨in64_of (by first | omega | (dsimp only; omega)) (by first | omega | (dsimp only; omega)), ?_⟩
      refine ⟨k + 1, (by simp only; omega), by (try dsimp only); omega, ⟨⟨Le.refl _, Le.refl _, le_of_eq ?_, Le.refl _, Le.refl _, Le.refl _, trivial⟩, trivial, List.Sublist.refl _⟩⟩
      show AV.i _ = AV.i _
      rw [hs, hlk, Int.natCast_add]
    · have hke : k = tss.length := by
        have h1 : ¬ (k : Int) < (tss.length : Nat) := h1
        omega
      subst hke
      have hle := lensT_le tss tss.length
      refine ⟨_, LeL.refl _, Grow_q (lensT (tss.take tss.length)) (by omega) fun q0 => ?_⟩
      intro hz1 hz2; clear hz1 hz2
      refine ⟨Option Cap × Nat, fun p => ⟨[(2, .g (.sl .full 0 [])), (6, .g (.sl (ownQ p.1) 5 ((tss.take p.2).flatten.map tmA))), (25, .g (.sl o 1 (tss.map fun ts => .sl .no 5 (ts.map tmA)))), (26, .g (.i tss.length)), (27, .g (.i p.2))], [], bufH p.1 H⟩, fun p => p.2 ≤ tss.length, fun p => tss.length - p.2, ⟨(q0, 0), Nat.zero_le _, ?_⟩, ?_⟩
      · refine ⟨⟨Le.refl _, growV_le q0, Le.refl _, le_of_eq ?_, Le.refl _, trivial⟩, trivial, List.Sublist.refl _⟩
        show AV.i _ = AV.i _
        rw [hln]
      · rintro ⟨q, k⟩ hk
        simp only at hk
        refine ifB_dec (fun h1 => ?_) (fun h1 => ?_)
        · have hlt : k < tss.length := by
            have h1 : (k : Int) < (tss.length : Nat) := h1
            omega
          have hs := flat_snoc hlt
          have hle1 := lensT_le tss (k + 1)
          have hs1 := lensT_snoc hlt
          have hfl : (List.map tmA (tss.take k).flatten).length = lensT (tss.take k) := List.length_map _
          have hlk : ((tss[k]).map tmA).length = (tss[k]).length := List.length_map _
          refine ⟨k, rfl, _, rowsAt hlt, ?_⟩
          refine ⟨?_, ifNil_or (fun h => ?_) (fun h => ?_)⟩
          · refine Or.inl ?_
            show (_ + _) * (80 + 1) ≤ 140737488355328
            rw [hfl, hlk]
            omega
          · have h0 : tss[k] = [] := by simpa using h
            rw [h0, List.append_nil] at hs
            refine ⟨in64_of (by first | omega | (dsimp only; omega)) (by first | omega | (dsimp only; omega)), ?_⟩
            refine ⟨(q, k + 1), (by simp only; omega), by (try dsimp only); omega, ⟨⟨Le.refl _, le_of_eq ?_, Le.refl _, Le.refl _, Le.refl _, trivial⟩, trivial, List.Sublist.refl _⟩⟩
            show AV.sl _ _ _ = AV.sl _ _ _
            rw [hs]
          · refine own_of (q := q) (H0 := H) rfl rfl (fun c h => h) fun c hc => ?_
            refine ⟨in64_of (by first | omega | (dsimp only; omega)) (by first | omega | (dsimp only; omega)), ?_⟩
            refine ⟨(some c, k + 1), (by simp only; omega), by (try dsimp only); omega, ⟨⟨Le.refl _, le_of_eq ?_, Le.refl _, Le.refl _, Le.refl _, trivial⟩, trivial, List.Sublist.refl _⟩⟩
            show AV.sl _ _ _ = AV.sl _ _ _
            rw [hs, List.map_append]
            rfl
        · have hke : tss.length = k := by
            have h1 : ¬ (k : Int) < (tss.length : Nat) := h1
            omega
          subst hke
          have hfin : Le (.sl (ownQ q) 5 ((tss.take tss.length).flatten.map tmA)) (.sl .no 5 (tss.flatten.map tmA)) := by
            rw [List.take_length]
            exact ownQ_le _ _ _
          exact ⟨_, H, hfin, bufH_sub q H, hq⟩
end Go.Proofs.YtahdkhklngjmoaaGreatDoor

/-
  Whnf: the redexes: beta, zeta, delta, iota's rule. No condition.
-/
namespace Go.Proofs.YtahdkhklngjmoaaGreatDoor
open Go.RowKit

theorem tmAtS {ls : List Tm} {k : Nat} {b : Tm} (h : ls[k]? = some b) : (ls.map tmA)[k]? = some (tmX b) := by
  rw [List.getElem?_map, h, ← tmA_eq]; rfl
theorem cut_all {ls : List Tm} (k : Nat) : Le (.sl .no 5 (((ls.map tmA).drop k).take ((ls.map tmA).length - k))) (.sl .no 5 ((ls.drop k).map tmA)) := by
  refine le_of_eq ?_
  rw [List.map_drop, List.take_of_length_le (by rw [List.length_drop]; exact Nat.le_refl _)]
theorem one_le (a : Tm) : Le (.sl .full 5 [tmX a]) (.sl .no 5 ([a].map tmA)) := Le.trans (Le.own _ _ _) (le_of_eq (by
  show AV.sl .no 5 [tmX a] = .sl .no 5 [tmA a]
  rw [tmA_eq]))
theorem bInst_nodes (t : Tm) (args : List Tm) : (bInst t args).1.nodes ≤ 2000 := by
  unfold bInst
  split
  · unfold madeB
    split
    · assumption
    · exact tm0_nodes
  · exact tm0_nodes
theorem tmAt_nodes {ls : List Lv} {t u : Tm} (h : tmAt ls t = some u) : u.nodes ≤ 2000 := by
  unfold tmAt at h
  split at h
  · split at h
    · cases h
    · split at h
      · cases h; assumption
      · cases h
  · cases h
theorem enValue_nodes (e : En) (ls : List Lv) : (enValue e ls).1.nodes ≤ 2000 := by
  unfold enValue enAt
  split
  · split
    · split
      · exact tm0_nodes
      · split
        · rename_i u hu; exact tmAt_nodes hu
        · exact tm0_nodes
    · exact tm0_nodes
  · exact tm0_nodes
theorem tmLv_nodes (ls : List Lv) (t : Tm) : (tmLv ls t).1.nodes ≤ 2000 := by
  cases h : tmAt ls t with
  | none => rw [tmLv_none h]; exact tm0_nodes
  | some u => rw [tmLv_some h]; exact tmAt_nodes h
/-- what a redex makes, of a run -/
def Clo (rb : Nat) (ev : AV) (g : FuncId) (caps : List AV) (u : Tm) (ok : Bool) : Prop :=
  ∀ (used left : Int) (X H : Heap) (Q : AV → Heap → Prop), HasW rb ev used left X H → Q (.tup [tmX u, .b ok]) H → Con Tryz.prog g caps H Q
set_option maxRecDepth 100000 in
theorem Clo.of {rb : Nat} {ev : AV} {g : FuncId} {caps : List AV} {u : Tm} {ok : Bool} (h : Ans Tryz.prog g caps (.tup [tmX u, .b ok])) : Clo rb ev g caps u ok := fun _ _ _ H Q _ hq => h H Q hq
set_option maxRecDepth 100000 in
theorem beta1_con (o : Own) (f b a : Tm) (args : List Tm) (hb : f.args[1]? = some b) (ha : args[0]? = some a) (hs : ∀ t ∈ args, t.nodes ≤ 1000000) (hl : args.length ≤ 1000000) : Ans Tryz.prog 109 [.ip (tmX f).cells, .ip [.sl o 5 (args.map tmA)]] (.tup [tmX (tmAps (bInst b [a]).1 (args.drop 1)), .b (bInst b [a]).2]) := by
  intro H Q hq
  have hn := bInst_nodes b [a]
  have hpos : 1 ≤ args.length := by
    have := (List.getElem?_eq_some_iff.1 ha).1
    omega
  have hln : (args.map tmA).length = args.length := List.length_map _
  refine con_of_awp (esc := fun _ => false) tab_ok mixed Tryz.func109 rfl (ent Tryz.func109 (by kernel_rfl) rfl) (by kernel_rfl) ?_
  intro hw hnn
  clear hw hnn
  refine ⟨[0, 1, 2, 3, 4, 5, 6, 7, 12, 8, 9, 10, 11, 13, 14], [], by kernel_rfl, by simp, ?_⟩
  refine ⟨1, rfl, _, tmAtS hb, ?_⟩
  refine ⟨0, rfl, _, tmAtS ha, ?_⟩
  refine ⟨[tmX b, .sl .no 5 ([a].map tmA)], ⟨Le.refl _, one_le a, trivial⟩, bInst_con .no b [a] _ _ ?_⟩
  intro hz1 hz2; clear hz1 hz2
  refine ⟨[0, 1, 2, 4, 3, 5, 6], [], by kernel_rfl, by simp, ?_⟩
  refine ⟨1, rfl, by rw [hln]; exact hpos, ?_⟩
  refine ⟨[tmX (bInst b [a]).1, .sl .no 5 ((args.drop 1).map tmA)], ⟨Le.refl _, cut_all 1, trivial⟩, App_con .no (bInst b [a]).1 (args.drop 1) (by omega) (fun t ht => hs t (List.mem_of_mem_drop ht)) (by rw [List.length_drop]; omega) _ _ ?_⟩
  intro hz1 hz2; clear hz1 hz2
  exact ⟨_, H, Le.refl _, List.Sublist.refl _, hq⟩
set_option maxRecDepth 100000 in
theorem beta_con (o : Own) (f : Tm) (args : List Tm) : Ans Tryz.prog 87 [tmX f, .sl o 5 (args.map tmA)] (.agg [.i 1, .fn (.func 109) [.ip (tmX f).cells, .ip [.sl o 5 (args.map tmA)]]]) := by
  intro H Q hq
  refine Con.ice (Con.ice ?_)
  refine con_of_awp (esc := ([2,3].contains ·)) tab_ok mixed Tryz.func87 rfl (ent Tryz.func87 (by kernel_rfl) rfl) (by kernel_rfl) ?_
  intro hw hn b1 hb1 b2 hb2
  clear hw hn
  exact ⟨_, _, Le.refl _, List.Sublist.refl _, b2, [.sl o 5 (args.map tmA)], (b1, .cells (tmX f).cells) :: H, .agg [.i 1, .fn (.func 109) [.ptr b1 0, .ip [.sl o 5 (args.map tmA)]]], .here, fun M h => LeM.agg ⟨LeM.refl _, LeM.fn ⟨LeM.refl _, ptr_ice h, trivial⟩, trivial⟩, b1, (tmX f).cells, H, .agg [.i 1, .fn (.func 109) [.ip (tmX f).cells, .ip [.sl o 5 (args.map tmA)]]], .here, fun M h => LeM.agg ⟨LeM.refl _, LeM.fn ⟨ptr_ice h, LeM.refl _, trivial⟩, trivial⟩, hq⟩
set_option maxRecDepth 100000 in
theorem zeta1_con (o : Own) (f v b : Tm) (args : List Tm) (hv : f.args[1]? = some v) (hb : f.args[2]? = some b) (hs : ∀ t ∈ args, t.nodes ≤ 1000000) (hl : args.length ≤ 1000000) : Ans Tryz.prog 111 [.ip (tmX f).cells, .ip [.sl o 5 (args.map tmA)]] (.tup [tmX (tmAps (bInst b [v]).1 args), .b (bInst b [v]).2]) := by
  intro H Q hq
  have hn := bInst_nodes b [v]
  refine con_of_awp (esc := fun _ => false) tab_ok mixed Tryz.func111 rfl (ent Tryz.func111 (by kernel_rfl) rfl) (by kernel_rfl) ?_
  intro hw hnn
  clear hw hnn
  refine ⟨[0, 1, 2, 3, 4, 5, 6, 7, 8, 13, 9, 10, 11, 12, 14, 15], [], by kernel_rfl, by simp, ?_⟩
  refine ⟨2, rfl, _, tmAtS hb, ?_⟩
  refine ⟨1, rfl, _, tmAtS hv, ?_⟩
  refine ⟨[tmX b, .sl .no 5 ([v].map tmA)], ⟨Le.refl _, one_le v, trivial⟩, bInst_con .no b [v] _ _ ?_⟩
  intro hz1 hz2; clear hz1 hz2
  refine ⟨_, LeL.refl _, App_con o (bInst b [v]).1 args (by omega) hs hl _ _ ?_⟩
  intro hz1 hz2; clear hz1 hz2
  exact ⟨_, H, Le.refl _, List.Sublist.refl _, hq⟩
set_option maxRecDepth 100000 in
theorem zeta_con (o : Own) (f : Tm) (args : List Tm) : Ans Tryz.prog 88 [tmX f, .sl o 5 (args.map tmA)] (.agg [.i 2, .fn (.func 111) [.ip (tmX f).cells, .ip [.sl o 5 (args.map tmA)]]]) := by
  intro H Q hq
  refine Con.ice (Con.ice ?_)
  refine con_of_awp (esc := ([2,3].contains ·)) tab_ok mixed Tryz.func88 rfl (ent Tryz.func88 (by kernel_rfl) rfl) (by kernel_rfl) ?_
  intro hw hn b1 hb1 b2 hb2
  clear hw hn
  exact ⟨_, _, Le.refl _, List.Sublist.refl _, b2, [.sl o 5 (args.map tmA)], (b1, .cells (tmX f).cells) :: H, .agg [.i 2, .fn (.func 111) [.ptr b1 0, .ip [.sl o 5 (args.map tmA)]]], .here, fun M h => LeM.agg ⟨LeM.refl _, LeM.fn ⟨LeM.refl _, ptr_ice h, trivial⟩, trivial⟩, b1, (tmX f).cells, H, .agg [.i 2, .fn (.func 111) [.ip (tmX f).cells, .ip [.sl o 5 (args.map tmA)]]], .here, fun M h => LeM.agg ⟨LeM.refl _, LeM.fn ⟨ptr_ice h, LeM.refl _, trivial⟩, trivial⟩, hq⟩
set_option maxRecDepth 100000 in
theorem delta1_con {rb : Nat} (o _ : Own) {te : Tre} {l : List En} (hp : Places te l) (c : Tm) (args : List Tm) {e : En} (he : envGet l c.name = (e, true)) (hs : ∀ t ∈ args, t.nodes ≤ 1000000) (hl : args.length ≤ 1000000) : Clo rb (envX te l) 138 [.ip [.ptr rb 0], .ip (tmX c).cells, .ip [.sl o 5 (args.map tmA)]] (tmAps (enValue e c.levels).1 args) (decide ((enValue e c.levels).2 = 0)) := by
  intro used left X H Q h hq
  have hin := h.mem
  have hn := enValue_nodes e c.levels
  obtain ⟨q, hq0⟩ : ∃ q, decide ((enValue e c.levels).2 = 0) = q := ⟨_, rfl⟩
  rw [hq0] at hq
  refine con_of_awp (esc := fun _ => false) tab_ok mixed Tryz.func138 rfl (ent Tryz.func138 (by kernel_rfl) rfl) (by kernel_rfl) ?_
  intro hw hnn
  clear hw hnn
  refine ⟨[0, 1, 2, 3, 4, 5, 6, 7, 12, 8, 9, 10, 11, 13, 14], [(rb, .cells [envX te l, .i used, .i left])], by kernel_rfl, pin1 hin, ?_⟩
  refine ⟨_, List.mem_singleton.2 rfl, ?_⟩
  refine ⟨pin1 hin, ?_⟩
  refine ⟨_, LeL.refl _, envValueW_con te l hp c.name .no c.levels he _ _ ?_⟩
  intro hz1 hz2; clear hz1 hz2
  refine ⟨pin1 hin, ?_⟩
  refine ⟨_, LeL.refl _, App_con o (enValue e c.levels).1 args (by omega) hs hl _ _ ?_⟩
  intro hz1 hz2; clear hz1 hz2
  refine ifB_dec (fun h1 => ?_) (fun h1 => ?_)
  · rw [decide_eq_true h1] at hq0
    subst hq0
    exact ⟨_, H, Le.refl _, List.Sublist.refl _, hq⟩
  · rw [decide_eq_false h1] at hq0
    subst hq0
    exact ⟨_, H, Le.refl _, List.Sublist.refl _, hq⟩
set_option maxRecDepth 100000 in
theorem delta_con {rb : Nat} (o : Own) (c : Tm) (args : List Tm) : Ans Tryz.prog 113 [.ptr rb 0, tmX c, .sl o 5 (args.map tmA)] (.agg [.i 3, .fn (.func 138) [.ip [.ptr rb 0], .ip (tmX c).cells, .ip [.sl o 5 (args.map tmA)]]]) := by
  intro H Q hq
  refine Con.ice (Con.ice (Con.ice ?_))
  refine con_of_awp (esc := ([3,4,5].contains ·)) tab_ok mixed Tryz.func113 rfl (ent Tryz.func113 (by kernel_rfl) rfl) (by kernel_rfl) ?_
  intro hw hn b1 hb1 b2 hb2 b3 hb3
  clear hw hn
  exact ⟨_, _, Le.refl _, List.Sublist.refl _,
    b3, [.sl o 5 (args.map tmA)], (b2, .cells (tmX c).cells) :: (b1, .cells [.ptr rb 0]) :: H, .agg [.i 3, .fn (.func 138) [.ptr b1 0, .ptr b2 0, .ip [.sl o 5 (args.map tmA)]]], .here, fun M h => LeM.agg ⟨LeM.refl _, LeM.fn ⟨LeM.refl _, LeM.refl _, ptr_ice h, trivial⟩, trivial⟩,
    b2, (tmX c).cells, (b1, .cells [.ptr rb 0]) :: H, .agg [.i 3, .fn (.func 138) [.ptr b1 0, .ip (tmX c).cells, .ip [.sl o 5 (args.map tmA)]]], .here, fun M h => LeM.agg ⟨LeM.refl _, LeM.fn ⟨LeM.refl _, ptr_ice h, LeM.refl _, trivial⟩, trivial⟩,
    b1, [.ptr rb 0], H, .agg [.i 3, .fn (.func 138) [.ip [.ptr rb 0], .ip (tmX c).cells, .ip [.sl o 5 (args.map tmA)]]], .here, fun M h => LeM.agg ⟨LeM.refl _, LeM.fn ⟨ptr_ice h, LeM.refl _, LeM.refl _, trivial⟩, trivial⟩, hq⟩
end Go.Proofs.YtahdkhklngjmoaaGreatDoor

/-
  Whnf: a recursor's constructor, its rule. No condition.
-/
namespace Go.Proofs.YtahdkhklngjmoaaGreatDoor
open Go.RowKit

theorem enRight_ctor {e : En} (h : enRight e = true) (hk : e.kind = 6 ∨ e.kind = 7) : 0 ≤ e.fixed ∧ e.fixed ≤ 32 ∧ 0 ≤ e.index ∧ e.index ≤ 32 ∧ 0 ≤ e.fields ∧ e.fields ≤ 32 := by
  unfold enRight at h
  simp only [Bool.and_eq_true] at h
  obtain ⟨_, _, _, _, _, h6, _⟩ := h
  unfold enNumbered at h6
  rw [if_pos hk] at h6
  simp only [spanB, Bool.and_eq_true, decide_eq_true_eq] at h6
  omega
theorem envGet_right {l : List En} (ha : AllRight l) (x : List UInt8) : envGet l x = (en0, false) ∨ enRight (envGet l x).1 = true := by
  unfold envGet
  cases hf : l.find? fun e => decide (e.name = x) with
  | none => exact Or.inl rfl
  | some e => exact Or.inr (ha e (List.mem_of_find?_eq_some hf))
set_option maxRecDepth 100000 in
set_option maxHeartbeats 1000000 in
theorem wctor_con {rb : Nat} {te : Tre} {l : List En} (hp : Places te l) (ha : AllRight l) (x : Tm) (hx : x.nodes ≤ 1000000) (o : Own) (of : List (List UInt8)) {used left : Int} {X H : Heap} {Q : AV → Heap → Prop} (h : HasW rb (envX te l) used left X H)
    (hyes : ∀ ce, wCtor l of x = some ce → Q (.tup [enX ce, .sl .no 5 ((tmArgs x).map tmA), .b true]) H) (hno : wCtor l of x = none → ∀ (ce : En) (ys : List Tm), Q (.tup [enX ce, .sl .no 5 (ys.map tmA), .b false]) H) :
    Con Tryz.prog 140 [.ptr rb 0, tmX x, .sl o 1 (of.map .str)] H Q := by
  have hin := h.mem
  have hln : ((tmArgs x).map tmA).length = (tmArgs x).length := List.length_map _
  have hgr := envGet_right ha (tmHead x).name
  obtain ⟨f, hf⟩ : ∃ f, wCtor l of x = f := ⟨_, rfl⟩
  have hbad : f = none → ∃ r H', Le (.tup [.agg [.i 0, .i 0, .str [], .i 0, .i 0, .str [], .sl .full 0 [], .sl .full 0 [], .i 0, .i 0, .str [], .sl .full 0 [], .sl .full 0 [], .i 0, .str [], .i 0, .i 0, .i 0, .sl .full 0 []], .sl .full 0 [], .b false]) r ∧ List.Sublist H' H ∧ Q r H' := fun e =>
    ⟨.tup [enX en0, .sl .no 5 (([] : List Tm).map tmA), .b false], H, Le.tup ⟨le_en0, Le.nil _ _, Le.refl _, trivial⟩, List.Sublist.refl _, hno (hf.trans e) en0 []⟩
  refine con_of_sem tab_ok Tryz.func140 rfl (ent Tryz.func140 (by kernel_rfl) rfl) (by kernel_rfl) ?_
  intro hw hn
  clear hw hn
  refine sem_seq (esc := fun _ => false) tab_ok mixed ?_
  refine sem_seq (esc := fun _ => false) tab_ok mixed ?_
  refine ⟨_, LeL.refl _, Spine_con x hx _ _ ?_⟩
  intro hz1 hz2; clear hz1 hz2
  refine sem_seq (esc := fun _ => false) tab_ok mixed ?_
  refine ifB_dec (fun k1 => ?_) (fun k1 => ?_)
  · by_cases k2 : (tmHead x).name ∈ of
    · refine ⟨_, LeL.refl _, (ContainsS_con o of (tmHead x).name).to (by rw [decide_eq_true k2]) _ _ ?_⟩
      intro hz1 hz2; clear hz1 hz2
      obtain ⟨ce, hce⟩ : ∃ ce, (envGet l (tmHead x).name).1 = ce := ⟨_, rfl⟩
      obtain ⟨b2, hb2⟩ : ∃ b2, (envGet l (tmHead x).name).2 = b2 := ⟨_, rfl⟩
      have hget := envGet_con te l hp ha (tmHead x).name
      rw [hce] at hgr
      rw [hce, hb2] at hget
      have hfe : (if ce.kind = 6 ∧ ce.value.kind ≠ 0 ∧ ((tmArgs x).length : Int) = ce.fixed + ce.fields then some ce else none) = f := by
        rw [← hf]
        unfold wCtor
        simp only [hce]
        exact (if_pos ⟨k1, k2⟩).symm
      refine sem_seq (esc := fun _ => false) tab_ok mixed ?_
      refine ⟨[0, 1, 2, 3, 4, 5, 10, 6, 7, 8, 9, 11, 12], [(rb, .cells [envX te l, .i used, .i left])], by kernel_rfl, pin1 hin, ?_⟩
      refine ⟨_, List.mem_singleton.2 rfl, ?_⟩
      refine ⟨pin1 hin, ?_⟩
      refine ⟨_, LeL.refl _, hget _ _ ?_⟩
      intro hz1 hz2; clear hz1 hz2
      refine ⟨pin1 hin, ?_⟩
      refine sem_seq (esc := fun _ => false) tab_ok mixed ?_
      refine ifB_dec (fun g1 => ?_) (fun g1 => ?_)
      · refine ifB_dec (fun g2 => ?_) (fun g2 => ?_)
        · refine sem_of (esc := fun _ => false) tab_ok mixed ?_
          have hf2 : f = none := by rw [← hfe, if_neg fun h => h.2.1 g2]
          exact ⟨_, H, Le.refl _, List.Sublist.refl _, hno (hf.trans hf2) ce (tmArgs x)⟩
        · have hbd : 0 ≤ ce.fixed ∧ ce.fixed ≤ 32 ∧ 0 ≤ ce.index ∧ ce.index ≤ 32 ∧ 0 ≤ ce.fields ∧ ce.fields ≤ 32 := by
            rcases hgr with hgr | hgr
            · have h0 : ce = en0 := by rw [← hce, hgr]
              rw [h0] at g1
              exact absurd g1 (by decide)
            · exact enRight_ctor hgr (Or.inl g1)
          refine ⟨in64_of (by omega) (by omega), ?_⟩
          refine ifB_dec (fun g3 => ?_) (fun g3 => ?_)
          · refine sem_of (esc := fun _ => false) tab_ok mixed ?_
            have hf2 : f = some ce := by rw [← hfe, if_pos ⟨g1, g2, by rw [← hln]; exact g3⟩]
            exact ⟨_, H, Le.refl _, List.Sublist.refl _, hyes ce (hf.trans hf2)⟩
          · refine sem_of (esc := fun _ => false) tab_ok mixed ?_
            have hf2 : f = none := by rw [← hfe, if_neg fun h => g3 (by rw [hln]; exact h.2.2)]
            exact ⟨_, H, Le.refl _, List.Sublist.refl _, hno (hf.trans hf2) ce (tmArgs x)⟩
      · refine sem_of (esc := fun _ => false) tab_ok mixed ?_
        have hf2 : f = none := by rw [← hfe, if_neg fun h => g1 h.1]
        exact ⟨_, H, Le.refl _, List.Sublist.refl _, hno (hf.trans hf2) ce (tmArgs x)⟩
    · refine ⟨_, LeL.refl _, (ContainsS_con o of (tmHead x).name).to (by rw [decide_eq_false k2]) _ _ ?_⟩
      intro hz1 hz2; clear hz1 hz2
      have hf2 : f = none := by rw [← hf]; unfold wCtor; rw [if_neg fun h => k2 h.2]
      exact hbad hf2
  · have hf2 : f = none := by rw [← hf]; unfold wCtor; rw [if_neg fun h => k1 h.1]
    exact hbad hf2
theorem cut_lo {ls : List Tm} (k : Nat) : ((ls.map tmA).drop k).take ((ls.map tmA).length - k) = (ls.drop k).map tmA := by
  rw [List.map_drop, List.take_of_length_le (by rw [List.length_drop]; exact Nat.le_refl _)]
theorem cut_hi {ls : List Tm} (k : Nat) : ((ls.map tmA).drop 0).take (k - 0) = (ls.take k).map tmA := by
  rw [List.map_take]
  rfl
set_option maxRecDepth 100000 in
set_option maxHeartbeats 1000000 in
theorem iota1_con (o1 o2 : Own) (ce : En) (c : Tm) (args fields : List Tm) (front major k : Nat) (hk : ce.fixed = k) (h1 : front ≤ args.length) (h2 : k ≤ fields.length) (h3 : major + 1 ≤ args.length) (hs : ∀ t ∈ args, t.nodes ≤ 1000000) (hs2 : ∀ t ∈ fields, t.nodes ≤ 1000000) (hl : args.length ≤ 100000) (hl2 : fields.length ≤ 100000) :
    Ans Tryz.prog 141 [.ip (enX ce).cells, .ip (tmX c).cells, .ip [.sl o1 5 (args.map tmA)], .ip [.i front], .ip [.sl o2 5 (fields.map tmA)], .ip [.i major]] (.tup [tmX (tmAps (tmLv c.levels ce.value).1 (args.take front ++ fields.drop k ++ args.drop (major + 1))), .b (tmLv c.levels ce.value).2]) := by
  intro H Q hq
  have hn := tmLv_nodes c.levels ce.value
  have hln : (args.map tmA).length = args.length := List.length_map _
  have hln2 : (fields.map tmA).length = fields.length := List.length_map _
  have hrow : Le (.sl .full 1 [.sl .no 5 (((args.map tmA).drop 0).take (front - 0)), .sl .no 5 (((fields.map tmA).drop k).take ((fields.map tmA).length - k)), .sl .no 5 (((args.map tmA).drop (major + 1)).take ((args.map tmA).length - (major + 1)))]) (.sl .no 1 ([args.take front, fields.drop k, args.drop (major + 1)].map fun ts => .sl .no 5 (ts.map tmA))) := by
    rw [cut_lo, cut_lo, cut_hi]
    exact Le.own _ _ _
  have hflat : lensT [args.take front, fields.drop k, args.drop (major + 1)] ≤ 1000000 := by
    unfold lensT
    simp only [List.flatten_cons, List.flatten_nil, List.length_append, List.length_nil, List.length_take, List.length_drop]
    omega
  have hcat : [args.take front, fields.drop k, args.drop (major + 1)].flatten = args.take front ++ fields.drop k ++ args.drop (major + 1) := by simp
  have hmem : ∀ t ∈ [args.take front, fields.drop k, args.drop (major + 1)].flatten, t.nodes ≤ 1000000 := fun t ht => by
    rw [hcat] at ht
    rcases List.mem_append.1 ht with ht | ht
    · rcases List.mem_append.1 ht with ht | ht
      · exact hs t (List.mem_of_mem_take ht)
      · exact hs2 t (List.mem_of_mem_drop ht)
    · exact hs t (List.mem_of_mem_drop ht)
  have hcc := Concat_con .no [args.take front, fields.drop k, args.drop (major + 1)] hflat (show 3 ≤ 1000000 by decide)
  have happ := App_con .no (tmLv c.levels ce.value).1 [args.take front, fields.drop k, args.drop (major + 1)].flatten (by omega) hmem hflat
  rw [hcat] at hcc happ
  refine con_of_awp (esc := fun _ => false) tab_ok mixed Tryz.func141 rfl (ent Tryz.func141 (by kernel_rfl) rfl) (by kernel_rfl) ?_
  intro hw hnn
  clear hw hnn
  refine ⟨_, LeL.refl _, Levels_con .no c.levels ce.value _ _ ?_⟩
  intro hz1 hz2; clear hz1 hz2
  refine ⟨[0, 1, 2, 3, 4, 5, 6, 7, 8, 9, 10, 11, 12, 15, 13, 14, 16, 17], [], by kernel_rfl, by simp, ?_⟩
  refine ⟨front, rfl, ⟨Nat.zero_le _, by rw [hln]; exact h1⟩, ?_⟩
  refine ⟨k, hk, by rw [hln2]; exact h2, ?_⟩
  refine ⟨in64_of (by omega) (by omega), ?_⟩
  refine ⟨major + 1, by omega, by rw [hln]; exact h3, ?_⟩
  refine ⟨[.sl .no 1 ([args.take front, fields.drop k, args.drop (major + 1)].map fun ts => .sl .no 5 (ts.map tmA))], ⟨hrow, trivial⟩, ?_⟩
  refine hcc _ _ ?_
  intro hz1 hz2; clear hz1 hz2
  refine ⟨_, LeL.refl _, happ _ _ ?_⟩
  intro hz1 hz2; clear hz1 hz2
  exact ⟨_, H, Le.refl _, List.Sublist.refl _, hq⟩
end Go.Proofs.YtahdkhklngjmoaaGreatDoor

/-
  Whnf: iota, a constant's step, what is found. No condition.
-/
namespace Go.Proofs.YtahdkhklngjmoaaGreatDoor
open Go.RowKit

theorem HasW.under {rb : Nat} {ev : AV} {used left : Int} {X H : Heap} (h : HasW rb ev used left X H) (G : Heap) : HasW rb ev used left (G ++ X) (G ++ H) :=
  ((show H.Perm _ from h).append_left G).trans List.perm_middle
theorem HasW.out {rb : Nat} {ev : AV} {used left : Int} {G X H : Heap} (h : HasW rb ev used left (G ++ X) H) : H.Perm (G ++ (rb, .cells [ev, .i used, .i left]) :: X) :=
  (show H.Perm _ from h).trans List.perm_middle.symm
/-- what a call that looks for a redex answers -/
def FdEnd (rb : Nat) (ev : AV) (fd : Fd) (Q : AV → Heap → Prop) (R : Value → Heap → Prop) (H : Heap) : Prop :=
  match fd with
  | .none => Q (.agg [.i 0, .v .nilFunc]) H
  | .rx k u ok => ∀ g caps, Clo rb ev g caps u ok → Q (.agg [.i k, .fn (.func g) caps]) H
  | .err e => R (stuckV e) H
/-- what a call that looks for a redex comes to -/
def FdPost (rb : Nat) (ev : AV) (used : Int) (n : Nat) (X : Heap) (out : Fd × Nat) (Q : AV → Heap → Prop) (R : Value → Heap → Prop) : Prop :=
  ∀ H', HasW rb ev (used + ((n : Int) - (out.2 : Nat))) (out.2 : Nat) X H' → FdEnd rb ev out.1 Q R H'
/-- what a call that answers a term comes to -/
def TmPost (rb : Nat) (ev : AV) (used : Int) (n : Nat) (X : Heap) (out : Tm × Int × Nat) (Q : AV → Heap → Prop) (R : Value → Heap → Prop) : Prop :=
  ∀ H', HasW rb ev (used + ((n : Int) - (out.2.2 : Nat))) (out.2.2 : Nat) X H' → if out.2.1 = 0 then Q (tmX out.1) H' else R (stuckV out.2.1) H'
/-- a head's contract -/
def HdC (f : FuncId) (rb : Nat) (ev : AV) (hd : Tm → Nat → Tm × Int × Nat) (a : Tm) (n : Nat) : Prop :=
  ∀ (used : Int) (X H : Heap) (Q : AV → Heap → Prop) (R : Value → Heap → Prop), 0 ≤ used → used + n ≤ 1000000000 → HasW rb ev used n X H → TmPost rb ev used n X (hd a n) Q R → ConX Tryz.prog f [.ptr rb 0, tmX a] H Q R
theorem tmArgs_len : ∀ t : Tm, (tmArgs t).length < t.nodes
  | .mk k n nm ls xs => by
    have hp := (Tm.mk k n nm ls xs).nodes_pos
    match xs with
    | [] => exact hp
    | [_] => exact hp
    | [f, b] =>
      unfold tmArgs
      simp only
      by_cases hk : k = 4
      · rw [if_pos hk, List.length_append]
        have e : (Tm.mk k n nm ls [f, b]).nodes = Lv.nodesL ls + (f.nodes + (b.nodes + 0)) + 1 := (Tm.mk k n nm ls [f, b]).nodes_eq
        have := tmArgs_len f
        have := b.nodes_pos
        simp only [List.length_cons, List.length_nil]
        omega
      · rw [if_neg hk]; exact hp
    | _ :: _ :: _ :: _ => exact hp
theorem wCtor_spec {l : List En} (ha : AllRight l) {of : List (List UInt8)} {x : Tm} {ce : En} (h : wCtor l of x = some ce) : (tmHead x).kind = 3 ∧ (tmHead x).name ∈ of ∧ envGet l (tmHead x).name = (ce, true) ∧ ce.kind = 6 ∧ ce.value.kind ≠ 0 ∧ ((tmArgs x).length : Int) = ce.fixed + ce.fields ∧ 0 ≤ ce.fixed ∧ 0 ≤ ce.fields ∧ enRight ce = true := by
  unfold wCtor at h
  split at h
  · rename_i h1
    simp only at h
    split at h
    · rename_i h2
      cases h
      have hk : (envGet l (tmHead x).name).1.kind = 6 := h2.1
      have hr : enRight (envGet l (tmHead x).name).1 = true := by
        rcases envGet_right ha (tmHead x).name with h | h
        · rw [h] at hk; exact absurd hk (by decide)
        · exact h
      have hb := enRight_ctor hr (Or.inl hk)
      refine ⟨h1.1, h1.2, ?_, hk, h2.2.1, h2.2.2, hb.1, hb.2.2.2.2.1, hr⟩
      unfold envGet at hk ⊢
      cases hf : l.find? fun e => decide (e.name = (tmHead x).name) with
      | none => rw [hf] at hk; exact absurd hk (by decide)
      | some e => rfl
    · cases h
  · cases h
set_option maxRecDepth 100000 in
set_option maxHeartbeats 1000000 in
theorem wiota_con {rb : Nat} {te : Tre} {l : List En} (hp : Places te l) (ha : AllRight l) {hd : Tm → Nat → Tm × Int × Nat} (o : Own) (c : Tm) (e : En) (he : enRight e = true) (hk : e.kind = 7) (args : List Tm) (n : Nat) (hs : ∀ t ∈ args, t.nodes ≤ 2000) (hl : args.length ≤ 2000)
    (hhd : ∀ a ∈ args, HdC 49 rb (envX te l) hd a n) (hsx : ∀ a ∈ args, (hd a n).1.nodes ≤ 2000) {used : Int} {X H : Heap} {Q : AV → Heap → Prop} {R : Value → Heap → Prop} (h0 : 0 ≤ used) (h1 : used + n ≤ 1000000000) (h : HasW rb (envX te l) used n X H) (post : FdPost rb (envX te l) used n X (wIota l hd c e args n) Q R) :
    ConX Tryz.prog 114 [.ptr rb 0, tmX c, enX e, .sl o 5 (args.map tmA)] H Q R := by
  obtain ⟨hb1, hb2, hb3, hb4, hb5, hb6⟩ := enRight_ctor he (Or.inr hk)
  have hct := (enRight_small he).2.2
  have hln : (args.map tmA).length = args.length := List.length_map _
  have hcl : (e.ctors.map AV.str).length = e.ctors.length := List.length_map _
  obtain ⟨fx, hfx⟩ : ∃ fx : Nat, e.fixed = fx := ⟨e.fixed.toNat, by omega⟩
  obtain ⟨ix, hix⟩ : ∃ ix : Nat, e.index = ix := ⟨e.index.toNat, by omega⟩
  obtain ⟨out, hout⟩ : ∃ out, wIota l hd c e args n = out := ⟨_, rfl⟩
  rw [hout] at post
  unfold wIota at hout
  rw [hfx, hix] at hout
  simp only [Int.toNat_natCast] at hout
  refine ConX.ices ?_
  refine conX_of_sem tab_ok Tryz.func114 rfl (ent Tryz.func114 (by kernel_rfl) rfl) (by kernel_rfl) ?_
  intro hw hn
  clear hw hn
  refine sem_seq (esc := [5, 7, 9, 10].contains) tab_ok mixed ?_
  intro b5 hb5 b7 hb7
  clear hb5 hb7
  obtain ⟨F, hF⟩ : ∃ F : Int, e.fixed + 1 + ((e.ctors.map AV.str).length : Nat) = F := ⟨_, rfl⟩
  have hFn : F = ((fx + 1 + e.ctors.length : Nat) : Int) := by rw [← hF, hcl, hfx]; omega
  refine sem_seq (esc := [5, 7, 9, 10].contains) tab_ok mixed ?_
  refine ⟨in64_of (by omega) (by omega), ?_⟩
  refine ⟨in64_of (by omega) (by omega), ?_⟩
  intro b9 hb9
  clear hb9
  refine ⟨_, _, .here, Nat.le_refl _, ?_⟩
  refine sem_hle ((b9, .cells [.i F]) :: (b7, .cells [.sl o 5 (args.map tmA)]) :: (b5, .cells (tmX c).cells) :: H) (HLe.here ⟨le_of_eq (congrArg AV.i hF), trivial⟩ (HLe.refl _)) ?_
  refine sem_seq (esc := [5, 7, 9, 10].contains) tab_ok mixed ?_
  refine ⟨_, List.mem_cons_self, ?_⟩
  refine ⟨in64_of (by omega) (by omega), ?_⟩
  intro b10 hb10
  clear hb10
  refine ⟨_, _, .here, Nat.le_refl _, ?_⟩
  refine sem_le ⟨[(0, .g (.ptr rb 0)), (5, .g (.ptr b5 0)), (6, .lp 6 0), (7, .g (.ptr b7 0)), (8, .lp 8 0), (9, .g (.ptr b9 0)), (10, .g (.ptr b10 0))], [(8, [.i 0, .v .nilFunc]), (6, (enX e).cells)], (b10, .cells [.i (F + e.index)]) :: (b9, .cells [.i F]) :: (b7, .cells [.sl o 5 (args.map tmA)]) :: (b5, .cells (tmX c).cells) :: H⟩ ⟨⟨Le.refl _, Le.refl _, ⟨rfl, rfl⟩, Le.refl _, ⟨rfl, rfl⟩, Le.refl _, Le.refl _, trivial⟩, ⟨⟨rfl, LeL.refl _⟩, ⟨rfl, LeL.refl _⟩, trivial⟩, List.Sublist.refl _⟩ ?_
  have hG : HasW rb (envX te l) used n (boxes [(b10, [.i (F + e.index)]), (b9, [.i F]), (b7, [.sl o 5 (args.map tmA)]), (b5, (tmX c).cells)] ++ X) ((b10, .cells [.i (F + e.index)]) :: (b9, .cells [.i F]) :: (b7, .cells [.sl o 5 (args.map tmA)]) :: (b5, .cells (tmX c).cells) :: H) := h.under _
  have fin0 : ∀ (u : Int) (m : Nat), HasW rb (envX te l) u m X ((rb, .cells [envX te l, .i u, .i m]) :: X) := fun _ _ => List.Perm.refl _
  have hmj : F + e.index = ((fx + 1 + e.ctors.length + ix : Nat) : Int) := by rw [hFn, hix]; omega
  refine sem_seq (esc := [5, 7, 9, 10].contains) tab_ok mixed ?_
  refine ⟨_, List.mem_cons_of_mem _ (List.mem_cons_of_mem _ List.mem_cons_self), ?_⟩
  refine ⟨_, List.mem_cons_self, ?_⟩
  refine ifB_dec (fun g1 => ?_) (fun g1 => ?_)
  · have hz : args[fx + 1 + e.ctors.length + ix]? = none := List.getElem?_eq_none (by omega)
    rw [hz] at hout
    simp only at hout
    subst hout
    have hpost := post _ (fin0 (used + ((n : Int) - (n : Nat))) n)
    rw [show used + ((n : Int) - (n : Nat)) = used by omega] at hpost
    exact ⟨_, _, Le.refl _, List.Sublist.refl _, [(b10, [.i (F + e.index)]), (b9, [.i F]), (b7, [.sl o 5 (args.map tmA)]), (b5, (tmX c).cells)], _, _, hG.out, fun M _ => LeM.refl _, hpost⟩
  · have hlt : fx + 1 + e.ctors.length + ix < args.length := by omega
    obtain ⟨a, haq⟩ : ∃ a, args[fx + 1 + e.ctors.length + ix] = a := ⟨_, rfl⟩
    have ham : a ∈ args := haq ▸ List.getElem_mem hlt
    have hat : args[fx + 1 + e.ctors.length + ix]? = some a := by rw [List.getElem?_eq_getElem hlt, haq]
    rw [hat] at hout
    simp only at hout
    have hda := hhd a ham used (boxes [(b10, [.i (F + e.index)]), (b9, [.i F]), (b7, [.sl o 5 (args.map tmA)]), (b5, (tmX c).cells)] ++ X)
    have hxn := hsx a ham
    unfold TmPost at hda
    obtain ⟨x, err, n', hdv⟩ : ∃ x err n', hd a n = (x, err, n') := ⟨_, _, _, rfl⟩
    rw [hdv] at hda hout hxn
    simp only at hda hout hxn
    obtain ⟨used', hus⟩ : ∃ u', used + ((n : Int) - (n' : Nat)) = u' := ⟨_, rfl⟩
    rw [hus] at hda
    have mem7 : ∀ {H1 : Heap}, HasW rb (envX te l) used' n' (boxes [(b10, [.i (F + e.index)]), (b9, [.i F]), (b7, [.sl o 5 (args.map tmA)]), (b5, (tmX c).cells)] ++ X) H1 → ∀ q ∈ [(b7, AObj.cells [.sl o 5 (args.map tmA)]), (b10, .cells [.i (F + e.index)])], q ∈ H1 := fun hH q hq => by
      refine hH.out.mem_iff.2 ?_
      rcases List.mem_cons.1 hq with rfl | hq
      · exact List.mem_cons_of_mem _ (List.mem_cons_of_mem _ List.mem_cons_self)
      · rw [List.mem_singleton.1 hq]; exact List.mem_cons_self
    have pins0 : ∀ q ∈ [(b7, AObj.cells [.sl o 5 (args.map tmA)]), (b10, .cells [.i (F + e.index)])], q ∈ (b10, AObj.cells [.i (F + e.index)]) :: (b9, .cells [.i F]) :: (b7, .cells [.sl o 5 (args.map tmA)]) :: (b5, .cells (tmX c).cells) :: H := fun q hq => by
      rcases List.mem_cons.1 hq with rfl | hq
      · exact List.mem_cons_of_mem _ (List.mem_cons_of_mem _ List.mem_cons_self)
      · rw [List.mem_singleton.1 hq]; exact List.mem_cons_self
    by_cases herr : err = 0
    rotate_left
    · have hda1 : ∀ (H' : Heap) (Q : AV → Heap → Prop) (R : Value → Heap → Prop), HasW rb (envX te l) used n (boxes [(b10, [.i (F + e.index)]), (b9, [.i F]), (b7, [.sl o 5 (args.map tmA)]), (b5, (tmX c).cells)] ++ X) H' → (∀ H1, HasW rb (envX te l) used' n' (boxes [(b10, [.i (F + e.index)]), (b9, [.i F]), (b7, [.sl o 5 (args.map tmA)]), (b5, (tmX c).cells)] ++ X) H1 → R (stuckV err) H1) → ConX Tryz.prog 49 [.ptr rb 0, tmX a] H' Q R :=
        fun H' Q R hw hr => hda H' Q R h0 h1 hw fun H1 hH1 => by rw [if_neg herr]; exact hr H1 hH1
      rw [if_neg herr] at hout
      subst hout
      have hpost := post _ (fin0 (used + ((n : Int) - (n' : Nat))) n')
      rw [hus] at hpost
      refine sem_seq (esc := [5, 7, 9, 10].contains) tab_ok mixed ?_
      refine ⟨[0, 1, 2, 3, 4, 5, 7, 8, 14, 15, 6, 9, 10, 11, 12, 13, 16, 17, 18], [(b7, .cells [.sl o 5 (args.map tmA)]), (b10, .cells [.i (F + e.index)])], by kernel_rfl, pins0, ?_⟩
      refine ⟨_, List.mem_cons_self, ?_⟩
      refine ⟨_, List.mem_cons_of_mem _ List.mem_cons_self, ?_⟩
      refine ⟨_, hmj, _, tmAtS hat, ?_⟩
      refine ⟨pins0, ?_⟩
      refine ⟨pins0, ?_⟩
      refine ⟨_, LeL.refl _, hda1 _ _ _ hG fun H1 hH1 => ?_⟩
      obtain ⟨H2, k1, k2⟩ := sub_of_perm hH1.out
      exact ⟨H2, k1, _, k2.symm, hpost⟩
    · have hda0 : ∀ (H' : Heap) (Q : AV → Heap → Prop) (R : Value → Heap → Prop), HasW rb (envX te l) used n (boxes [(b10, [.i (F + e.index)]), (b9, [.i F]), (b7, [.sl o 5 (args.map tmA)]), (b5, (tmX c).cells)] ++ X) H' → (∀ H1, HasW rb (envX te l) used' n' (boxes [(b10, [.i (F + e.index)]), (b9, [.i F]), (b7, [.sl o 5 (args.map tmA)]), (b5, (tmX c).cells)] ++ X) H1 → Q (tmX x) H1) → ConX Tryz.prog 49 [.ptr rb 0, tmX a] H' Q R :=
        fun H' Q R hw hr => hda H' Q R h0 h1 hw fun H1 hH1 => by rw [if_pos herr]; exact hr H1 hH1
      rw [if_pos herr] at hout
      obtain ⟨wc, hwc⟩ : ∃ wc, wCtor l e.ctors x = wc := ⟨_, rfl⟩
      rw [hwc] at hout
      have hctor := fun {H1 : Heap} {Q : AV → Heap → Prop} (hH : HasW rb (envX te l) used' n' (boxes [(b10, [.i (F + e.index)]), (b9, [.i F]), (b7, [.sl o 5 (args.map tmA)]), (b5, (tmX c).cells)] ++ X) H1) => wctor_con (Q := Q) hp ha x (by omega) .no e.ctors hH
      rw [hwc] at hctor
      cases wc with
      | none =>
        simp only at hout
        subst hout
        have hpost := post _ (fin0 (used + ((n : Int) - (n' : Nat))) n')
        rw [hus] at hpost
        refine sem_seq (esc := [5, 7, 9, 10].contains) tab_ok mixed ?_
        refine ⟨[0, 1, 2, 3, 4, 5, 7, 8, 14, 15, 6, 9, 10, 11, 12, 13, 16, 17, 18], [(b7, .cells [.sl o 5 (args.map tmA)]), (b10, .cells [.i (F + e.index)])], by kernel_rfl, pins0, ?_⟩
        refine ⟨_, List.mem_cons_self, ?_⟩
        refine ⟨_, List.mem_cons_of_mem _ List.mem_cons_self, ?_⟩
        refine ⟨_, hmj, _, tmAtS hat, ?_⟩
        refine ⟨pins0, ?_⟩
        refine ⟨pins0, ?_⟩
        refine ⟨_, LeL.refl _, hda0 _ _ _ hG fun H1 hH1 => ?_⟩
        intro hz1 hz2; clear hz1 hz2
        refine ⟨mem7 hH1, ?_⟩
        refine ⟨_, LeL.refl _, Con.x (hctor hH1 nofun fun _ ce ys => ?_)⟩
        intro hz1 hz2; clear hz1 hz2
        refine ⟨mem7 hH1, ?_⟩
        refine sem_seq (esc := [5, 7, 9, 10].contains) tab_ok mixed ?_
        exact ⟨_, _, Le.refl _, List.Sublist.refl _, [(b10, [.i (F + e.index)]), (b9, [.i F]), (b7, [.sl o 5 (args.map tmA)]), (b5, (tmX c).cells)], _, _, hH1.out, fun M _ => LeM.refl _, hpost⟩
      | some ce =>
        simp only at hout
        obtain ⟨_, _, _, _, _, w1, w2, w3, _⟩ := wCtor_spec ha hwc
        obtain ⟨k, hk⟩ : ∃ k : Nat, ce.fixed = k := ⟨ce.fixed.toNat, by omega⟩
        have hax : ∀ t ∈ tmArgs x, t.nodes ≤ 1000000 := fun t ht => by have := tmArgs_nodes x t ht; omega
        have hlx : (tmArgs x).length ≤ 100000 := by have := tmArgs_len x; omega
        have hclo : Clo rb (envX te l) 141 [.ip (enX ce).cells, .ip (tmX c).cells, .ip [.sl o 5 (args.map tmA)], .ip [.i ((fx + 1 + e.ctors.length : Nat) : Int)], .ip [.sl .no 5 ((tmArgs x).map tmA)], .ip [.i ((fx + 1 + e.ctors.length + ix : Nat) : Int)]] _ _ :=
          Clo.of (iota1_con o .no ce c args (tmArgs x) (fx + 1 + e.ctors.length) (fx + 1 + e.ctors.length + ix) k hk (by omega) (by omega) (by omega) (fun t ht => by have := hs t ht; omega) hax (by omega) hlx)
        subst hout
        have hpost := post _ (fin0 (used + ((n : Int) - (n' : Nat))) n')
        rw [hus] at hpost
        unfold wRule at hpost
        simp only [hk, Int.toNat_natCast] at hpost
        have hpost := hpost _ _ hclo
        refine sem_seq (esc := [5, 7, 9, 10].contains) tab_ok mixed ?_
        refine ⟨[0, 1, 2, 3, 4, 5, 7, 8, 14, 15, 6, 9, 10, 11, 12, 13, 16, 17, 18], [(b7, .cells [.sl o 5 (args.map tmA)]), (b10, .cells [.i (F + e.index)])], by kernel_rfl, pins0, ?_⟩
        refine ⟨_, List.mem_cons_self, ?_⟩
        refine ⟨_, List.mem_cons_of_mem _ List.mem_cons_self, ?_⟩
        refine ⟨_, hmj, _, tmAtS hat, ?_⟩
        refine ⟨pins0, ?_⟩
        refine ⟨pins0, ?_⟩
        refine ⟨_, LeL.refl _, hda0 _ _ _ hG fun H1 hH1 => ?_⟩
        intro hz1 hz2; clear hz1 hz2
        refine ⟨mem7 hH1, ?_⟩
        refine ⟨_, LeL.refl _, Con.x (hctor hH1 (fun ce' hce => ?_) nofun)⟩
        cases hce
        intro hz1 hz2; clear hz1 hz2
        refine ⟨mem7 hH1, ?_⟩
        refine sem_le ⟨[(5, .g (.ptr b5 0)), (7, .g (.ptr b7 0)), (8, .lp 8 0), (9, .g (.ptr b9 0)), (10, .g (.ptr b10 0)), (11, .lp 11 0), (12, .lp 12 0), (13, .g (.b true))], [(12, [.sl .no 5 ((tmArgs x).map tmA)]), (11, (enX ce).cells), (8, [.i 0, .v .nilFunc]), (6, (enX e).cells)], H1⟩ ⟨⟨Le.refl _, Le.refl _, ⟨rfl, rfl⟩, Le.refl _, Le.refl _, ⟨rfl, rfl⟩, ⟨rfl, rfl⟩, Le.refl _, trivial⟩, ⟨⟨rfl, LeL.refl _⟩, ⟨rfl, LeL.refl _⟩, ⟨rfl, LeL.refl _⟩, ⟨rfl, LeL.refl _⟩, trivial⟩, List.Sublist.refl _⟩ ?_
        refine sem_seq (esc := [5, 7, 9, 10].contains) tab_ok mixed ?_
        refine sem_move 12 .here (fun b12 => [(5, .g (.ptr b5 0)), (7, .g (.ptr b7 0)), (8, .lp 8 0), (9, .g (.ptr b9 0)), (10, .g (.ptr b10 0)), (11, .lp 11 0), (12, .g (.ptr b12 0))]) (fun b12 => ⟨Or.inl (Le.refl _), Or.inl (Le.refl _), Or.inl ⟨rfl, rfl⟩, Or.inl (Le.refl _), Or.inl (Le.refl _), Or.inl ⟨rfl, rfl⟩, Or.inr ⟨0, rfl, rfl⟩, trivial⟩) fun b12 _ => ?_
        refine sem_move 11 .here (fun b11 => [(5, .g (.ptr b5 0)), (7, .g (.ptr b7 0)), (8, .lp 8 0), (9, .g (.ptr b9 0)), (10, .g (.ptr b10 0)), (11, .g (.ptr b11 0)), (12, .g (.ptr b12 0))]) (fun b11 => ⟨Or.inl (Le.refl _), Or.inl (Le.refl _), Or.inl ⟨rfl, rfl⟩, Or.inl (Le.refl _), Or.inl (Le.refl _), Or.inr ⟨0, rfl, rfl⟩, Or.inl (Le.refl _), trivial⟩) fun b11 _ => ?_
        refine sem_of (esc := fun _ => false) tab_ok mixed ?_
        refine ⟨_, _, Le.refl _, List.Sublist.refl _, [(b11, (enX ce).cells), (b12, [.sl .no 5 ((tmArgs x).map tmA)]), (b10, [.i (F + e.index)]), (b9, [.i F]), (b7, [.sl o 5 (args.map tmA)]), (b5, (tmX c).cells)], _, _, (hH1.out.cons _).cons _, fun M hM => ?_, hpost⟩
        have m11 := hM _ (List.mem_cons_self)
        have m12 := hM (b12, [.sl .no 5 ((tmArgs x).map tmA)]) (by simp)
        have m10 := hM (b10, [.i (F + e.index)]) (by simp)
        have m9 := hM (b9, [.i F]) (by simp)
        have m7 := hM (b7, [.sl o 5 (args.map tmA)]) (by simp)
        have m5 := hM (b5, (tmX c).cells) (by simp)
        refine LeM.agg ⟨LeM.refl _, LeM.fn ⟨ptr_ice m11, ptr_ice m5, ptr_ice m7, ?_, ptr_ice m12, ?_, trivial⟩, trivial⟩
        · exact (ptr_ice m9).trans ((le_of_eq (by rw [hFn])).m M)
        · exact (ptr_ice m10).trans ((le_of_eq (by rw [hmj])).m M)
end Go.Proofs.YtahdkhklngjmoaaGreatDoor

/-
  Whnf: a constant's step, what is found. No condition.
-/
namespace Go.Proofs.YtahdkhklngjmoaaGreatDoor
open Go.RowKit

theorem wFind_const {l : List En} {hd : Tm → Nat → Tm × Int × Nat} {t : Tm} {n : Nat} (h : (tmHead t).kind = 3) : wFind l hd t n = wConst l hd (tmHead t) (tmArgs t) n := by
  unfold wFind
  split
  · rename_i h1 _ _; rw [h] at h1; exact absurd h1 (by decide)
  · rename_i h1 _; rw [h] at h1; exact absurd h1 (by decide)
  · rfl
  · rename_i a b c; first | exact absurd h a | exact absurd h b | exact absurd h c | exact (a h).elim | exact (b h).elim | exact (c h).elim
theorem wFind_none {l : List En} {hd : Tm → Nat → Tm × Int × Nat} {t : Tm} {n : Nat} (h5 : ¬(tmHead t).kind = 5) (h7 : ¬(tmHead t).kind = 7) (h3 : ¬(tmHead t).kind = 3) : wFind l hd t n = (.none, n) := by
  unfold wFind
  split
  · rename_i h1 _ _; exact absurd h1 h5
  · rename_i h1 _; exact absurd h1 h7
  · rename_i h1; exact absurd h1 h3
  · rfl
section
variable {rb : Nat} {te : Tre} {l : List En} {hd : Tm → Nat → Tm × Int × Nat} {used : Int} {X H : Heap} {Q : AV → Heap → Prop} {R : Value → Heap → Prop}
/-- what is answered leaves the heap as it was -/
theorem FdPost.same {ev : AV} {n : Nat} {fd : Fd} (post : FdPost rb ev used n X (fd, n) Q R) (h : HasW rb ev used n X H) : FdEnd rb ev fd Q R H := by
  refine post H ?_
  simp only
  rw [show used + ((n : Int) - (n : Nat)) = used by omega]
  exact h
set_option maxRecDepth 100000 in
set_option maxHeartbeats 1000000 in
theorem wconst_con (hp : Places te l) (ha : AllRight l) (o : Own) (c : Tm) (args : List Tm) (n : Nat) (hs : ∀ t ∈ args, t.nodes ≤ 2000) (hl : args.length ≤ 2000)
    (hhd : ∀ a ∈ args, HdC 49 rb (envX te l) hd a n) (hsx : ∀ a ∈ args, (hd a n).1.nodes ≤ 2000) (h0 : 0 ≤ used) (h1 : used + n ≤ 1000000000) (h : HasW rb (envX te l) used n X H) (post : FdPost rb (envX te l) used n X (wConst l hd c args n) Q R) :
    ConX Tryz.prog 89 [.ptr rb 0, tmX c, .sl o 5 (args.map tmA)] H Q R := by
  have hin := h.mem
  have hcl : (c.levels.map lvA).length = c.levels.length := List.length_map _
  have hs' : ∀ t ∈ args, t.nodes ≤ 1000000 := fun t ht => by have := hs t ht; omega
  have hgr := envGet_right ha c.name
  obtain ⟨e, q, heq⟩ : ∃ e q, envGet l c.name = (e, q) := ⟨_, _, rfl⟩
  have hget := envGet_con te l hp ha c.name
  rw [heq] at hget hgr
  unfold wConst at post
  rw [heq] at post
  simp only at hget post hgr
  refine conX_of_sem tab_ok Tryz.func89 rfl (ent Tryz.func89 (by kernel_rfl) rfl) (by kernel_rfl) ?_
  intro hw hn
  clear hw hn
  refine sem_seq (esc := fun _ => false) tab_ok mixed ?_
  refine sem_seq (esc := fun _ => false) tab_ok mixed ?_
  refine ⟨[0, 1, 2, 3, 4, 5, 10, 6, 7, 8, 9, 11, 12], [(rb, .cells [envX te l, .i used, .i n])], by kernel_rfl, pin1 hin, ?_⟩
  refine ⟨_, List.mem_singleton.2 rfl, ?_⟩
  refine ⟨pin1 hin, ?_⟩
  refine ⟨_, LeL.refl _, Con.x (hget _ _ ?_)⟩
  intro hz1 hz2; clear hz1 hz2
  refine ⟨pin1 hin, ?_⟩
  refine sem_le ⟨[(0, .g (.ptr rb 0)), (2, .g (.sl o 5 (args.map tmA))), (4, .lp 4 0), (6, .lp 6 0), (7, .lp 7 0), (8, .g (.b q))], [(7, (enX e).cells), (6, [.i 0, .v .nilFunc]), (4, (tmX c).cells)], H⟩ ⟨⟨Le.refl _, Le.refl _, ⟨rfl, rfl⟩, ⟨rfl, rfl⟩, ⟨rfl, rfl⟩, Le.refl _, trivial⟩, ⟨⟨rfl, LeL.refl _⟩, ⟨rfl, LeL.refl _⟩, ⟨rfl, LeL.refl _⟩, trivial⟩, List.Sublist.refl _⟩ ?_
  cases q with
  | false =>
    rw [if_neg (fun h => absurd h.1 (by decide))] at post
    have hq := post.same h
    refine sem_of (esc := fun _ => false) tab_ok mixed ?_
    exact ⟨_, H, Le.refl _, List.Sublist.refl _, hq⟩
  | true =>
    have her : enRight e = true := by
      rcases hgr with h | h
      · cases h
      · exact h
    refine sem_of (esc := fun _ => false) tab_ok mixed ?_
    refine ifB_dec (fun g1 => ?_) (fun g1 => ?_)
    · rw [hcl] at g1
      rw [if_pos ⟨rfl, g1⟩] at post
      refine ifB_dec (fun k2 => ?_) (fun k2 => ?_)
      · rw [if_pos k2] at post
        have hq := post.same h _ _ (delta1_con (rb := rb) o o hp c args (e := e) heq hs' (by omega))
        refine ⟨_, LeL.refl _, Con.x (delta_con o c args _ _ ?_)⟩
        intro hz1 hz2; clear hz1 hz2
        exact ⟨_, H, Le.refl _, List.Sublist.refl _, hq⟩
      · rw [if_neg k2] at post
        refine ifB_dec (fun k7 => ?_) (fun k7 => ?_)
        · rw [if_pos k7] at post
          have hio := fun {Q : AV → Heap → Prop} {R : Value → Heap → Prop} => wiota_con (Q := Q) (R := R) hp ha o c e her k7 args n hs hl hhd hsx h0 h1 h
          obtain ⟨⟨fd, n'⟩, hout⟩ : ∃ out, wIota l hd c e args n = out := ⟨_, rfl⟩
          rw [hout] at post hio
          cases fd with
          | none =>
            refine ⟨_, LeL.refl _, hio fun H1 hH1 => ?_⟩
            intro hz1 hz2; clear hz1 hz2
            exact ⟨_, H1, Le.refl _, List.Sublist.refl _, post H1 hH1⟩
          | rx k u ok =>
            refine ⟨_, LeL.refl _, hio fun H1 hH1 g caps hc => ?_⟩
            intro hz1 hz2; clear hz1 hz2
            exact ⟨_, H1, Le.refl _, List.Sublist.refl _, post H1 hH1 g caps hc⟩
          | err err =>
            refine ⟨_, LeL.refl _, hio fun H1 hH1 => ?_⟩
            exact ⟨H1, List.Sublist.refl _, post H1 hH1⟩
        · rw [if_neg k7] at post
          have hq := post.same h
          exact ⟨_, H, Le.refl _, List.Sublist.refl _, hq⟩
    · rw [if_neg (fun h => g1 (by rw [hcl]; exact h.2))] at post
      have hq := post.same h
      exact ⟨_, H, Le.refl _, List.Sublist.refl _, hq⟩
set_option maxRecDepth 100000 in
set_option maxHeartbeats 1000000 in
theorem wfind_con (hp : Places te l) (ha : AllRight l) (t : Tm) (ht : t.nodes ≤ 2000) (h5 : (tmHead t).kind = 5 → (tmHead t).args.length = 2) (h7 : (tmHead t).kind = 7 → (tmHead t).args.length = 3) (n : Nat)
    (hhd : ∀ a ∈ tmArgs t, HdC 49 rb (envX te l) hd a n) (hsx : ∀ a ∈ tmArgs t, (hd a n).1.nodes ≤ 2000) (h0 : 0 ≤ used) (h1 : used + n ≤ 1000000000) (h : HasW rb (envX te l) used n X H) (post : FdPost rb (envX te l) used n X (wFind l hd t n) Q R) :
    ConX Tryz.prog 69 [.ptr rb 0, tmX t] H Q R := by
  have hs : ∀ a ∈ tmArgs t, a.nodes ≤ 2000 := fun a ha => by have := tmArgs_nodes t a ha; omega
  have hs' : ∀ a ∈ tmArgs t, a.nodes ≤ 1000000 := fun a ha => by have := hs a ha; omega
  have hl : (tmArgs t).length ≤ 2000 := by have := tmArgs_len t; omega
  have hln : ((tmArgs t).map tmA).length = (tmArgs t).length := List.length_map _
  obtain ⟨f, hf⟩ : ∃ f, tmHead t = f := ⟨_, rfl⟩
  obtain ⟨as', has⟩ : ∃ as', tmArgs t = as' := ⟨_, rfl⟩
  have hsp := Spine_con t (by omega)
  unfold wFind at post
  rw [hf, has] at hsp post
  rw [hf] at h5 h7
  rw [has] at hs hs' hl hln hhd hsx
  refine conX_of_sem tab_ok Tryz.func69 rfl (ent Tryz.func69 (by kernel_rfl) rfl) (by kernel_rfl) ?_
  intro hw hn
  clear hw hn
  refine sem_seq (esc := fun _ => false) tab_ok mixed ?_
  refine sem_seq (esc := fun _ => false) tab_ok mixed ?_
  refine ⟨_, LeL.refl _, Con.x (hsp _ _ ?_)⟩
  intro hz1 hz2; clear hz1 hz2
  refine sem_le ⟨[(0, .g (.ptr rb 0)), (4, .lp 4 0), (5, .lp 5 0), (6, .g (.sl .no 5 (as'.map tmA)))], [(5, (tmX f).cells), (4, [.i 0, .v .nilFunc]), (3, (tmX t).cells)], H⟩ ⟨⟨Le.refl _, ⟨rfl, rfl⟩, ⟨rfl, rfl⟩, Le.refl _, trivial⟩, ⟨⟨rfl, LeL.refl _⟩, ⟨rfl, LeL.refl _⟩, ⟨rfl, LeL.refl _⟩, trivial⟩, List.Sublist.refl _⟩ ?_
  refine sem_of (esc := fun _ => false) tab_ok mixed ?_
  refine ifB_dec (fun k5 => ?_) (fun k5 => ?_)
  · obtain ⟨x0, b, hab⟩ : ∃ x0 b, f.args = [x0, b] := by
      have := h5 k5
      match hx : f.args, this with
      | [x0, b], _ => exact ⟨x0, b, rfl⟩
    have hb1 : f.args[1]? = some b := by rw [hab]; rfl
    refine ifB_dec (fun g1 => ?_) (fun g1 => ?_)
    · cases as' with
      | nil => exact absurd g1 (by decide)
      | cons a ys =>
        have hpost : FdPost rb (envX te l) used n X (.rx 1 (tmAps (bInst b [a]).1 ys) (bInst b [a]).2, n) Q R := by
          rw [k5, hab] at post
          exact post
        have hq := hpost.same h _ _ (Clo.of (beta1_con .no f b a (a :: ys) hb1 rfl hs' (by omega)))
        refine ⟨_, LeL.refl _, Con.x (beta_con .no f (a :: ys) _ _ ?_)⟩
        intro hz1 hz2; clear hz1 hz2
        exact ⟨_, H, Le.refl _, List.Sublist.refl _, hq⟩
    · have h0 : as' = [] := by
        cases as' with
        | nil => rfl
        | cons a ys => exact absurd (show (0 : Int) < (((a :: ys).map tmA).length : Nat) by rw [List.length_map, List.length_cons]; omega) g1
      have hpost : FdPost rb (envX te l) used n X (.none, n) Q R := by
        rw [k5, hab, h0] at post
        exact post
      have hq := hpost.same h
      refine ifB_dec (fun k7 => ?_) (fun k7 => ?_)
      · exact absurd (k5.symm.trans k7) (by decide)
      refine ifB_dec (fun k3 => ?_) (fun k3 => ?_)
      · exact absurd (k5.symm.trans k3) (by decide)
      exact ⟨_, H, Le.refl _, List.Sublist.refl _, hq⟩
  · refine ifB_dec (fun k7 => ?_) (fun k7 => ?_)
    · obtain ⟨x0, v, b, hab⟩ : ∃ x0 v b, f.args = [x0, v, b] := by
        have := h7 k7
        match hx : f.args, this with
        | [x0, v, b], _ => exact ⟨x0, v, b, rfl⟩
      have hv1 : f.args[1]? = some v := by rw [hab]; rfl
      have hb1 : f.args[2]? = some b := by rw [hab]; rfl
      have hpost : FdPost rb (envX te l) used n X (.rx 2 (tmAps (bInst b [v]).1 as') (bInst b [v]).2, n) Q R := by
        rw [k7, hab] at post
        exact post
      have hq := hpost.same h _ _ (Clo.of (zeta1_con .no f v b as' hv1 hb1 hs' (by omega)))
      refine ⟨_, LeL.refl _, Con.x (zeta_con .no f as' _ _ ?_)⟩
      intro hz1 hz2; clear hz1 hz2
      exact ⟨_, H, Le.refl _, List.Sublist.refl _, hq⟩
    · refine ifB_dec (fun k3 => ?_) (fun k3 => ?_)
      · have hpost : FdPost rb (envX te l) used n X (wConst l hd f as' n) Q R := by
          have := wFind_const (l := l) (hd := hd) (n := n) (t := t) (by rw [hf]; exact k3)
          unfold wFind at this
          rw [hf, has] at this
          rw [← this]
          exact post
        have hio := fun {Q : AV → Heap → Prop} {R : Value → Heap → Prop} => wconst_con (Q := Q) (R := R) hp ha .no f as' n hs hl hhd hsx h0 h1 h
        obtain ⟨⟨fd, n'⟩, hout⟩ : ∃ out, wConst l hd f as' n = out := ⟨_, rfl⟩
        rw [hout] at hpost hio
        cases fd with
        | none =>
          refine ⟨_, LeL.refl _, hio fun H1 hH1 => ?_⟩
          intro hz1 hz2; clear hz1 hz2
          exact ⟨_, H1, Le.refl _, List.Sublist.refl _, hpost H1 hH1⟩
        | rx k u ok =>
          refine ⟨_, LeL.refl _, hio fun H1 hH1 g caps hc => ?_⟩
          intro hz1 hz2; clear hz1 hz2
          exact ⟨_, H1, Le.refl _, List.Sublist.refl _, hpost H1 hH1 g caps hc⟩
        | err err =>
          refine ⟨_, LeL.refl _, hio fun H1 hH1 => ?_⟩
          exact ⟨H1, List.Sublist.refl _, hpost H1 hH1⟩
      · have hpost : FdPost rb (envX te l) used n X (.none, n) Q R := by
          have := wFind_none (l := l) (hd := hd) (n := n) (t := t) (by rw [hf]; exact k5) (by rw [hf]; exact k7) (by rw [hf]; exact k3)
          unfold wFind at this
          rw [hf, has] at this
          rw [← this]
          exact post
        have hq := hpost.same h
        exact ⟨_, H, Le.refl _, List.Sublist.refl _, hq⟩
end
end Go.Proofs.YtahdkhklngjmoaaGreatDoor

/-
  Whnf: step, head. No condition.
-/
namespace Go.Proofs.YtahdkhklngjmoaaGreatDoor
open Go.RowKit

/-- what a step answers -/
def SpEnd (t : Tm) (sp : Sp) (Q : AV → Heap → Prop) (R : Value → Heap → Prop) (H : Heap) : Prop :=
  match sp with
  | .none => Q (.tup [tmX t, .i 0]) H
  | .to k u => Q (.tup [tmX u, .i k]) H
  | .err e => R (stuckV e) H
def SpPost (rb : Nat) (ev : AV) (used : Int) (n : Nat) (X : Heap) (t : Tm) (out : Sp × Nat) (Q : AV → Heap → Prop) (R : Value → Heap → Prop) : Prop :=
  ∀ H', HasW rb ev (used + ((n : Int) - (out.2 : Nat))) (out.2 : Nat) X H' → SpEnd t out.1 Q R H'
theorem wFind_kind {l : List En} {hd : Tm → Nat → Tm × Int × Nat} {t : Tm} {n : Nat} {k : Int} {u : Tm} {ok : Bool} (h : (wFind l hd t n).1 = .rx k u ok) : k ≠ 0 := by
  have hi : ∀ c e as', (wIota l hd c e as' n).1 = .rx k u ok → k ≠ 0 := fun c e as' h => by
    unfold wIota at h
    simp only at h
    split at h
    · cases h
    · split at h
      · split at h
        · unfold wRule at h
          cases h; decide
        · cases h
      · cases h
  have hc : ∀ c as', (wConst l hd c as' n).1 = .rx k u ok → k ≠ 0 := fun c as' h => by
    unfold wConst at h
    split at h
    · split at h
      · cases h; decide
      · split at h
        · exact hi _ _ _ h
        · cases h
    · cases h
  unfold wFind at h
  split at h
  · cases h; decide
  · cases h; decide
  · exact hc _ _ h
  · cases h
section
variable {rb : Nat} {te : Tre} {l : List En} {hd : Tm → Nat → Tm × Int × Nat} {used : Int} {X H : Heap} {Q : AV → Heap → Prop} {R : Value → Heap → Prop}
set_option maxRecDepth 100000 in
set_option maxHeartbeats 1000000 in
theorem wstep_con (hp : Places te l) (ha : AllRight l) (t : Tm) (ht : t.nodes ≤ 2000) (h5 : (tmHead t).kind = 5 → (tmHead t).args.length = 2) (h7 : (tmHead t).kind = 7 → (tmHead t).args.length = 3) (n : Nat)
    (hhd : ∀ a ∈ tmArgs t, HdC 49 rb (envX te l) hd a n) (hsx : ∀ a ∈ tmArgs t, (hd a n).1.nodes ≤ 2000) (hkp : Keeps hd) (h0 : 0 ≤ used) (h1 : used + n ≤ 1000000000) (h : HasW rb (envX te l) used n X H) (post : SpPost rb (envX te l) used n X t (wDone (wFind l hd t n)) Q R) :
    ConX Tryz.prog 51 [.ptr rb 0, tmX t] H Q R := by
  have hfind := fun {Q : AV → Heap → Prop} {R : Value → Heap → Prop} => wfind_con (Q := Q) (R := R) hp ha t ht h5 h7 n hhd hsx h0 h1 h
  have hleft := wFind_left (l := l) hkp t n
  have hkind := fun {k u ok} => wFind_kind (l := l) (hd := hd) (t := t) (n := n) (k := k) (u := u) (ok := ok)
  obtain ⟨⟨fd, n'⟩, hout⟩ : ∃ out, wFind l hd t n = out := ⟨_, rfl⟩
  rw [hout] at post hfind hleft hkind
  simp only at hleft
  obtain ⟨used', hus⟩ : ∃ u', used + ((n : Int) - (n' : Nat)) = u' := ⟨_, rfl⟩
  unfold FdPost at hfind
  simp only [hus] at hfind
  refine conX_of_sem tab_ok Tryz.func51 rfl (ent Tryz.func51 (by kernel_rfl) rfl) (by kernel_rfl) ?_
  intro hw hn
  clear hw hn
  cases fd with
  | err e =>
    have post : ∀ H', HasW rb (envX te l) used' n' X H' → R (stuckV e) H' := fun H' h => post H' (by rw [← hus] at h; exact h)
    refine sem_seq (esc := fun _ => false) tab_ok mixed ?_
    refine sem_seq (esc := fun _ => false) tab_ok mixed ?_
    refine ⟨_, LeL.refl _, hfind fun H1 hH1 => ?_⟩
    exact ⟨H1, List.Sublist.refl _, post H1 hH1⟩
  | none =>
    have post : ∀ H', HasW rb (envX te l) used' n' X H' → Q (.tup [tmX t, .i 0]) H' := fun H' h => post H' (by rw [← hus] at h; exact h)
    refine sem_seq (esc := fun _ => false) tab_ok mixed ?_
    refine sem_seq (esc := fun _ => false) tab_ok mixed ?_
    refine ⟨_, LeL.refl _, hfind fun H1 hH1 => ?_⟩
    intro hz1 hz2; clear hz1 hz2
    refine sem_of (esc := fun _ => false) tab_ok mixed ?_
    exact ⟨_, H1, Le.refl _, List.Sublist.refl _, post H1 hH1⟩
  | rx k u ok =>
    have hk := hkind rfl
    refine sem_seq (esc := fun _ => false) tab_ok mixed ?_
    refine sem_seq (esc := fun _ => false) tab_ok mixed ?_
    refine ⟨_, LeL.refl _, hfind fun H1 hH1 g caps hclo => ?_⟩
    intro hz1 hz2; clear hz1 hz2
    refine sem_seq (esc := fun _ => false) tab_ok mixed ?_
    refine ifB_dec (fun g1 => ?_) (fun g1 => ?_)
    · exact absurd g1 hk
    cases n' with
    | zero =>
      have post : ∀ H', HasW rb (envX te l) used' (0 : Nat) X H' → R (stuckV 22) H' := fun H' h => post H' (by rw [← hus] at h; exact h)
      refine sem_seq (esc := fun _ => false) tab_ok mixed ?_
      refine ⟨_, LeL.refl _, Con.x (wSpend_con hH1 1 (by omega) (by omega) (by omega) (fun _ => ?_) (fun _ h => by simp at h))⟩
      intro hz1 hz2; clear hz1 hz2
      refine ⟨_, LeL.refl _, wneed_con false 22 nofun fun _ => ⟨H1, List.Sublist.refl _, post H1 hH1⟩⟩
    | succ m =>
      have e1 : used' + 1 = used + ((n : Int) - (m : Nat)) := by omega
      have e2 : ((m + 1 : Nat) : Int) - 1 = (m : Nat) := by omega
      unfold wDone at post
      simp only at post
      cases ok with
      | false =>
        rw [if_neg (fun h => absurd h.1 (by decide))] at post
        refine sem_seq (esc := fun _ => false) tab_ok mixed ?_
        refine ⟨_, LeL.refl _, Con.x (wSpend_con hH1 1 (by omega) (by omega) (by omega) (fun h => by omega) (fun _ _ H2 hH2 => ?_))⟩
        rw [e1, e2] at hH2
        intro hz1 hz2; clear hz1 hz2
        refine ⟨_, LeL.refl _, wneed_con true 22 (fun _ => ?_) nofun⟩
        intro hz1 hz2; clear hz1 hz2
        refine sem_seq (esc := fun _ => false) tab_ok mixed ?_
        refine ⟨_, LeL.refl _, Con.x (hclo _ _ _ H2 _ hH2 ?_)⟩
        intro hz1 hz2; clear hz1 hz2
        refine sem_seq (esc := fun _ => false) tab_ok mixed ?_
        refine ⟨_, LeL.refl _, wneed_con false 15 nofun fun _ => ⟨H2, List.Sublist.refl _, post H2 hH2⟩⟩
      | true =>
        by_cases hu : u.nodes ≤ 2000
        · rw [if_pos ⟨rfl, hu⟩] at post
          refine sem_seq (esc := fun _ => false) tab_ok mixed ?_
          refine ⟨_, LeL.refl _, Con.x (wSpend_con hH1 1 (by omega) (by omega) (by omega) (fun h => by omega) (fun _ _ H2 hH2 => ?_))⟩
          rw [e1, e2] at hH2
          intro hz1 hz2; clear hz1 hz2
          refine ⟨_, LeL.refl _, wneed_con true 22 (fun _ => ?_) nofun⟩
          intro hz1 hz2; clear hz1 hz2
          refine sem_seq (esc := fun _ => false) tab_ok mixed ?_
          refine ⟨_, LeL.refl _, Con.x (hclo _ _ _ H2 _ hH2 ?_)⟩
          intro hz1 hz2; clear hz1 hz2
          refine sem_seq (esc := fun _ => false) tab_ok mixed ?_
          refine ⟨_, LeL.refl _, wneed_con true 15 (fun _ => ?_) nofun⟩
          intro hz1 hz2; clear hz1 hz2
          refine sem_le ⟨[(4, .lp 4 0), (6, .lp 6 0), (7, .lp 7 0)], [(7, (tmX u).cells), (6, [.i k, .fn (.func g) caps]), (4, [.i 0, .i 0, .str [], .sl .full 0 [], .sl .full 0 []]), (3, (tmX t).cells)], H2⟩ ⟨⟨⟨rfl, rfl⟩, ⟨rfl, rfl⟩, ⟨rfl, rfl⟩, trivial⟩, ⟨⟨rfl, LeL.refl _⟩, ⟨rfl, LeL.refl _⟩, ⟨rfl, LeL.refl _⟩, ⟨rfl, LeL.refl _⟩, trivial⟩, List.Sublist.refl _⟩ ?_
          refine sem_then ?_
          refine sem_any (P := ⟨Tryz.prog, some _, 0⟩) (esc := fun _ => false) tab_ok mixed [0, 2] 4 [] (by kernel_rfl) (by kernel_rfl) (by kernel_rfl) (by simp) ?_
          intro K hK
          refine ⟨fun h => ?_, fun i hi => ?_⟩
          · exact absurd (h.symm.trans (show _ = [1, 3] by kernel_rfl)) (fun e => by cases e)
          have hi : i = 1 ∨ i = 3 := by simpa using mem_of_eq (show _ = [1, 3] by kernel_rfl) hi
          rcases hi with rfl | rfl
          · refine ⟨_, LeL.refl _, wsmall_con u (fun _ => ?_) (fun h => absurd hu h)⟩
            intro hz1 hz2; clear hz1 hz2
            refine ⟨fun h => ?_, fun i hi => ?_⟩
            · exact absurd (h.symm.trans (show _ = [3, 4] by kernel_rfl)) (fun e => by cases e)
            have hi : i = 3 ∨ i = 4 := by simpa using mem_of_eq (show _ = [3, 4] by kernel_rfl) hi
            rcases hi with rfl | rfl
            · refine ⟨fun h => ?_, fun i hi => ?_⟩
              · exact absurd (h.symm.trans (show _ = [4] by kernel_rfl)) (fun e => by cases e)
              obtain rfl : i = 4 := by simpa using mem_of_eq (show _ = [4] by kernel_rfl) hi
              refine ⟨fun h => ?_, fun i hi => ?_⟩
              · exact absurd (h.symm.trans (show _ = [5] by kernel_rfl)) (fun e => by cases e)
              obtain rfl : i = 5 := by simpa using mem_of_eq (show _ = [5] by kernel_rfl) hi
              refine ⟨by kernel_rfl, hK _ ?_⟩
              refine sem_of (esc := fun _ => false) tab_ok mixed ?_
              exact ⟨_, H2, Le.refl _, List.Sublist.refl _, post H2 hH2⟩
            · refine ⟨fun h => ?_, fun i hi => ?_⟩
              · exact absurd (h.symm.trans (show _ = [3] by kernel_rfl)) (fun e => by cases e)
              obtain rfl : i = 3 := by simpa using mem_of_eq (show _ = [3] by kernel_rfl) hi
              refine ⟨fun h => ?_, fun i hi => ?_⟩
              · exact absurd (h.symm.trans (show _ = [5] by kernel_rfl)) (fun e => by cases e)
              obtain rfl : i = 5 := by simpa using mem_of_eq (show _ = [5] by kernel_rfl) hi
              refine ⟨by kernel_rfl, hK _ ?_⟩
              refine sem_of (esc := fun _ => false) tab_ok mixed ?_
              exact ⟨_, H2, Le.refl _, List.Sublist.refl _, post H2 hH2⟩
          · refine ⟨fun h => ?_, fun i hi => ?_⟩
            · exact absurd (h.symm.trans (show _ = [1] by kernel_rfl)) (fun e => by cases e)
            obtain rfl : i = 1 := by simpa using mem_of_eq (show _ = [1] by kernel_rfl) hi
            refine ⟨_, LeL.refl _, wsmall_con u (fun _ => ?_) (fun h => absurd hu h)⟩
            intro hz1 hz2; clear hz1 hz2
            refine ⟨fun h => ?_, fun i hi => ?_⟩
            · exact absurd (h.symm.trans (show _ = [4] by kernel_rfl)) (fun e => by cases e)
            obtain rfl : i = 4 := by simpa using mem_of_eq (show _ = [4] by kernel_rfl) hi
            refine ⟨fun h => ?_, fun i hi => ?_⟩
            · exact absurd (h.symm.trans (show _ = [5] by kernel_rfl)) (fun e => by cases e)
            obtain rfl : i = 5 := by simpa using mem_of_eq (show _ = [5] by kernel_rfl) hi
            refine ⟨by kernel_rfl, hK _ ?_⟩
            refine sem_of (esc := fun _ => false) tab_ok mixed ?_
            exact ⟨_, H2, Le.refl _, List.Sublist.refl _, post H2 hH2⟩
        · rw [if_neg (fun h => hu h.2)] at post
          refine sem_seq (esc := fun _ => false) tab_ok mixed ?_
          refine ⟨_, LeL.refl _, Con.x (wSpend_con hH1 1 (by omega) (by omega) (by omega) (fun h => by omega) (fun _ _ H2 hH2 => ?_))⟩
          rw [e1, e2] at hH2
          intro hz1 hz2; clear hz1 hz2
          refine ⟨_, LeL.refl _, wneed_con true 22 (fun _ => ?_) nofun⟩
          intro hz1 hz2; clear hz1 hz2
          refine sem_seq (esc := fun _ => false) tab_ok mixed ?_
          refine ⟨_, LeL.refl _, Con.x (hclo _ _ _ H2 _ hH2 ?_)⟩
          intro hz1 hz2; clear hz1 hz2
          refine sem_seq (esc := fun _ => false) tab_ok mixed ?_
          refine ⟨_, LeL.refl _, wneed_con true 15 (fun _ => ?_) nofun⟩
          intro hz1 hz2; clear hz1 hz2
          refine sem_le ⟨[(4, .lp 4 0), (6, .lp 6 0), (7, .lp 7 0)], [(7, (tmX u).cells), (6, [.i k, .fn (.func g) caps]), (4, [.i 0, .i 0, .str [], .sl .full 0 [], .sl .full 0 []]), (3, (tmX t).cells)], H2⟩ ⟨⟨⟨rfl, rfl⟩, ⟨rfl, rfl⟩, ⟨rfl, rfl⟩, trivial⟩, ⟨⟨rfl, LeL.refl _⟩, ⟨rfl, LeL.refl _⟩, ⟨rfl, LeL.refl _⟩, ⟨rfl, LeL.refl _⟩, trivial⟩, List.Sublist.refl _⟩ ?_
          refine sem_then ?_
          refine sem_any (P := ⟨Tryz.prog, some _, 0⟩) (esc := fun _ => false) tab_ok mixed [0, 2] 4 [] (by kernel_rfl) (by kernel_rfl) (by kernel_rfl) (by simp) ?_
          intro K hK
          refine ⟨fun h => ?_, fun i hi => ?_⟩
          · exact absurd (h.symm.trans (show _ = [1, 3] by kernel_rfl)) (fun e => by cases e)
          have hi : i = 1 ∨ i = 3 := by simpa using mem_of_eq (show _ = [1, 3] by kernel_rfl) hi
          rcases hi with rfl | rfl
          · refine ⟨_, LeL.refl _, wsmall_con u (fun h => absurd h hu) (fun _ => ⟨H2, List.Sublist.refl _, post H2 hH2⟩)⟩
          · refine ⟨fun h => ?_, fun i hi => ?_⟩
            · exact absurd (h.symm.trans (show _ = [1] by kernel_rfl)) (fun e => by cases e)
            obtain rfl : i = 1 := by simpa using mem_of_eq (show _ = [1] by kernel_rfl) hi
            refine ⟨_, LeL.refl _, wsmall_con u (fun h => absurd h hu) (fun _ => ⟨H2, List.Sublist.refl _, post H2 hH2⟩)⟩
end
end Go.Proofs.YtahdkhklngjmoaaGreatDoor

