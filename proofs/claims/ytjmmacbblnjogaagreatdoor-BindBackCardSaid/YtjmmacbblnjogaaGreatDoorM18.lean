/-
  Texts put together: U5, U6, U7, U8, U9. No condition.
-/
import Derived.Test.YtjmmacbblnjogaaGreatDoorM17
/-
  bind: Lower, Count, Uses, Occurs. No condition.
-/
namespace Go.Proofs.YtjmmacbblnjogaaGreatDoor
open Go.RowKit

/-! lower -/
def lowSt (c : Int) : Bool → Tm → Int → Bool := fun s t d => s || decide (t.kind = 1 ∧ d ≤ t.n ∧ t.n < c + d)
mutual
theorem run_low (c : Int) : ∀ (t : Tm) (d : Int) (s : Bool), tmRun (lowSt c) t d s = (s || tmLow c t d)
  | .mk k n nm ls xs, d, s => by
    rw [tmRun, run_lowL c k xs, tmLow]
    simp only [lowSt, Bool.or_assoc]
    rfl
theorem run_lowL (c k : Int) : ∀ (ts : List Tm) (i : Nat) (d : Int) (s : Bool), tmRunL (lowSt c) k ts i d s = (s || tmLowL c k ts i d)
  | [], _, _, s => by rw [tmRunL, tmLowL, Bool.or_false]
  | t :: ts, i, d, s => by rw [tmRunL, run_lowL c k ts, run_low c t, tmLowL, Bool.or_assoc]
end
set_option maxRecDepth 100000 in
set_option maxHeartbeats 1000000 in
theorem low1_con {c : Int} {b3 b6 : Nat} {H : Heap} (h0 : 0 ≤ c) (h1 : c ≤ 2000000) :
    LeafS (fun _ => True) 54 [.ptr b6 0, .ptr b3 0] (movedF (-c) 0) (lowSt c) (fun s => (b6, .cells [.b s]) :: (b3, .cells [.i c]) :: H) := by
  intro t d v _ s G Q hfit hv hd0 hd1 hn _ _ hq
  have m6 : ∀ s : Bool, (b6, AObj.cells [.b s]) ∈ G ++ (b6, .cells [.b s]) :: (b3, .cells [.i c]) :: H := fun s => List.mem_append.2 (Or.inr List.mem_cons_self)
  have m3 : ∀ s : Bool, (b3, AObj.cells [.i c]) ∈ G ++ (b6, .cells [.b s]) :: (b3, .cells [.i c]) :: H := fun s => List.mem_append.2 (Or.inr (List.mem_cons_of_mem _ List.mem_cons_self))
  have at6 : ∀ s s' : Bool, Heap.At b6 (.cells [.b s]) (.cells [.b s']) (G ++ (b6, .cells [.b s]) :: (b3, .cells [.i c]) :: H) (G ++ (b6, .cells [.b s']) :: (b3, .cells [.i c]) :: H) := fun s s' => At.after .here G
  obtain ⟨fx, hfx⟩ : ∃ fx, movedF (-c) 0 t d = fx := ⟨_, rfl⟩
  rw [hfx] at hq
  unfold movedF at hfx
  obtain ⟨s', hs'⟩ : ∃ s', lowSt c s t d = s' := ⟨_, rfl⟩
  rw [hs'] at hq
  unfold lowSt at hs'
  have no : ¬(t.kind = 1 ∧ d ≤ t.n) → ∃ r H', Le (.tup [.agg [.i 0, .i 0, .str [], .sl .full 0 [], .sl .full 0 []], .b false]) r ∧ List.Sublist H' (G ++ (b6, .cells [.b s]) :: (b3, .cells [.i c]) :: H) ∧ Q r H' := fun h => by
    rw [if_neg (by rw [Int.zero_add]; exact h)] at hfx
    rw [decide_eq_false (fun e => h ⟨e.1, e.2.1⟩), Bool.or_false] at hs'
    subst hfx hs'
    exact ⟨.tup [tmX tm0, .b false], _, Le.tup ⟨le_tm0, Le.refl _, trivial⟩, List.Sublist.refl _, hq⟩
  refine con_of_awp (esc := fun _ => false) tab_ok mixed Tryz.func54 rfl (ent Tryz.func54 (by kernel_rfl) rfl) (by kernel_rfl) ?_
  intro hw hnn
  clear hw hnn
  refine ifB_dec (fun k1 => ?_) (fun k1 => ?_)
  · have hvn := tmFit_var hfit k1
    refine ifB_dec (fun k2 => ?_) (fun k2 => ?_)
    · exact no fun h => by omega
    · rw [if_pos ⟨k1, by omega⟩] at hfx
      subst hfx
      refine ⟨_, m6 s, ?_⟩
      cases s with
      | true =>
        rw [Bool.true_or] at hs'
        subst hs'
        refine ⟨_, _, at6 true true, Nat.le_refl _, ?_⟩
        refine ⟨_, m3 true, ?_⟩
        refine ⟨in64_of (by first | omega | (dsimp only; omega)) (by first | omega | (dsimp only; omega)), ?_⟩
        refine ⟨_, LeL.refl _, Var_con _ _ _ ?_⟩
        intro hz1 hz2; clear hz1 hz2
        have hfin : Le (.tup [tmX (.mk 1 (t.n - c) [] [] []), .b true]) (leafX (some (.mk 1 (t.n + -c) [] [] []))) := by
          rw [show t.n + -c = t.n - c by omega]
          exact Le.refl _
        exact ⟨_, _, hfin, List.Sublist.refl _, hq⟩
      | false =>
        rw [Bool.false_or] at hs'
        refine ⟨_, m3 false, ?_⟩
        refine ⟨in64_of (by first | omega | (dsimp only; omega)) (by first | omega | (dsimp only; omega)), ?_⟩
        refine ifB_dec (fun k3 => ?_) (fun k3 => ?_)
        · rw [decide_eq_true ⟨k1, by omega, k3⟩] at hs'
          subst hs'
          refine ⟨_, _, at6 false true, Nat.le_refl _, ?_⟩
          refine ⟨_, m3 true, ?_⟩
          refine ⟨in64_of (by first | omega | (dsimp only; omega)) (by first | omega | (dsimp only; omega)), ?_⟩
          refine ⟨_, LeL.refl _, Var_con _ _ _ ?_⟩
          intro hz1 hz2; clear hz1 hz2
          have hfin : Le (.tup [tmX (.mk 1 (t.n - c) [] [] []), .b true]) (leafX (some (.mk 1 (t.n + -c) [] [] []))) := by
            rw [show t.n + -c = t.n - c by omega]
            exact Le.refl _
          exact ⟨_, _, hfin, List.Sublist.refl _, hq⟩
        · rw [decide_eq_false (fun e => k3 e.2.2)] at hs'
          subst hs'
          refine ⟨_, _, at6 false false, Nat.le_refl _, ?_⟩
          refine ⟨_, m3 false, ?_⟩
          refine ⟨in64_of (by first | omega | (dsimp only; omega)) (by first | omega | (dsimp only; omega)), ?_⟩
          refine ⟨_, LeL.refl _, Var_con _ _ _ ?_⟩
          intro hz1 hz2; clear hz1 hz2
          have hfin : Le (.tup [tmX (.mk 1 (t.n - c) [] [] []), .b true]) (leafX (some (.mk 1 (t.n + -c) [] [] []))) := by
            rw [show t.n + -c = t.n - c by omega]
            exact Le.refl _
          exact ⟨_, _, hfin, List.Sublist.refl _, hq⟩
  · exact no fun h => k1 h.1
theorem moved_small {c : Int} {p : Int} : ∀ t d v x, tmFit p t v = true → movedF c 0 t d = some x → t.args = [] ∧ x.nodes ≤ t.nodes := by
  intro t d v x hfit h
  unfold movedF at h
  split at h
  · rename_i hk
    cases h
    have hn := t.nodes_pos
    cases t with
    | mk k n nm ls xs =>
      refine ⟨(fit_var hfit hk.1).2.2.2.2, ?_⟩
      simp only [Tm.nodes, Tm.nodesL, Lv.nodesL] at hn ⊢
      omega
  · cases h
def bLower (t : Tm) (c : Int) : Tm × Bool := if tmRight 4 1125899906842624 t = true ∧ smallB c = true ∧ tmLow c t 0 = false then (tmLift (-c) t 0, true) else (tm0, false)
set_option maxRecDepth 100000 in
set_option maxHeartbeats 1000000 in
theorem bLower_con (t : Tm) (c : Int) : Ans Tryz.prog 18 [tmX t, .i c] (.tup [tmX (bLower t c).1, .b (bLower t c).2]) := by
  intro H Q hq
  have no : ¬(tmRight 4 1125899906842624 t = true ∧ smallB c = true ∧ tmLow c t 0 = false) → ∀ HH, List.Sublist H HH → ∃ r H', Le (.tup [.agg [.i 0, .i 0, .str [], .sl .full 0 [], .sl .full 0 []], .b false]) r ∧ List.Sublist H' HH ∧ Q r H' := fun h HH hs => by
    unfold bLower at hq
    rw [if_neg h] at hq
    exact ⟨.tup [tmX tm0, .b false], H, Le.tup ⟨le_tm0, Le.refl _, trivial⟩, hs, hq⟩
  refine con_of_awp (esc := ([3,6].contains ·)) tab_ok mixed Tryz.func18 rfl (ent Tryz.func18 (by kernel_rfl) rfl) (by kernel_rfl) ?_
  intro hw hn b3 hb3
  clear hw hn
  by_cases h1 : tmRight 4 1125899906842624 t = true
  rotate_left
  · refine ⟨_, LeL.refl _, (bright_con t).no h1 _ _ ?_⟩
    intro hz1 hz2; clear hz1 hz2
    exact no (fun h => h1 h.1) _ (List.sublist_cons_self _ _)
  refine ⟨_, LeL.refl _, (bright_con t).yes h1 _ _ ?_⟩
  intro hz1 hz2; clear hz1 hz2
  refine ⟨_, List.mem_cons_self, ?_⟩
  by_cases h2 : smallB c = true
  rotate_left
  · refine ⟨_, LeL.refl _, (bsmall_con c).no h2 _ _ ?_⟩
    intro hz1 hz2; clear hz1 hz2
    exact no (fun h => h2 h.2.1) _ (List.sublist_cons_self _ _)
  refine ⟨_, LeL.refl _, (bsmall_con c).yes h2 _ _ ?_⟩
  intro hz1 hz2; clear hz1 hz2
  intro b6 hb6
  refine ⟨_, _, .here, Nat.le_refl _, ?_⟩
  have h2' := h2
  unfold smallB at h2'
  simp only [Bool.and_eq_true, decide_eq_true_eq] at h2'
  obtain ⟨hn1, hfit⟩ := right_fit h1
  have hm := bmade_con (fun _ _ _ _ _ _ _ => trivial) (low1_con (b3 := b3) (b6 := b6) (H := H) h2'.1 (by omega)) t h1 false trivial
  have hrun := btm_run (f := movedF (-c) 0) (st := lowSt c) moved_small t 0 _ (2000, false) hfit (by simp only; omega)
  rw [madeX_eq movedF_nodes h1, hrun.1, run_low, Bool.false_or, bld_moved (c := -c) (from_ := 0) t 0 _ hfit, Int.add_zero] at hm
  unfold madeB at hm
  rw [if_pos (by rw [tmLift_nodes]; exact hn1)] at hm
  refine ⟨_, LeL.refl _, hm _ ?_⟩
  intro hz1 hz2; clear hz1 hz2
  refine ⟨_, List.mem_cons_self, ?_⟩
  cases hlow : tmLow c t 0 with
  | true => exact no (fun h => by rw [hlow] at h; exact absurd h.2.2 (by decide)) _ ((List.sublist_cons_self _ _).trans (List.sublist_cons_self _ _))
  | false =>
    unfold bLower at hq
    rw [if_pos ⟨h1, h2, hlow⟩] at hq
    exact ⟨_, H, Le.refl _, (List.sublist_cons_self _ _).trans (List.sublist_cons_self _ _), hq⟩

/-! count -/
def cntSt (m : Int) : Int → Tm → Int → Int := fun s t d => if t.kind = 1 ∧ t.n = m + d then s + 1 else s
mutual
theorem run_cnt (m : Int) : ∀ (t : Tm) (d : Int) (s : Int), tmRun (cntSt m) t d s = s + (tmUses m t d : Nat)
  | .mk k n nm ls xs, d, s => by
    rw [tmRun, run_cntL m k xs, tmUses, cntSt]
    simp only [Tm.kind, Tm.n]
    split <;> omega
theorem run_cntL (m k : Int) : ∀ (ts : List Tm) (i : Nat) (d : Int) (s : Int), tmRunL (cntSt m) k ts i d s = s + (tmUsesL m k ts i d : Nat)
  | [], _, _, s => by rw [tmRunL, tmUsesL]; simp
  | t :: ts, i, d, s => by rw [tmRunL, run_cntL m k ts, run_cnt m t, tmUsesL]; omega
end
def cntJ : Int × Int → Prop := fun w => w.1 + w.2 ≤ 2000 ∧ 0 ≤ w.2
theorem cntJ_ok (m : Int) : ∀ w t d l, cntJ w → 0 ≤ w.1 → l ≤ w.1 - 1 → cntJ (l, cntSt m w.2 t d) := by
  intro w t d l h h1 h2
  obtain ⟨h3, h4⟩ := h
  unfold cntJ cntSt
  simp only
  split <;> omega
set_option maxRecDepth 100000 in
set_option maxHeartbeats 1000000 in
theorem cnt1_con {m : Int} {b3 b5 : Nat} {H : Heap} (h0 : 0 ≤ m) (h1 : m ≤ 1125899906842624) :
    LeafS cntJ 59 [.ptr b3 0, .ptr b5 0] (fun _ _ => none) (cntSt m) (fun s => (b5, .cells [.i s]) :: (b3, .cells [.i m]) :: H) := by
  intro t d v l s G Q hfit hv hd0 hd1 hn hl0 hj hq
  obtain ⟨hj1, hj2⟩ := hj
  simp only at hj1 hj2
  have m5 : (b5, AObj.cells [.i s]) ∈ G ++ (b5, .cells [.i s]) :: (b3, .cells [.i m]) :: H := List.mem_append.2 (Or.inr List.mem_cons_self)
  have m3 : (b3, AObj.cells [.i m]) ∈ G ++ (b5, .cells [.i s]) :: (b3, .cells [.i m]) :: H := List.mem_append.2 (Or.inr (List.mem_cons_of_mem _ List.mem_cons_self))
  have at5 : ∀ s s' : Int, Heap.At b5 (.cells [.i s]) (.cells [.i s']) (G ++ (b5, .cells [.i s]) :: (b3, .cells [.i m]) :: H) (G ++ (b5, .cells [.i s']) :: (b3, .cells [.i m]) :: H) := fun s s' => At.after .here G
  obtain ⟨s', hs'⟩ : ∃ s', cntSt m s t d = s' := ⟨_, rfl⟩
  rw [hs'] at hq
  unfold cntSt at hs'
  have fin : ∀ s'', s'' = s' → ∃ r H', Le (.tup [.agg [.i 0, .i 0, .str [], .sl .full 0 [], .sl .full 0 []], .b false]) r ∧ List.Sublist H' (G ++ (b5, .cells [.i s'']) :: (b3, .cells [.i m]) :: H) ∧ Q r H' := fun s'' h => by
    subst h
    exact ⟨.tup [tmX tm0, .b false], _, Le.tup ⟨le_tm0, Le.refl _, trivial⟩, List.Sublist.refl _, hq⟩
  refine con_of_awp (esc := fun _ => false) tab_ok mixed Tryz.func59 rfl (ent Tryz.func59 (by kernel_rfl) rfl) (by kernel_rfl) ?_
  intro hw hnn
  clear hw hnn
  refine ifB_dec (fun k1 => ?_) (fun k1 => ?_)
  · have hvn := tmFit_var hfit k1
    refine ⟨_, m3, ?_⟩
    refine ⟨in64_of (by first | omega | (dsimp only; omega)) (by first | omega | (dsimp only; omega)), ?_⟩
    refine ifB_dec (fun k2 => ?_) (fun k2 => ?_)
    · rw [if_pos ⟨k1, k2⟩] at hs'
      refine ⟨_, m5, ?_⟩
      refine ⟨in64_of (by first | omega | (dsimp only; omega)) (by first | omega | (dsimp only; omega)), ?_⟩
      refine ⟨_, _, at5 s (s + 1), Nat.le_refl _, ?_⟩
      exact fin _ hs'
    · rw [if_neg (fun h => k2 h.2)] at hs'
      exact fin _ hs'
  · rw [if_neg (fun h => k1 h.1)] at hs'
    exact fin _ hs'
def bCount (t : Tm) (m : Int) : Int := if tmRight 4 1125899906842624 t = true ∧ 0 ≤ m ∧ m ≤ 1125899906842624 then (tmUses m t 0 : Nat) else 0
set_option maxRecDepth 100000 in
set_option maxHeartbeats 1000000 in
theorem bCount_con (t : Tm) (m : Int) : Ans Tryz.prog 26 [tmX t, .i m] (.i (bCount t m)) := by
  intro H Q hq
  have no : ¬(tmRight 4 1125899906842624 t = true ∧ 0 ≤ m ∧ m ≤ 1125899906842624) → ∀ b, ∃ r H', Le (.i 0) r ∧ List.Sublist H' ((b, .cells [.i m]) :: H) ∧ Q r H' := fun h b => by
    unfold bCount at hq
    rw [if_neg h] at hq
    exact ⟨_, H, Le.refl _, List.sublist_cons_self _ _, hq⟩
  refine con_of_awp (esc := ([3,5].contains ·)) tab_ok mixed Tryz.func26 rfl (ent Tryz.func26 (by kernel_rfl) rfl) (by kernel_rfl) ?_
  intro hw hn b3 hb3
  clear hw hn
  by_cases h1 : tmRight 4 1125899906842624 t = true
  rotate_left
  · refine ⟨_, LeL.refl _, (bright_con t).no h1 _ _ ?_⟩
    intro hz1 hz2; clear hz1 hz2
    exact no (fun h => h1 h.1) _
  refine ⟨_, LeL.refl _, (bright_con t).yes h1 _ _ ?_⟩
  intro hz1 hz2; clear hz1 hz2
  refine ⟨_, List.mem_cons_self, ?_⟩
  refine ifB_dec (fun h2 => ?_) (fun h2 => ?_)
  · exact no (fun h => by omega) _
  refine ⟨_, List.mem_cons_self, ?_⟩
  refine ifB_dec (fun h3 => ?_) (fun h3 => ?_)
  · exact no (fun h => by omega) _
  unfold bCount at hq
  rw [if_pos ⟨h1, by omega, by omega⟩] at hq
  intro b5 hb5
  refine ⟨_, _, .here, Nat.le_refl _, ?_⟩
  obtain ⟨hn1, hfit⟩ := right_fit h1
  have hm := bmade_con (cntJ_ok m) (cnt1_con (b3 := b3) (b5 := b5) (H := H) (by omega) (by omega)) t h1 0 (by unfold cntJ; simp)
  have hrun := btm_run (f := fun _ _ => none) (st := cntSt m) (p := 4) (fun _ _ _ _ _ h => by cases h) t 0 _ (2000, 0) hfit (by simp only; omega)
  rw [hrun.1, run_cnt, Int.zero_add] at hm
  obtain ⟨mx, hmx⟩ : ∃ mx, madeX (btm (fun _ _ => none) (cntSt m) t 0 (2000, 0)) = mx := ⟨_, rfl⟩
  rw [hmx] at hm
  refine ⟨_, LeL.refl _, hm _ ?_⟩
  intro hz1 hz2; clear hz1 hz2
  refine ⟨_, List.mem_cons_self, ?_⟩
  exact ⟨_, H, Le.refl _, (List.sublist_cons_self _ _).trans (List.sublist_cons_self _ _), hq⟩
set_option maxRecDepth 100000 in
theorem bUses_con (t : Tm) (m : Int) : Ans Tryz.prog 25 [tmX t, .i m] (.b (decide (0 < bCount t m))) := by
  intro H Q hq
  refine con_of_awp (esc := fun _ => false) tab_ok mixed Tryz.func25 rfl (ent Tryz.func25 (by kernel_rfl) rfl) (by kernel_rfl) ?_
  intro hw hn
  refine ⟨_, LeL.refl _, bCount_con t m _ _ ?_⟩
  intro hz1 hz2; clear hz1 hz2
  refine ifB_dec (fun h1 => ?_) (fun h1 => ?_)
  · exact ⟨_, H, ret_b (by rw [decide_eq_true (by omega)]), List.Sublist.refl _, hq⟩
  · exact ⟨_, H, ret_b (by rw [decide_eq_false (by omega)]), List.Sublist.refl _, hq⟩
end Go.Proofs.YtjmmacbblnjogaaGreatDoor

/-
  bind.Occurs; law 06's helpers: variable, constant, app, lam, leveled, great, alive. No condition.
-/
namespace Go.Proofs.YtjmmacbblnjogaaGreatDoor
open Go.RowKit

set_option maxRecDepth 100000 in
theorem Occurs_con (t : Tm) (c : List UInt8) : Ans Tryz.prog 22 [tmX t, .str c] (.b (tmOccurs c t)) := by
  intro H Q hq
  rw [← occurs_iff] at hq
  refine con_of_awp (esc := fun _ => false) tab_ok mixed Tryz.func22 rfl (ent Tryz.func22 (by kernel_rfl) rfl) (by kernel_rfl) ?_
  intro hw hn
  refine ⟨_, LeL.refl _, Consts_con t _ _ ?_⟩
  intro hz1 hz2; clear hz1 hz2
  refine ⟨_, LeL.refl _, ContainsS_con .no (tmConsts t) c _ _ ?_⟩
  intro hz1 hz2; clear hz1 hz2
  exact ⟨_, H, Le.refl _, List.Sublist.refl _, hq⟩
def bV (n : Int) : Tm := .mk 1 n [] [] []
def bC (s : List UInt8) : Tm := .mk 3 0 s [] []
def bApp (a b : Tm) : Tm := .mk 4 0 [] [] [a, b]
def bLam (a b : Tm) : Tm := .mk 5 0 [] [] [a, b]
theorem b_two (a b : Tm) : Le (.sl .full 5 [tmX a, tmX b]) (.sl .full 5 ([a, b].map tmA)) := le_of_eq (by
  show AV.sl .full 5 [tmX a, tmX b] = .sl .full 5 [tmA a, tmA b]
  rw [tmA_eq, tmA_eq])
theorem b_one (a : Tm) : Le (.sl .full 5 [tmX a]) (.sl .full 5 ([a].map tmA)) := le_of_eq (by
  show AV.sl .full 5 [tmX a] = .sl .full 5 [tmA a]
  rw [tmA_eq])
set_option maxRecDepth 100000 in
theorem variable6_con (n : Int) : Ans Tryz.prog 39 [.i n] (tmX (bV n)) := by
  intro H Q hq
  refine con_of_awp (esc := fun _ => false) tab_ok mixed Tryz.func39 rfl (ent Tryz.func39 (by kernel_rfl) rfl) (by kernel_rfl) ?_
  intro hw hn
  have hfin : Le (.agg [.i 1, .i n, .str [], .sl .full 0 [], .sl .full 0 []]) (tmX (bV n)) := Le.agg ⟨Le.refl _, Le.refl _, Le.refl _, Le.nil _ _, Le.nil _ _, trivial⟩
  exact ⟨_, H, hfin, List.Sublist.refl _, hq⟩
set_option maxRecDepth 100000 in
theorem constant6_con (s : List UInt8) : Ans Tryz.prog 23 [.str s] (tmX (bC s)) := by
  intro H Q hq
  refine con_of_awp (esc := fun _ => false) tab_ok mixed Tryz.func23 rfl (ent Tryz.func23 (by kernel_rfl) rfl) (by kernel_rfl) ?_
  intro hw hn
  have hfin : Le (.agg [.i 3, .i 0, .str s, .sl .full 0 [], .sl .full 0 []]) (tmX (bC s)) := Le.agg ⟨Le.refl _, Le.refl _, Le.refl _, Le.nil _ _, Le.nil _ _, trivial⟩
  exact ⟨_, H, hfin, List.Sublist.refl _, hq⟩
set_option maxRecDepth 100000 in
theorem app6_con (a b : Tm) : Ans Tryz.prog 38 [tmX a, tmX b] (tmX (bApp a b)) := by
  intro H Q hq
  refine con_of_awp (esc := fun _ => false) tab_ok mixed Tryz.func38 rfl (ent Tryz.func38 (by kernel_rfl) rfl) (by kernel_rfl) ?_
  intro hw hn
  exact ⟨_, H, le_parts 4 a b, List.Sublist.refl _, hq⟩
set_option maxRecDepth 100000 in
theorem lam6_con (a b : Tm) : Ans Tryz.prog 40 [tmX a, tmX b] (tmX (bLam a b)) := by
  intro H Q hq
  refine con_of_awp (esc := fun _ => false) tab_ok mixed Tryz.func40 rfl (ent Tryz.func40 (by kernel_rfl) rfl) (by kernel_rfl) ?_
  intro hw hn
  exact ⟨_, H, le_parts 5 a b, List.Sublist.refl _, hq⟩

theorem leveled_eq (c : List UInt8) (t : Tm) : tmLeveled c t = (decide (t.kind = 3 ∧ t.name = c ∧ t.levels ≠ []) || tmLeveledL c t.args) := by cases t; rfl
theorem leveledL_take {c : List UInt8} {ts : List Tm} {j : Nat} (h : j < ts.length) : tmLeveledL c (ts.take (j + 1)) = (tmLeveledL c (ts.take j) || tmLeveled c ts[j]) := by
  induction ts generalizing j with
  | nil => simp at h
  | cons t ts ih =>
    cases j with
    | zero => simp [tmLeveledL]
    | succ j =>
      have := ih (j := j) (by simpa using h)
      simp only [List.take_succ_cons, tmLeveledL, List.getElem_cons_succ]
      rw [this, Bool.or_assoc]
theorem leveledL_get {c : List UInt8} {ts : List Tm} {j : Nat} (h : j < ts.length) (hl : tmLeveled c ts[j] = true) : tmLeveledL c ts = true := by
  induction ts generalizing j with
  | nil => simp at h
  | cons t ts ih =>
    rw [tmLeveledL, Bool.or_eq_true]
    cases j with
    | zero => exact Or.inl hl
    | succ j => exact Or.inr (ih (j := j) (by simpa using h) hl)
set_option maxRecDepth 100000 in
theorem leveled_con (c : List UInt8) : ∀ (N : Nat) (t : Tm), t.nodes ≤ N → Ans Tryz.prog 24 [tmX t, .str c] (.b (tmLeveled c t)) := by
  intro N
  induction N with
  | zero => intro t h; have := t.nodes_pos; omega
  | succ N ih =>
    intro t hN H Q hq
    have hnd := t.nodes_eq
    have hle := leveled_eq c t
    refine con_of_awp (esc := fun _ => false) tab_ok mixed Tryz.func24 rfl (ent Tryz.func24 (by kernel_rfl) rfl) (by kernel_rfl) ?_
    intro hw hn
    have hlena := (hw (tmX t) (by simp)).targs
    clear hw hn
    have loop : decide (t.kind = 3 ∧ t.name = c ∧ t.levels ≠ []) = false → True := fun _ => trivial
    refine ifB_dec (fun k1 => ?_) (fun k1 => ?_)
    · refine ifB_dec (fun k2 => ?_) (fun k2 => ?_)
      · refine ifB_dec (fun k3 => ?_) (fun k3 => ?_)
        · simp only [List.length_map] at k3
          refine ⟨_, H, ret_b ?_, List.Sublist.refl _, hq⟩
          rw [hle, decide_eq_true ⟨k1, k2, fun e => by rw [e] at k3; simp at k3⟩, Bool.true_or]
        · simp only [List.length_map] at k3
          refine ⟨Nat, fun j => ⟨[(1, .g (.str c)), (2, .lp 2 0), (4, .g (.b false)), (5, .g (.i j))], [(2, (tmX t).cells)], H⟩, fun j => j ≤ t.args.length ∧ tmLeveledL c (t.args.take j) = false, fun j => t.args.length - j, ⟨0, ⟨Nat.zero_le _, by simp [tmLeveledL]⟩, ?_⟩, ?_⟩
          · (constructor <;> repeat' (first | exact trivial | exact ⟨rfl, rfl⟩ | exact ⟨rfl, LeL.refl _⟩ | exact Le.refl _ | exact List.Sublist.refl _ | (show Le (AV.i _) (AV.i _); rw [List.length_map]; exact Le.refl _) | refine And.intro ?_ ?_))
          · rintro j ⟨hj, hpre⟩
            refine ifB_dec (fun h3 => ?_) (fun h3 => ?_)
            · simp only [List.length_map] at h3
              have hlt : j < t.args.length := by omega
              have hmem := Tm.nodesL_mem (List.getElem_mem hlt)
              refine ⟨j, rfl, _, tmAt' hlt, ?_⟩
              cases hv : tmLeveled c t.args[j] with
              | true =>
                refine ⟨_, LeL.refl _, (ih t.args[j] (by omega)).to (by rw [hv]) _ _ ?_⟩
                intro hz1 hz2; clear hz1 hz2
                refine ⟨_, H, ret_b ?_, List.Sublist.refl _, hq⟩
                rw [hle, leveledL_get hlt hv, Bool.or_true]
              | false =>
                refine ⟨_, LeL.refl _, (ih t.args[j] (by omega)).to (by rw [hv]) _ _ ?_⟩
                intro hz1 hz2; clear hz1 hz2
                refine ⟨in64_of (by first | omega | (dsimp only; omega)) (by first | omega | (dsimp only; omega)), ?_⟩
                refine ⟨j + 1, ⟨by omega, ?_⟩, by (try dsimp only); omega, ?_⟩
                · rw [leveledL_take hlt, hpre, hv]; rfl
                · (constructor <;> repeat' (first | exact trivial | exact ⟨rfl, rfl⟩ | exact ⟨rfl, LeL.refl _⟩ | exact Le.refl _ | exact List.Sublist.refl _ | (show Le (AV.i _) (AV.i _); rw [List.length_map]; exact Le.refl _) | refine And.intro ?_ ?_))
            · simp only [List.length_map] at h3
              have hj' : t.args.length = j := by omega
              subst hj'
              rw [List.take_length] at hpre
              refine ⟨_, H, ret_b ?_, List.Sublist.refl _, hq⟩
              rw [hle, hpre, Bool.or_false, decide_eq_false (fun e => e.2.2 (List.eq_nil_of_length_eq_zero (by omega)))]
      · refine ⟨Nat, fun j => ⟨[(1, .g (.str c)), (2, .lp 2 0), (4, .g (.b false)), (5, .g (.i j))], [(2, (tmX t).cells)], H⟩, fun j => j ≤ t.args.length ∧ tmLeveledL c (t.args.take j) = false, fun j => t.args.length - j, ⟨0, ⟨Nat.zero_le _, by simp [tmLeveledL]⟩, ?_⟩, ?_⟩
        · (constructor <;> repeat' (first | exact trivial | exact ⟨rfl, rfl⟩ | exact ⟨rfl, LeL.refl _⟩ | exact Le.refl _ | exact List.Sublist.refl _ | (show Le (AV.i _) (AV.i _); rw [List.length_map]; exact Le.refl _) | refine And.intro ?_ ?_))
        · rintro j ⟨hj, hpre⟩
          refine ifB_dec (fun h3 => ?_) (fun h3 => ?_)
          · simp only [List.length_map] at h3
            have hlt : j < t.args.length := by omega
            have hmem := Tm.nodesL_mem (List.getElem_mem hlt)
            refine ⟨j, rfl, _, tmAt' hlt, ?_⟩
            cases hv : tmLeveled c t.args[j] with
            | true =>
              refine ⟨_, LeL.refl _, (ih t.args[j] (by omega)).to (by rw [hv]) _ _ ?_⟩
              intro hz1 hz2; clear hz1 hz2
              refine ⟨_, H, ret_b ?_, List.Sublist.refl _, hq⟩
              rw [hle, leveledL_get hlt hv, Bool.or_true]
            | false =>
              refine ⟨_, LeL.refl _, (ih t.args[j] (by omega)).to (by rw [hv]) _ _ ?_⟩
              intro hz1 hz2; clear hz1 hz2
              refine ⟨in64_of (by first | omega | (dsimp only; omega)) (by first | omega | (dsimp only; omega)), ?_⟩
              refine ⟨j + 1, ⟨by omega, ?_⟩, by (try dsimp only); omega, ?_⟩
              · rw [leveledL_take hlt, hpre, hv]; rfl
              · (constructor <;> repeat' (first | exact trivial | exact ⟨rfl, rfl⟩ | exact ⟨rfl, LeL.refl _⟩ | exact Le.refl _ | exact List.Sublist.refl _ | (show Le (AV.i _) (AV.i _); rw [List.length_map]; exact Le.refl _) | refine And.intro ?_ ?_))
          · simp only [List.length_map] at h3
            have hj' : t.args.length = j := by omega
            subst hj'
            rw [List.take_length] at hpre
            refine ⟨_, H, ret_b ?_, List.Sublist.refl _, hq⟩
            rw [hle, hpre, Bool.or_false, decide_eq_false (fun e => k2 e.2.1)]
    · refine ⟨Nat, fun j => ⟨[(1, .g (.str c)), (2, .lp 2 0), (4, .g (.b false)), (5, .g (.i j))], [(2, (tmX t).cells)], H⟩, fun j => j ≤ t.args.length ∧ tmLeveledL c (t.args.take j) = false, fun j => t.args.length - j, ⟨0, ⟨Nat.zero_le _, by simp [tmLeveledL]⟩, ?_⟩, ?_⟩
      · (constructor <;> repeat' (first | exact trivial | exact ⟨rfl, rfl⟩ | exact ⟨rfl, LeL.refl _⟩ | exact Le.refl _ | exact List.Sublist.refl _ | (show Le (AV.i _) (AV.i _); rw [List.length_map]; exact Le.refl _) | refine And.intro ?_ ?_))
      · rintro j ⟨hj, hpre⟩
        refine ifB_dec (fun h3 => ?_) (fun h3 => ?_)
        · simp only [List.length_map] at h3
          have hlt : j < t.args.length := by omega
          have hmem := Tm.nodesL_mem (List.getElem_mem hlt)
          refine ⟨j, rfl, _, tmAt' hlt, ?_⟩
          cases hv : tmLeveled c t.args[j] with
          | true =>
            refine ⟨_, LeL.refl _, (ih t.args[j] (by omega)).to (by rw [hv]) _ _ ?_⟩
            intro hz1 hz2; clear hz1 hz2
            refine ⟨_, H, ret_b ?_, List.Sublist.refl _, hq⟩
            rw [hle, leveledL_get hlt hv, Bool.or_true]
          | false =>
            refine ⟨_, LeL.refl _, (ih t.args[j] (by omega)).to (by rw [hv]) _ _ ?_⟩
            intro hz1 hz2; clear hz1 hz2
            refine ⟨in64_of (by first | omega | (dsimp only; omega)) (by first | omega | (dsimp only; omega)), ?_⟩
            refine ⟨j + 1, ⟨by omega, ?_⟩, by (try dsimp only); omega, ?_⟩
            · rw [leveledL_take hlt, hpre, hv]; rfl
            · (constructor <;> repeat' (first | exact trivial | exact ⟨rfl, rfl⟩ | exact ⟨rfl, LeL.refl _⟩ | exact Le.refl _ | exact List.Sublist.refl _ | (show Le (AV.i _) (AV.i _); rw [List.length_map]; exact Le.refl _) | refine And.intro ?_ ?_))
        · simp only [List.length_map] at h3
          have hj' : t.args.length = j := by omega
          subst hj'
          rw [List.take_length] at hpre
          refine ⟨_, H, ret_b ?_, List.Sublist.refl _, hq⟩
          rw [hle, hpre, Bool.or_false, decide_eq_false (fun e => k1 e.1)]

set_option maxRecDepth 100000 in
theorem great6_some (o : Own) (t : Tm) (ts : List Tm) (H : Heap) (Q : AV → Heap → Prop) (hq : ∀ q : Bool, (q = false → ts.length ≤ 20) → Q (.b q) H) : Con Tryz.prog 12 [tmX t, .sl o 5 (ts.map tmA)] H Q := by
  refine con_of_awp (esc := fun _ => false) tab_ok mixed Tryz.func12 rfl (ent Tryz.func12 (by kernel_rfl) rfl) (by kernel_rfl) ?_
  intro hw hn
  clear hw hn
  have hlen : (ts.map tmA).length = ts.length := List.length_map _
  refine ifB_dec (fun k1 => ?_) (fun k1 => ?_)
  · exact ⟨_, H, Le.refl _, List.Sublist.refl _, hq true nofun⟩
  have hl : ts.length ≤ 20 := by omega
  refine ⟨_, LeL.refl _, Great4_some t _ _ fun q => ?_⟩
  intro hz1 hz2; clear hz1 hz2
  cases q with
  | true => exact ⟨_, H, Le.refl _, List.Sublist.refl _, hq true nofun⟩
  | false =>
    refine ⟨Nat × Int, fun p => ⟨[(1, .g (.sl o 5 (ts.map tmA))), (4, .g (.b false)), (5, .g (.i p.2)), (6, .g (.i p.1))], [(2, (tmX t).cells)], H⟩, fun p => p.1 ≤ ts.length ∧ 0 ≤ p.2 ∧ p.2 ≤ 4000, fun p => ts.length - p.1, ⟨(0, 0), ⟨Nat.zero_le _, by simp, by simp⟩, ?_⟩, ?_⟩
    · (constructor <;> repeat' (first | exact trivial | exact ⟨rfl, rfl⟩ | exact ⟨rfl, LeL.refl _⟩ | exact Le.refl _ | exact List.Sublist.refl _ | (show Le (AV.i _) (AV.i _); rw [List.length_map]; exact Le.refl _) | refine And.intro ?_ ?_))
    · rintro ⟨j, n⟩ ⟨hj, hn0, hn1⟩
      simp only at hj hn0 hn1
      refine ifB_dec (fun h2 => ?_) (fun h2 => ?_)
      · simp only [List.length_map] at h2
        have hlt : j < ts.length := by omega
        refine ⟨j, rfl, _, tmAt' hlt, ?_⟩
        refine ⟨_, LeL.refl _, tmBig_con 2500 (by decide) _ ts[j] (Nat.le_refl _) _ _ ?_⟩
        intro hz1 hz2; clear hz1 hz2
        refine ⟨in64_of (by first | omega | (dsimp only; omega)) (by first | omega | (dsimp only; omega)), ?_⟩
        refine ifB_dec (fun h3 => ?_) (fun h3 => ?_)
        · exact ⟨_, H, Le.refl _, List.Sublist.refl _, hq true nofun⟩
        · refine ⟨in64_of (by first | omega | (dsimp only; omega)) (by first | omega | (dsimp only; omega)), ?_⟩
          refine ⟨(j + 1, n + (min ts[j].big 2501 : Nat)), ⟨by simp only; omega, by simp only; omega, by simp only; omega⟩, by (try dsimp only); omega, ?_⟩
          (constructor <;> repeat' (first | exact trivial | exact ⟨rfl, rfl⟩ | exact ⟨rfl, LeL.refl _⟩ | exact Le.refl _ | exact List.Sublist.refl _ | (show Le (AV.i _) (AV.i _); rw [List.length_map]; exact Le.refl _) | refine And.intro ?_ ?_))
      · exact ⟨_, H, Le.refl _, List.Sublist.refl _, hq false fun _ => hl⟩
end Go.Proofs.YtjmmacbblnjogaaGreatDoor

/-
  Law 06's alive. No condition.
-/
namespace Go.Proofs.YtjmmacbblnjogaaGreatDoor
open Go.RowKit

def zT : Tm := bLam (bV 3) (bApp (bV 0) (bV 4))
theorem al1 : bInst (bApp (bV 1) (bV 0)) [bC [97], bC [98]] = (bApp (bC [97]) (bC [98]), true) := by kernel_rfl
theorem al2 : bAbs (bApp (bC [97]) (bC [98])) [[97], [98]] = (bApp (bV 1) (bV 0), true) := by kernel_rfl
theorem al3 : bLift (bLam (bV 0) (bApp (bV 0) (bV 1))) 3 0 = (zT, true) := by kernel_rfl
theorem al4 : bLower (bV 3) 2 = (bV 1, true) := by kernel_rfl
theorem al5 : bLower (bV 1) 2 = (tm0, false) := by kernel_rfl
theorem al6 : bRepl (bLam (bC [97]) (bC [97])) [97] (bV 0) = (bLam (bV 0) (bV 1), true) := by kernel_rfl
theorem al7 : bCount zT 3 = 2 := by kernel_rfl
theorem al8 : tmOccurs [97] (bApp (bC [97]) (bC [98])) = true := by kernel_rfl
theorem al9 : tmOccurs [99] (bApp (bC [97]) (bC [98])) = false := by kernel_rfl
theorem same6 (t : Tm) : tmEq t t = true := (tmEq_iff _ _).2 rfl
set_option maxRecDepth 100000 in
set_option maxHeartbeats 4000000 in
theorem alive6_con : Ans Tryz.prog 11 [] (.b true) := by
  intro H Q hq
  refine con_of_sem tab_ok Tryz.func11 rfl (ent Tryz.func11 (by kernel_rfl) rfl) (by kernel_rfl) ?_
  intro hw hn
  clear hw hn
  refine sem_seq (esc := fun _ => false) tab_ok mixed ?_
  refine sem_seq (esc := fun _ => false) tab_ok mixed ?_
  refine ⟨_, LeL.refl _, constant6_con [97] _ _ ?_⟩
  intro hz1 hz2; clear hz1 hz2
  refine sem_le ⟨[(0, .g (.b false)), (1, .lp 1 0)], [(1, (tmX (bC [97])).cells)], H⟩ ?_ ?_
  · (constructor <;> repeat' (first | exact trivial | exact ⟨rfl, rfl⟩ | exact ⟨rfl, LeL.refl _⟩ | exact Le.refl _ | exact List.Sublist.refl _ | (show Le (AV.i _) (AV.i _); rw [List.length_map]; exact Le.refl _) | refine And.intro ?_ ?_))
  refine sem_seq (esc := fun _ => false) tab_ok mixed ?_
  refine ⟨_, LeL.refl _, constant6_con [98] _ _ ?_⟩
  intro hz1 hz2; clear hz1 hz2
  refine sem_le ⟨[(0, .g (.b false)), (1, .lp 1 0), (2, .lp 2 0)], [(2, (tmX (bC [98])).cells), (1, (tmX (bC [97])).cells)], H⟩ ?_ ?_
  · (constructor <;> repeat' (first | exact trivial | exact ⟨rfl, rfl⟩ | exact ⟨rfl, LeL.refl _⟩ | exact Le.refl _ | exact List.Sublist.refl _ | (show Le (AV.i _) (AV.i _); rw [List.length_map]; exact Le.refl _) | refine And.intro ?_ ?_))
  refine sem_seq (esc := fun _ => false) tab_ok mixed ?_
  refine ⟨[3, 4, 5, 10, 0, 1, 2, 6, 7, 8, 9, 11, 12], [], ord_fast (by kernel_rfl), by simp, ?_⟩
  refine ⟨_, LeL.refl _, variable6_con 1 _ _ ?_⟩
  intro hz1 hz2; clear hz1 hz2
  refine ⟨_, LeL.refl _, variable6_con 0 _ _ ?_⟩
  intro hz1 hz2; clear hz1 hz2
  refine ⟨_, LeL.refl _, app6_con (bV 1) (bV 0) _ _ ?_⟩
  intro hz1 hz2; clear hz1 hz2
  refine ⟨[tmX (bApp (bV 1) (bV 0)), .sl .full 5 ([bC [97], bC [98]].map tmA)], ⟨Le.refl _, b_two _ _, trivial⟩, (bInst_con .full (bApp (bV 1) (bV 0)) [bC [97], bC [98]]).to (by rw [al1]) _ _ ?_⟩
  intro hz1 hz2; clear hz1 hz2
  refine sem_le ⟨[(0, .g (.b false)), (1, .lp 1 0), (2, .lp 2 0), (3, .lp 3 0), (4, .g (.b true))], [(3, (tmX (bApp (bC [97]) (bC [98]))).cells), (2, (tmX (bC [98])).cells), (1, (tmX (bC [97])).cells)], H⟩ ?_ ?_
  · (constructor <;> repeat' (first | exact trivial | exact ⟨rfl, rfl⟩ | exact ⟨rfl, LeL.refl _⟩ | exact Le.refl _ | exact List.Sublist.refl _ | (show Le (AV.i _) (AV.i _); rw [List.length_map]; exact Le.refl _) | refine And.intro ?_ ?_))
  refine sem_seq (esc := fun _ => false) tab_ok mixed ?_
  refine ⟨_, LeL.refl _, app6_con (bC [97]) (bC [98]) _ _ ?_⟩
  intro hz1 hz2; clear hz1 hz2
  refine ⟨[tmX (bApp (bC [97]) (bC [98])), .sl .full 1 ([[97], [98]].map .str)], ⟨Le.refl _, Le.refl _, trivial⟩, (bAbs_con .full (bApp (bC [97]) (bC [98])) [[97], [98]]).to (by rw [al2]) _ _ ?_⟩
  intro hz1 hz2; clear hz1 hz2
  refine sem_le ⟨[(0, .g (.b false)), (1, .lp 1 0), (2, .lp 2 0), (3, .lp 3 0), (4, .g (.b true)), (5, .lp 5 0), (6, .g (.b true))], [(5, (tmX (bApp (bV 1) (bV 0))).cells), (3, (tmX (bApp (bC [97]) (bC [98]))).cells), (2, (tmX (bC [98])).cells), (1, (tmX (bC [97])).cells)], H⟩ ?_ ?_
  · (constructor <;> repeat' (first | exact trivial | exact ⟨rfl, rfl⟩ | exact ⟨rfl, LeL.refl _⟩ | exact Le.refl _ | exact List.Sublist.refl _ | (show Le (AV.i _) (AV.i _); rw [List.length_map]; exact Le.refl _) | refine And.intro ?_ ?_))
  refine sem_seq (esc := fun _ => false) tab_ok mixed ?_
  refine ⟨_, LeL.refl _, variable6_con 0 _ _ ?_⟩
  intro hz1 hz2; clear hz1 hz2
  refine ⟨_, LeL.refl _, variable6_con 0 _ _ ?_⟩
  intro hz1 hz2; clear hz1 hz2
  refine ⟨_, LeL.refl _, variable6_con 1 _ _ ?_⟩
  intro hz1 hz2; clear hz1 hz2
  refine ⟨_, LeL.refl _, app6_con (bV 0) (bV 1) _ _ ?_⟩
  intro hz1 hz2; clear hz1 hz2
  refine ⟨_, LeL.refl _, lam6_con (bV 0) (bApp (bV 0) (bV 1)) _ _ ?_⟩
  intro hz1 hz2; clear hz1 hz2
  refine ⟨_, LeL.refl _, (bLift_con (bLam (bV 0) (bApp (bV 0) (bV 1))) 3 0).to (by rw [al3]) _ _ ?_⟩
  intro hz1 hz2; clear hz1 hz2
  refine sem_le ⟨[(0, .g (.b false)), (1, .lp 1 0), (2, .lp 2 0), (3, .lp 3 0), (4, .g (.b true)), (5, .lp 5 0), (6, .g (.b true)), (7, .lp 7 0), (8, .g (.b true))], [(7, (tmX zT).cells), (5, (tmX (bApp (bV 1) (bV 0))).cells), (3, (tmX (bApp (bC [97]) (bC [98]))).cells), (2, (tmX (bC [98])).cells), (1, (tmX (bC [97])).cells)], H⟩ ?_ ?_
  · (constructor <;> repeat' (first | exact trivial | exact ⟨rfl, rfl⟩ | exact ⟨rfl, LeL.refl _⟩ | exact Le.refl _ | exact List.Sublist.refl _ | (show Le (AV.i _) (AV.i _); rw [List.length_map]; exact Le.refl _) | refine And.intro ?_ ?_))
  refine sem_seq (esc := fun _ => false) tab_ok mixed ?_
  refine ⟨_, LeL.refl _, variable6_con 3 _ _ ?_⟩
  intro hz1 hz2; clear hz1 hz2
  refine ⟨_, LeL.refl _, (bLower_con (bV 3) 2).to (by rw [al4]) _ _ ?_⟩
  intro hz1 hz2; clear hz1 hz2
  refine sem_le ⟨[(0, .g (.b false)), (1, .lp 1 0), (2, .lp 2 0), (3, .lp 3 0), (4, .g (.b true)), (5, .lp 5 0), (6, .g (.b true)), (7, .lp 7 0), (8, .g (.b true)), (9, .lp 9 0), (10, .g (.b true))], [(9, (tmX (bV 1)).cells), (7, (tmX zT).cells), (5, (tmX (bApp (bV 1) (bV 0))).cells), (3, (tmX (bApp (bC [97]) (bC [98]))).cells), (2, (tmX (bC [98])).cells), (1, (tmX (bC [97])).cells)], H⟩ ?_ ?_
  · (constructor <;> repeat' (first | exact trivial | exact ⟨rfl, rfl⟩ | exact ⟨rfl, LeL.refl _⟩ | exact Le.refl _ | exact List.Sublist.refl _ | (show Le (AV.i _) (AV.i _); rw [List.length_map]; exact Le.refl _) | refine And.intro ?_ ?_))
  refine sem_seq (esc := fun _ => false) tab_ok mixed ?_
  refine ⟨_, LeL.refl _, variable6_con 1 _ _ ?_⟩
  intro hz1 hz2; clear hz1 hz2
  refine ⟨_, LeL.refl _, (bLower_con (bV 1) 2).to (by rw [al5]) _ _ ?_⟩
  intro hz1 hz2; clear hz1 hz2
  refine sem_le ⟨[(0, .g (.b false)), (1, .lp 1 0), (2, .lp 2 0), (3, .lp 3 0), (4, .g (.b true)), (5, .lp 5 0), (6, .g (.b true)), (7, .lp 7 0), (8, .g (.b true)), (9, .lp 9 0), (10, .g (.b true)), (11, .lp 11 0), (12, .g (.b false))], [(11, (tmX tm0).cells), (9, (tmX (bV 1)).cells), (7, (tmX zT).cells), (5, (tmX (bApp (bV 1) (bV 0))).cells), (3, (tmX (bApp (bC [97]) (bC [98]))).cells), (2, (tmX (bC [98])).cells), (1, (tmX (bC [97])).cells)], H⟩ ?_ ?_
  · (constructor <;> repeat' (first | exact trivial | exact ⟨rfl, rfl⟩ | exact ⟨rfl, LeL.refl _⟩ | exact Le.refl _ | exact List.Sublist.refl _ | (show Le (AV.i _) (AV.i _); rw [List.length_map]; exact Le.refl _) | refine And.intro ?_ ?_))
  refine sem_seq (esc := fun _ => false) tab_ok mixed ?_
  refine ⟨_, LeL.refl _, lam6_con (bC [97]) (bC [97]) _ _ ?_⟩
  intro hz1 hz2; clear hz1 hz2
  refine ⟨_, LeL.refl _, variable6_con 0 _ _ ?_⟩
  intro hz1 hz2; clear hz1 hz2
  refine ⟨_, LeL.refl _, (bRepl_con (bLam (bC [97]) (bC [97])) [97] (bV 0)).to (by rw [al6]) _ _ ?_⟩
  intro hz1 hz2; clear hz1 hz2
  refine sem_le ⟨[(0, .g (.b false)), (1, .lp 1 0), (2, .lp 2 0), (3, .lp 3 0), (4, .g (.b true)), (5, .lp 5 0), (6, .g (.b true)), (7, .lp 7 0), (8, .g (.b true)), (9, .lp 9 0), (10, .g (.b true)), (11, .lp 11 0), (12, .g (.b false)), (13, .lp 13 0), (14, .g (.b true))], [(13, (tmX (bLam (bV 0) (bV 1))).cells), (11, (tmX tm0).cells), (9, (tmX (bV 1)).cells), (7, (tmX zT).cells), (5, (tmX (bApp (bV 1) (bV 0))).cells), (3, (tmX (bApp (bC [97]) (bC [98]))).cells), (2, (tmX (bC [98])).cells), (1, (tmX (bC [97])).cells)], H⟩ ?_ ?_
  · (constructor <;> repeat' (first | exact trivial | exact ⟨rfl, rfl⟩ | exact ⟨rfl, LeL.refl _⟩ | exact Le.refl _ | exact List.Sublist.refl _ | (show Le (AV.i _) (AV.i _); rw [List.length_map]; exact Le.refl _) | refine And.intro ?_ ?_))
  refine sem_seq (esc := fun _ => false) tab_ok mixed ?_
  refine ⟨[0, 1, 2, 3, 4, 5, 6, 7, 8, 9, 10, 11, 12, 13, 14, 15, 16, 17, 18, 19, 20, 21, 22, 23, 24, 25, 26, 27, 28, 29, 30, 31, 32, 33, 34, 35, 36, 37, 38, 39, 40, 41, 42, 43, 44, 45, 46, 47, 48, 49, 50, 51, 52, 53, 54, 55, 56, 57, 58, 59, 60, 61, 62, 63, 64, 65, 66, 67, 68, 69, 70], [], ord_fast (by kernel_rfl), by simp, ?_⟩
  refine ⟨_, LeL.refl _, app6_con (bC [97]) (bC [98]) _ _ ?_⟩
  intro hz1 hz2; clear hz1 hz2
  refine ⟨_, LeL.refl _, (SameTerm_con _ (bApp (bC [97]) (bC [98])) (bApp (bC [97]) (bC [98])) (Nat.le_refl _)).to (by rw [same6]) _ _ ?_⟩
  intro hz1 hz2; clear hz1 hz2
  refine ⟨_, LeL.refl _, variable6_con 1 _ _ ?_⟩
  intro hz1 hz2; clear hz1 hz2
  refine ⟨_, LeL.refl _, variable6_con 0 _ _ ?_⟩
  intro hz1 hz2; clear hz1 hz2
  refine ⟨_, LeL.refl _, app6_con (bV 1) (bV 0) _ _ ?_⟩
  intro hz1 hz2; clear hz1 hz2
  refine ⟨_, LeL.refl _, (SameTerm_con _ (bApp (bV 1) (bV 0)) (bApp (bV 1) (bV 0)) (Nat.le_refl _)).to (by rw [same6]) _ _ ?_⟩
  intro hz1 hz2; clear hz1 hz2
  refine ⟨_, LeL.refl _, variable6_con 3 _ _ ?_⟩
  intro hz1 hz2; clear hz1 hz2
  refine ⟨_, LeL.refl _, variable6_con 0 _ _ ?_⟩
  intro hz1 hz2; clear hz1 hz2
  refine ⟨_, LeL.refl _, variable6_con 4 _ _ ?_⟩
  intro hz1 hz2; clear hz1 hz2
  refine ⟨_, LeL.refl _, app6_con (bV 0) (bV 4) _ _ ?_⟩
  intro hz1 hz2; clear hz1 hz2
  refine ⟨_, LeL.refl _, lam6_con (bV 3) (bApp (bV 0) (bV 4)) _ _ ?_⟩
  intro hz1 hz2; clear hz1 hz2
  refine ⟨_, LeL.refl _, (SameTerm_con _ zT zT (Nat.le_refl _)).to (by rw [same6]) _ _ ?_⟩
  intro hz1 hz2; clear hz1 hz2
  refine ⟨_, LeL.refl _, variable6_con 0 _ _ ?_⟩
  intro hz1 hz2; clear hz1 hz2
  refine ⟨_, LeL.refl _, variable6_con 1 _ _ ?_⟩
  intro hz1 hz2; clear hz1 hz2
  refine ⟨_, LeL.refl _, lam6_con (bV 0) (bV 1) _ _ ?_⟩
  intro hz1 hz2; clear hz1 hz2
  refine ⟨_, LeL.refl _, (SameTerm_con _ (bLam (bV 0) (bV 1)) (bLam (bV 0) (bV 1)) (Nat.le_refl _)).to (by rw [same6]) _ _ ?_⟩
  intro hz1 hz2; clear hz1 hz2
  refine ⟨_, LeL.refl _, (bUses_con zT 3).to (by rw [al7]) _ _ ?_⟩
  intro hz1 hz2; clear hz1 hz2
  refine ⟨_, LeL.refl _, (bCount_con zT 3).to (by rw [al7]) _ _ ?_⟩
  intro hz1 hz2; clear hz1 hz2
  refine ⟨_, LeL.refl _, (Occurs_con (bApp (bC [97]) (bC [98])) [97]).to (by rw [al8]) _ _ ?_⟩
  intro hz1 hz2; clear hz1 hz2
  refine ⟨_, LeL.refl _, (Occurs_con (bApp (bC [97]) (bC [98])) [99]).to (by rw [al9]) _ _ ?_⟩
  intro hz1 hz2; clear hz1 hz2
  refine sem_of (esc := fun _ => false) tab_ok mixed ?_
  exact ⟨_, H, Le.refl _, List.Sublist.refl _, hq⟩
end Go.Proofs.YtjmmacbblnjogaaGreatDoor

/-
  BindUses: the law's walk. No condition.
-/
namespace Go.Proofs.YtjmmacbblnjogaaGreatDoor
open Go.RowKit

mutual
theorem uses_le (m : Int) : ∀ (t : Tm) (d : Int), tmUses m t d ≤ t.nodes
  | .mk k n nm ls xs, d => by
    have := usesL_le m k xs 0 d
    rw [tmUses, Tm.nodes]
    split <;> omega
theorem usesL_le (m k : Int) : ∀ (ts : List Tm) (i : Nat) (d : Int), tmUsesL m k ts i d ≤ Tm.nodesL ts
  | [], _, _ => by rw [tmUsesL]; omega
  | t :: ts, i, d => by
    have h1 := uses_le m t (if tmBind k i = true then d + 1 else d)
    have h2 := usesL_le m k ts (i + 1) d
    rw [tmUsesL, Tm.nodesL]
    omega
end
theorem fb {C : Bool → Prop} (h0 : C false) (h1 : C true) : ∀ q, C q
  | false => h0
  | true => h1
theorem bInst_one {t a : Tm} (ht : tmRight 4 1125899906842624 t = true) (ha : tmRight 4 1125899906842624 a = true) : bInst t [a] = madeB (bld (instF [a]) t 0) := by
  unfold bInst
  rw [if_pos ⟨ht, by simp, by simp [ha]⟩]
theorem madeB_yes {x : Tm} (h : x.nodes ≤ 2000) : madeB x = (x, true) := if_pos h
theorem madeB_no {x : Tm} (h : ¬x.nodes ≤ 2000) : madeB x = (tm0, false) := if_neg h
theorem bCount_right {t : Tm} (ht : tmRight 4 1125899906842624 t = true) : bCount t 0 = (tmUses 0 t 0 : Nat) := if_pos ⟨ht, by decide, by decide⟩
set_option maxRecDepth 100000 in
set_option maxHeartbeats 4000000 in
theorem bindUses_con (t a b : Tm) : Ans Tryz.prog 6 [tmX t, tmX a, tmX b] (.b true) := by
  intro H Q hq
  have fin : ∃ r H', Le (.b true) r ∧ List.Sublist H' H ∧ Q r H' := ⟨_, H, Le.refl _, List.Sublist.refl _, hq⟩
  refine con_of_sem tab_ok Tryz.func6 rfl (ent Tryz.func6 (by kernel_rfl) rfl) (by kernel_rfl) ?_
  intro hw hn
  clear hw hn
  refine sem_seq (esc := fun _ => false) tab_ok mixed ?_
  refine sem_seq (esc := fun _ => false) tab_ok mixed ?_
  refine ⟨_, LeL.refl _, alive6_con _ _ ?_⟩
  intro hz1 hz2; clear hz1 hz2
  refine sem_seq (esc := fun _ => false) tab_ok mixed ?_
  refine ⟨[tmX t, .sl .full 5 ([a, b].map tmA)], ⟨Le.refl _, b_two _ _, trivial⟩, great6_some .full t [a, b] _ _ (fb (fun _ => ?_) (fun _ => ?_))⟩
  rotate_left
  · intro hz1 hz2; clear hz1 hz2
    exact fin
  intro hz1 hz2; clear hz1 hz2
  by_cases ht : tmRight 4 1125899906842624 t = true
  rotate_left
  · refine ⟨_, LeL.refl _, (ref04Any_con t 4).no ht _ _ ?_⟩
    intro hz1 hz2; clear hz1 hz2
    exact fin
  refine ⟨_, LeL.refl _, (ref04Any_con t 4).yes ht _ _ ?_⟩
  intro hz1 hz2; clear hz1 hz2
  by_cases ha : tmRight 4 1125899906842624 a = true
  rotate_left
  · refine ⟨_, LeL.refl _, (ref04Any_con a 4).no ha _ _ ?_⟩
    intro hz1 hz2; clear hz1 hz2
    exact fin
  refine ⟨_, LeL.refl _, (ref04Any_con a 4).yes ha _ _ ?_⟩
  intro hz1 hz2; clear hz1 hz2
  by_cases hb : tmRight 4 1125899906842624 b = true
  rotate_left
  · refine ⟨_, LeL.refl _, (ref04Any_con b 4).no hb _ _ ?_⟩
    intro hz1 hz2; clear hz1 hz2
    exact fin
  refine ⟨_, LeL.refl _, (ref04Any_con b 4).yes hb _ _ ?_⟩
  intro hz1 hz2; clear hz1 hz2
  obtain ⟨tn, tf⟩ := right_fit ht
  have an := (right_fit ha).1
  have en := inst_nodes (a := a) t 0 _ tf
  have en2 := inst_nodes (a := b) t 0 _ tf
  have eu := inst_unused (a := a) (b := b) t 0 _ tf
  have e1 := bInst_one ht ha
  have e2 := bInst_one ht hb
  have ec := bCount_right ht
  have ule := uses_le 0 t 0
  have apos := a.nodes_pos
  obtain ⟨x, hx⟩ : ∃ x, bld (instF [a]) t 0 = x := ⟨_, rfl⟩
  obtain ⟨y, hy⟩ : ∃ y, bld (instF [b]) t 0 = y := ⟨_, rfl⟩
  obtain ⟨u, hu⟩ : ∃ u, tmUses 0 t 0 = u := ⟨_, rfl⟩
  rw [hx] at e1 en eu
  rw [hy] at e2 en2 eu
  rw [hu] at en en2 eu ec ule
  by_cases hu0 : u = 0
  · subst hu0
    have exy := eu rfl
    subst exy
    have hxn : x.nodes ≤ 2000 := by omega
    rw [madeB_yes hxn] at e1 e2
    refine sem_seq (esc := fun _ => false) tab_ok mixed ?_
    refine ⟨[tmX t, .sl .full 5 ([a].map tmA)], ⟨Le.refl _, b_one _, trivial⟩, (bInst_con .full t [a]).to (by rw [e1]) _ _ ?_⟩
    intro hz1 hz2; clear hz1 hz2
    refine sem_seq (esc := fun _ => false) tab_ok mixed ?_
    refine ⟨[tmX t, .sl .full 5 ([b].map tmA)], ⟨Le.refl _, b_one _, trivial⟩, (bInst_con .full t [b]).to (by rw [e2]) _ _ ?_⟩
    intro hz1 hz2; clear hz1 hz2
    refine sem_seq (esc := fun _ => false) tab_ok mixed ?_
    refine ⟨_, LeL.refl _, (bUses_con t 0).to (by rw [ec]) _ _ ?_⟩
    intro hz1 hz2; clear hz1 hz2
    refine ⟨_, LeL.refl _, (SameTerm_con _ x x (Nat.le_refl _)).to (by rw [same6]) _ _ ?_⟩
    intro hz1 hz2; clear hz1 hz2
    refine ⟨_, LeL.refl _, (bCount_con t 0).to (by rw [ec]) _ _ ?_⟩
    intro hz1 hz2; clear hz1 hz2
    exact fin
  · have hup : decide (0 < bCount t 0) = true := by rw [ec, decide_eq_true_eq]; omega
    obtain ⟨m, hm⟩ : ∃ m : Int, (u : Int) * ((a.nodes : Int) - 1) = m := ⟨_, rfl⟩
    have hmn : (x.nodes : Int) = t.nodes + m := by
      rw [← hm, Int.mul_sub, Int.mul_one]
      have : ((x.nodes + u : Nat) : Int) = ((t.nodes + u * a.nodes : Nat) : Int) := by rw [en]
      simp only [Int.natCast_add, Int.natCast_mul] at this
      omega
    have hm0 : 0 ≤ m := by rw [← hm]; exact Int.mul_nonneg (by omega) (by omega)
    have hm1 : m ≤ 4000000 := by
      rw [← hm]
      calc (u : Int) * ((a.nodes : Int) - 1) ≤ 2000 * 2000 := Int.mul_le_mul (by omega) (by omega) (by omega) (by omega)
        _ = 4000000 := by decide
    have tc : Ans Tryz.prog 27 [tmX t, .i 2000] (.i (t.nodes : Nat)) := (ref04Nodes_con 2000 (by decide) _ t (Nat.le_refl _)).to (by rw [Nat.min_eq_left (by omega)])
    have ac : Ans Tryz.prog 27 [tmX a, .i 2000] (.i (a.nodes : Nat)) := (ref04Nodes_con 2000 (by decide) _ a (Nat.le_refl _)).to (by rw [Nat.min_eq_left (by omega)])
    obtain ⟨yb, hyb⟩ : ∃ yb, bInst t [b] = yb := ⟨_, rfl⟩
    by_cases hxn : x.nodes ≤ 2000
    · rw [madeB_yes hxn] at e1
      have xc : Ans Tryz.prog 27 [tmX x, .i 2000] (.i (x.nodes : Nat)) := (ref04Nodes_con 2000 (by decide) _ x (Nat.le_refl _)).to (by rw [Nat.min_eq_left (by omega)])
      refine sem_seq (esc := fun _ => false) tab_ok mixed ?_
      refine ⟨[tmX t, .sl .full 5 ([a].map tmA)], ⟨Le.refl _, b_one _, trivial⟩, (bInst_con .full t [a]).to (by rw [e1]) _ _ ?_⟩
      intro hz1 hz2; clear hz1 hz2
      refine sem_seq (esc := fun _ => false) tab_ok mixed ?_
      refine ⟨[tmX t, .sl .full 5 ([b].map tmA)], ⟨Le.refl _, b_one _, trivial⟩, (bInst_con .full t [b]).to (by rw [hyb]) _ _ ?_⟩
      intro hz1 hz2; clear hz1 hz2
      refine sem_seq (esc := fun _ => false) tab_ok mixed ?_
      refine ⟨_, LeL.refl _, (bUses_con t 0).to (by rw [hup]) _ _ ?_⟩
      intro hz1 hz2; clear hz1 hz2
      refine sem_seq (esc := fun _ => false) tab_ok mixed ?_
      refine ⟨[0, 2, 4, 1, 3, 5, 6, 7, 8, 9], [], ord_fast (by kernel_rfl), by simp, ?_⟩
      refine ⟨_, LeL.refl _, tc _ _ ?_⟩
      intro hz1 hz2; clear hz1 hz2
      refine ⟨_, LeL.refl _, (bCount_con t 0).to (by rw [ec]) _ _ ?_⟩
      intro hz1 hz2; clear hz1 hz2
      refine ⟨_, LeL.refl _, ac _ _ ?_⟩
      intro hz1 hz2; clear hz1 hz2
      refine ⟨in64_of (by first | omega | (dsimp only; omega)) (by first | omega | (dsimp only; omega)), ?_⟩
      refine ⟨by rw [hm]; exact in64_of (by omega) (by omega), ?_⟩
      refine ⟨by rw [hm]; exact in64_of (by omega) (by omega), ?_⟩
      refine sem_seq (esc := fun _ => false) tab_ok mixed ?_
      refine ifB_t (by rw [hm]; omega) ?_
      refine ⟨_, LeL.refl _, xc _ _ ?_⟩
      intro hz1 hz2; clear hz1 hz2
      refine ifB_t (by rw [hm]; omega) ?_
      refine sem_of (esc := fun _ => false) tab_ok mixed ?_
      exact fin
    · rw [madeB_no hxn] at e1
      refine sem_seq (esc := fun _ => false) tab_ok mixed ?_
      refine ⟨[tmX t, .sl .full 5 ([a].map tmA)], ⟨Le.refl _, b_one _, trivial⟩, (bInst_con .full t [a]).to (by rw [e1]) _ _ ?_⟩
      intro hz1 hz2; clear hz1 hz2
      refine sem_seq (esc := fun _ => false) tab_ok mixed ?_
      refine ⟨[tmX t, .sl .full 5 ([b].map tmA)], ⟨Le.refl _, b_one _, trivial⟩, (bInst_con .full t [b]).to (by rw [hyb]) _ _ ?_⟩
      intro hz1 hz2; clear hz1 hz2
      refine sem_seq (esc := fun _ => false) tab_ok mixed ?_
      refine ⟨_, LeL.refl _, (bUses_con t 0).to (by rw [hup]) _ _ ?_⟩
      intro hz1 hz2; clear hz1 hz2
      refine sem_seq (esc := fun _ => false) tab_ok mixed ?_
      refine ⟨[0, 2, 4, 1, 3, 5, 6, 7, 8, 9], [], ord_fast (by kernel_rfl), by simp, ?_⟩
      refine ⟨_, LeL.refl _, tc _ _ ?_⟩
      intro hz1 hz2; clear hz1 hz2
      refine ⟨_, LeL.refl _, (bCount_con t 0).to (by rw [ec]) _ _ ?_⟩
      intro hz1 hz2; clear hz1 hz2
      refine ⟨_, LeL.refl _, ac _ _ ?_⟩
      intro hz1 hz2; clear hz1 hz2
      refine ⟨in64_of (by first | omega | (dsimp only; omega)) (by first | omega | (dsimp only; omega)), ?_⟩
      refine ⟨by rw [hm]; exact in64_of (by omega) (by omega), ?_⟩
      refine ⟨by rw [hm]; exact in64_of (by omega) (by omega), ?_⟩
      refine sem_seq (esc := fun _ => false) tab_ok mixed ?_
      refine ifB_f (by rw [hm]; omega) ?_
      refine sem_of (esc := fun _ => false) tab_ok mixed ?_
      exact fin
end Go.Proofs.YtjmmacbblnjogaaGreatDoor

/-
  BindSteps: the law's walk. No condition.
-/
namespace Go.Proofs.YtjmmacbblnjogaaGreatDoor
open Go.RowKit

theorem bInst_true {t : Tm} {args : List Tm} {x : Tm} (h : bInst t args = (x, true)) : tmRight 4 1125899906842624 t = true ∧ (∀ a ∈ args, tmRight 4 1125899906842624 a = true) ∧ x = bld (instF args) t 0 := by
  unfold bInst at h
  split at h
  · rename_i hc
    refine ⟨hc.1, fun a ha => List.all_eq_true.1 hc.2.2 a ha, ?_⟩
    unfold madeB at h
    split at h
    · exact (Prod.ext_iff.1 h).1.symm
    · exact absurd (Prod.ext_iff.1 h).2 (by simp)
  · exact absurd (Prod.ext_iff.1 h).2 (by simp)
def rLoose (t : Tm) : Int := if tmRight 4 1125899906842624 t = true then tmLoose t 0 else 0
set_option maxRecDepth 100000 in
theorem rLoose_con (t : Tm) : Ans Tryz.prog 14 [tmX t] (.i (rLoose t)) := ref04Loose_con t
theorem rLoose_nonneg (t : Tm) : 0 ≤ rLoose t := by
  unfold rLoose
  split
  · exact tmLoose_nonneg t 0
  · exact Int.le_refl _
theorem right_loose {t : Tm} (h : tmRight 4 1125899906842624 t = true) : tmLoose t 0 ≤ 1125899906842624 := by
  exact (needs_of h).2.2.1
theorem rLoose_le (t : Tm) : rLoose t ≤ 1125899906842624 := by
  unfold rLoose
  split
  · rename_i h
    exact right_loose h
  · decide
set_option maxRecDepth 100000 in
set_option maxHeartbeats 4000000 in
theorem bindSteps_con (t a b : Tm) : Ans Tryz.prog 4 [tmX t, tmX a, tmX b] (.b true) := by
  intro H Q hq
  have fin : ∃ r H', Le (.b true) r ∧ List.Sublist H' H ∧ Q r H' := ⟨_, H, Le.refl _, List.Sublist.refl _, hq⟩
  obtain ⟨⟨x2, ok⟩, h1⟩ : ∃ p, bInst t [a, b] = p := ⟨_, rfl⟩
  obtain ⟨⟨up, is⟩, h2⟩ : ∃ p, bLift b 1 0 = p := ⟨_, rfl⟩
  obtain ⟨⟨f1, has⟩, h3⟩ : ∃ p, bInst t [up] = p := ⟨_, rfl⟩
  obtain ⟨⟨x, had⟩, h4⟩ : ∃ p, bInst f1 [a] = p := ⟨_, rfl⟩
  refine con_of_sem tab_ok Tryz.func4 rfl (ent Tryz.func4 (by kernel_rfl) rfl) (by kernel_rfl) ?_
  intro hw hn
  clear hw hn
  refine sem_seq (esc := fun _ => false) tab_ok mixed ?_
  refine sem_seq (esc := fun _ => false) tab_ok mixed ?_
  refine ⟨_, LeL.refl _, alive6_con _ _ ?_⟩
  intro hz1 hz2; clear hz1 hz2
  refine sem_seq (esc := fun _ => false) tab_ok mixed ?_
  refine ⟨[tmX t, .sl .full 5 ([a, b].map tmA)], ⟨Le.refl _, b_two _ _, trivial⟩, great6_some .full t [a, b] _ _ (fb (fun _ => ?_) (fun _ => ?_))⟩
  rotate_left
  · intro hz1 hz2; clear hz1 hz2
    exact fin
  intro hz1 hz2; clear hz1 hz2
  refine sem_seq (esc := fun _ => false) tab_ok mixed ?_
  refine ⟨[tmX t, .sl .full 5 ([a, b].map tmA)], ⟨Le.refl _, b_two _ _, trivial⟩, (bInst_con .full t [a, b]).to (by rw [h1]) _ _ ?_⟩
  intro hz1 hz2; clear hz1 hz2
  refine sem_seq (esc := fun _ => false) tab_ok mixed ?_
  refine ⟨_, LeL.refl _, (bLift_con b 1 0).to (by rw [h2]) _ _ ?_⟩
  intro hz1 hz2; clear hz1 hz2
  refine sem_seq (esc := fun _ => false) tab_ok mixed ?_
  refine ⟨[tmX t, .sl .full 5 ([up].map tmA)], ⟨Le.refl _, b_one _, trivial⟩, (bInst_con .full t [up]).to (by rw [h3]) _ _ ?_⟩
  intro hz1 hz2; clear hz1 hz2
  refine sem_seq (esc := fun _ => false) tab_ok mixed ?_
  refine ⟨[tmX f1, .sl .full 5 ([a].map tmA)], ⟨Le.refl _, b_one _, trivial⟩, (bInst_con .full f1 [a]).to (by rw [h4]) _ _ ?_⟩
  intro hz1 hz2; clear hz1 hz2
  refine sem_le ⟨[(3, .lp 3 0), (4, .lp 4 0), (5, .lp 5 0), (6, .g (.b false)), (7, .lp 7 0), (8, .g (.b ok)), (9, .lp 9 0), (10, .g (.b is)), (11, .lp 11 0), (12, .g (.b has)), (13, .lp 13 0), (14, .g (.b had))], [(13, (tmX x).cells), (11, (tmX f1).cells), (9, (tmX up).cells), (7, (tmX x2).cells), (5, (tmX b).cells), (4, (tmX a).cells), (3, (tmX t).cells)], H⟩ ?_ ?_
  · (constructor <;> repeat' (first | exact trivial | exact ⟨rfl, rfl⟩ | exact ⟨rfl, LeL.refl _⟩ | exact Le.refl _ | exact List.Sublist.refl _ | (show Le (AV.i _) (AV.i _); rw [List.length_map]; exact Le.refl _) | refine And.intro ?_ ?_))
  refine sem_seq (esc := fun _ => false) tab_ok mixed ?_
  cases ok with
  | false =>
    refine sem_seq (esc := fun _ => false) tab_ok mixed ?_
    refine ⟨[0, 1, 2, 3, 4, 5, 6, 7, 9, 12, 15, 8, 10, 11, 13, 14, 16, 17, 18, 19, 20], [], ord_fast (by kernel_rfl), by simp, ?_⟩
    refine sem_of (esc := fun _ => false) tab_ok mixed ?_
    exact fin
  | true =>
    obtain ⟨ht, hab, hx2⟩ := bInst_true h1
    have ha := hab a (by simp)
    have hb := hab b (by simp)
    obtain ⟨tn, tf⟩ := right_fit ht
    obtain ⟨bn, bf⟩ := right_fit hb
    have hl := inst_loose (a := a) (b := b) t 0 _ (Int.le_refl _) tf
    have hup : bLift b 1 0 = (tmLift 1 b 0, true) := if_pos ⟨hb, by decide, by decide⟩
    rw [hup] at h2
    obtain ⟨rfl, rfl⟩ := Prod.ext_iff.1 h2
    have hfin : rLoose x2 ≤ max (max (rLoose t - 2) (rLoose a)) (rLoose b) := by
      have e1 : rLoose t = tmLoose t 0 := if_pos ht
      have e2 : rLoose a = tmLoose a 0 := if_pos ha
      have e3 : rLoose b = tmLoose b 0 := if_pos hb
      have e4 := rLoose_nonneg b
      have e5 : rLoose x2 = 0 ∨ rLoose x2 = tmLoose x2 0 := by
        unfold rLoose
        split
        · exact Or.inr rfl
        · exact Or.inl rfl
      rw [← hx2] at hl
      rw [e1, e2, e3]
      rw [e3] at e4
      rcases e5 with e5 | e5
      · rw [e5]; omega
      · rw [e5]; exact hl
    have l1 := rLoose_nonneg t
    have l2 := rLoose_le t
    cases has with
    | false =>
      refine sem_seq (esc := fun _ => false) tab_ok mixed ?_
      refine ⟨[0, 1, 2, 3, 4, 5, 6, 7, 9, 12, 15, 8, 10, 11, 13, 14, 16, 17, 18, 19, 20], [], ord_fast (by kernel_rfl), by simp, ?_⟩
      refine ⟨_, LeL.refl _, rLoose_con x2 _ _ ?_⟩
      intro hz1 hz2; clear hz1 hz2
      refine ⟨_, LeL.refl _, rLoose_con t _ _ ?_⟩
      intro hz1 hz2; clear hz1 hz2
      refine ⟨in64_of (by first | omega | (dsimp only; omega)) (by first | omega | (dsimp only; omega)), ?_⟩
      refine ⟨_, LeL.refl _, rLoose_con a _ _ ?_⟩
      intro hz1 hz2; clear hz1 hz2
      refine ⟨_, LeL.refl _, rLoose_con b _ _ ?_⟩
      intro hz1 hz2; clear hz1 hz2
      refine ifB_t hfin ?_
      refine sem_of (esc := fun _ => false) tab_ok mixed ?_
      exact fin
    | true =>
      cases had with
      | false =>
        refine sem_seq (esc := fun _ => false) tab_ok mixed ?_
        refine ⟨[0, 1, 2, 3, 4, 5, 6, 7, 9, 12, 15, 8, 10, 11, 13, 14, 16, 17, 18, 19, 20], [], ord_fast (by kernel_rfl), by simp, ?_⟩
        refine ⟨_, LeL.refl _, rLoose_con x2 _ _ ?_⟩
        intro hz1 hz2; clear hz1 hz2
        refine ⟨_, LeL.refl _, rLoose_con t _ _ ?_⟩
        intro hz1 hz2; clear hz1 hz2
        refine ⟨in64_of (by first | omega | (dsimp only; omega)) (by first | omega | (dsimp only; omega)), ?_⟩
        refine ⟨_, LeL.refl _, rLoose_con a _ _ ?_⟩
        intro hz1 hz2; clear hz1 hz2
        refine ⟨_, LeL.refl _, rLoose_con b _ _ ?_⟩
        intro hz1 hz2; clear hz1 hz2
        refine ifB_t hfin ?_
        refine sem_of (esc := fun _ => false) tab_ok mixed ?_
        exact fin
      | true =>
        obtain ⟨_, _, hf1⟩ := bInst_true h3
        obtain ⟨_, _, hx⟩ := bInst_true h4
        have hst := inst_steps (a := a) (b := b) bf t 0 _ (Int.le_refl _) tf
        have hxx : x2 = x := by rw [hx2, hx, hf1]; exact hst.symm
        subst hxx
        refine ⟨_, LeL.refl _, (SameTerm_con _ x2 x2 (Nat.le_refl _)).to (by rw [same6]) _ _ ?_⟩
        intro hz1 hz2; clear hz1 hz2
        refine sem_seq (esc := fun _ => false) tab_ok mixed ?_
        refine ⟨[0, 1, 2, 3, 4, 5, 6, 7, 9, 12, 15, 8, 10, 11, 13, 14, 16, 17, 18, 19, 20], [], ord_fast (by kernel_rfl), by simp, ?_⟩
        refine ⟨_, LeL.refl _, rLoose_con x2 _ _ ?_⟩
        intro hz1 hz2; clear hz1 hz2
        refine ⟨_, LeL.refl _, rLoose_con t _ _ ?_⟩
        intro hz1 hz2; clear hz1 hz2
        refine ⟨in64_of (by first | omega | (dsimp only; omega)) (by first | omega | (dsimp only; omega)), ?_⟩
        refine ⟨_, LeL.refl _, rLoose_con a _ _ ?_⟩
        intro hz1 hz2; clear hz1 hz2
        refine ⟨_, LeL.refl _, rLoose_con b _ _ ?_⟩
        intro hz1 hz2; clear hz1 hz2
        refine ifB_t hfin ?_
        refine sem_of (esc := fun _ => false) tab_ok mixed ?_
        exact fin
end Go.Proofs.YtjmmacbblnjogaaGreatDoor
