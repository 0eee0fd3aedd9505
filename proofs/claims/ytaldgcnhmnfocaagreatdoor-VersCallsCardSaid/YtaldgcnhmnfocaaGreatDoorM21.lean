/-
  Texts put together: Q12, Q13, Q14, Q15. No condition.
-/
import Derived.Test.YtaldgcnhmnfocaaGreatDoorM20
/-
  VersKeeps: the law's walk. No condition.
-/
namespace Go.Proofs.YtaldgcnhmnfocaaGreatDoor
open Go.RowKit

theorem vAt_snoc {vs : List Vn} {v : Vn} {z : Int} (h : ∀ u ∈ vs, (v.n : Int) ≠ (u.n : Int)) (hv : v.pins = 0) : pinsAt (vs ++ [v]) z = pinsAt vs z := by
  unfold pinsAt vAt
  rw [List.find?_append]
  cases hf : vs.find? fun u => decide (z = (u.n : Int)) with
  | some u => rfl
  | none =>
    show (match (none : Option Vn).or ([v].find? fun u => decide (z = (u.n : Int))) with | some v => v.pins | none => 0) = 0
    rw [Option.none_or, List.find?_cons]
    cases decide (z = (v.n : Int)) with
    | true => exact hv
    | false => rfl
theorem pinsAt_set (n z : Int) (p : Nat) (vs : List Vn) : pinsAt (setPins n p vs) z = if z = n then (if vAt vs n = none then 0 else p) else pinsAt vs z := by
  induction vs with
  | nil => split <;> rfl
  | cons v vs ih =>
    have e1 : pinsAt (setPins n p (v :: vs)) z = if z = (v.n : Int) then (if n = (v.n : Int) then p else v.pins) else pinsAt (setPins n p vs) z := by
      unfold pinsAt setPins vAt
      rw [List.map_cons, List.find?_cons]
      have e : (if n = (v.n : Int) then ({ v with pins := p } : Vn) else v).n = v.n := by split <;> rfl
      rw [e]
      by_cases hz : z = (v.n : Int)
      · rw [decide_eq_true hz, if_pos hz]
        simp only
        split <;> rfl
      · rw [decide_eq_false hz, if_neg hz]
    have e2 : pinsAt (v :: vs) z = if z = (v.n : Int) then v.pins else pinsAt vs z := by
      unfold pinsAt vAt
      rw [List.find?_cons]
      by_cases hz : z = (v.n : Int)
      · rw [decide_eq_true hz, if_pos hz]
      · rw [decide_eq_false hz, if_neg hz]
    have e3 : (vAt (v :: vs) n = none) ↔ n ≠ (v.n : Int) ∧ vAt vs n = none := by
      unfold vAt
      rw [List.find?_cons]
      by_cases hz : n = (v.n : Int)
      · rw [decide_eq_true hz]; simp [hz]
      · rw [decide_eq_false hz]; simp [hz]
    rw [e1, e2, ih]
    by_cases h1 : z = (v.n : Int)
    · rw [if_pos h1, if_pos h1]
      by_cases h2 : z = n
      · rw [if_pos h2, if_pos (by omega), if_neg (by rw [e3]; intro h; exact h.1 (by omega))]
      · rw [if_neg h2, if_neg (by omega)]
    · rw [if_neg h1, if_neg h1]
      by_cases h2 : z = n
      · rw [if_pos h2, if_pos h2]
        by_cases h3 : vAt vs n = none
        · rw [if_pos h3, if_pos (e3.2 ⟨by omega, h3⟩)]
        · rw [if_neg h3, if_neg (fun h => h3 (e3.1 h).2)]
      · rw [if_neg h2, if_neg h2]
theorem pinsAt_swept {s : Sto} (hs : s.Ok) (z : Int) : pinsAt s.swept.vs z = pinsAt s.vs z := by
  cases hv : vAt s.vs z with
  | none =>
    have h1 : vAt s.swept.vs z = none := vAt_sub List.filter_sublist hv
    rw [pinsAt, pinsAt, hv, h1]
  | some v =>
    obtain ⟨h1, rfl⟩ := vAt_some hv
    have h0 := pinsAt_in hs.vs h1
    rw [h0]
    by_cases hp : v.pins = 0
    · rw [hp]
      unfold pinsAt
      cases hw : vAt s.swept.vs (v.n : Int) with
      | none => rfl
      | some u =>
        obtain ⟨k1, k2⟩ := vAt_some hw
        have := hs.vs.sameN (List.mem_filter.1 k1).1 h1 (by omega)
        subst this
        exact hp
    · have hin : v ∈ s.swept.vs := List.mem_filter.2 ⟨h1, by rw [needN, h0, decide_eq_true (show (0 : Int) < (v.pins : Int) by omega), Bool.or_true]⟩
      exact pinsAt_in hs.swept.vs hin
/-- how many pins, number by number -/
def pinsL (vs : List Vn) : List AV := (List.range 100).map fun k => AV.i (pinsAt vs (k : Nat) : Nat)
theorem pinsL_eq {vs ws : List Vn} (h : ∀ z, pinsAt vs z = pinsAt ws z) : pinsL vs = pinsL ws := List.map_congr_left fun k _ => by rw [h]
theorem pinsL_len (vs : List Vn) : (pinsL vs).length = 100 := by rw [pinsL, List.length_map, List.length_range]
theorem pinsL_at (vs : List Vn) {k : Nat} (h : k < 100) : (pinsL vs)[k]? = some (.i (pinsAt vs (k : Nat) : Nat)) := by
  rw [pinsL, List.getElem?_map, List.getElem?_range h]
  rfl
theorem pinsL_cell (vs : List Vn) {k : Nat} (h : k < 100) : ∃ r, (pinsL vs).drop (0 + k * 1) = .i (pinsAt vs (k : Nat) : Nat) :: r := by
  have h1 : k < (pinsL vs).length := by rw [pinsL_len]; exact h
  refine ⟨(pinsL vs).drop (k + 1), ?_⟩
  rw [Nat.zero_add, Nat.mul_one, List.drop_eq_getElem_cons h1]
  have := pinsL_at vs h
  rw [List.getElem?_eq_getElem h1] at this
  rw [Option.some.inj this]
theorem pinsL_put (vs : List Vn) {k : Nat} (h : k < 100) (p : Nat) (hv : vAt vs (k : Nat) ≠ none) {q : Int} (hq : q = (p : Int)) : putCells (pinsL vs) (0 + k * 1) [.i q] = pinsL (setPins (k : Nat) p vs) := by
  subst hq
  apply List.ext_getElem?
  intro j
  have hl : (pinsL vs).length = 100 := pinsL_len vs
  unfold putCells
  rw [Nat.zero_add, Nat.mul_one, List.length_singleton, List.append_assoc]
  by_cases hj : j < 100
  · rw [pinsL_at _ hj, pinsAt_set]
    rcases Nat.lt_trichotomy j k with h1 | h1 | h1
    · rw [List.getElem?_append_left (by rw [List.length_take]; omega), List.getElem?_take, if_pos h1, pinsL_at _ hj, if_neg (by omega)]
    · subst h1
      rw [List.getElem?_append_right (by rw [List.length_take]; omega), List.length_take, Nat.min_eq_left (by omega), Nat.sub_self, if_pos rfl, if_neg hv]
      rfl
    · rw [List.getElem?_append_right (by rw [List.length_take]; omega), List.length_take, Nat.min_eq_left (by omega), List.getElem?_append_right (by simp; omega), List.length_singleton, List.getElem?_drop, show k + 1 + (j - k - 1) = j by omega, pinsL_at _ hj, if_neg (by omega)]
  · rw [List.getElem?_eq_none, List.getElem?_eq_none]
    · rw [pinsL_len]; omega
    · simp only [List.length_append, List.length_take, List.length_drop, List.length_singleton]; omega
theorem pinsL_zero {vs0 : Sto} {vs : List Vn} (h : Few vs0 0) (e : vs0.vs = vs) : pinsL vs = (List.replicate 100 (lit (.int .i64 0)).cells).flatten := by
  subst e
  have : ∀ z, pinsAt vs0.vs z = 0 := fun z => by have := h.at z; omega
  have h2 : pinsL vs0.vs = (List.range 100).map fun _ => AV.i (0 : Nat) := List.map_congr_left fun k _ => by rw [this]
  rw [h2]
  rfl
/-- how many are held by pins, but for the head -/
def heldN (s : Sto) (n : Nat) : List Nat := (List.range n).filter fun k => decide (0 < pinsAt s.vs (k : Nat)) && !decide (k = s.head)
theorem heldN_succ (s : Sto) (n : Nat) : heldN s (n + 1) = heldN s n ++ (if 0 < pinsAt s.vs (n : Nat) ∧ n ≠ s.head then [n] else []) := by
  unfold heldN
  rw [List.range_succ, List.filter_append, List.filter_cons, List.filter_nil]
  congr 1
  by_cases h1 : 0 < pinsAt s.vs (n : Nat)
  · by_cases h2 : n = s.head
    · simp [h1, h2]
    · simp [h1, h2]
  · simp [h1]
theorem heldN_le (s : Sto) (n : Nat) : (heldN s n).length ≤ n := by
  have := List.length_filter_le (fun k => decide (0 < pinsAt s.vs (k : Nat)) && !decide (k = s.head)) (List.range n)
  rw [List.length_range] at this
  exact this
/-- behind a sweep -/
theorem held_all {s : Sto} (hs : s.Ok) (hh : s.head < 100) (hn : ∀ v ∈ s.vs, needN s v.n = true) : s.vs.length = (heldN s 100).length + 1 := by
  obtain ⟨i, u, e, hu⟩ := hs.top
  have hns := hs.vs.ns
  rw [e] at hns
  have hp := List.pairwise_append.1 hns
  have hlt : ∀ v ∈ i, v.n < s.head := fun v hv => by have := hp.2.2 v hv u (by simp); omega
  have hperm : (i.map Vn.n).Perm (heldN s 100) := by
    refine (List.perm_ext_iff_of_nodup ?_ ?_).2 fun k => ?_
    · show (i.map Vn.n).Pairwise _
      rw [List.pairwise_map]
      exact hp.1.imp fun h => by omega
    · exact List.Nodup.sublist List.filter_sublist List.nodup_range
    · unfold heldN
      rw [List.mem_filter, List.mem_range]
      simp only [Bool.and_eq_true, decide_eq_true_eq, Bool.not_eq_true', decide_eq_false_iff_not]
      constructor
      · intro hk
        obtain ⟨v, hv, rfl⟩ := List.mem_map.1 hk
        have hvs : v ∈ s.vs := by rw [e]; exact List.mem_append_left _ hv
        have h1 := hlt v hv
        have h2 := hn v hvs
        rw [needN, decide_eq_false (show ¬ ((v.n : Int) = (s.head : Int)) by omega), Bool.false_or, decide_eq_true_eq] at h2
        exact ⟨by omega, by omega, by omega⟩
      · rintro ⟨_, h1, h2⟩
        cases hv : vAt s.vs (k : Nat) with
        | none => rw [pinsAt, hv] at h1; exact (Nat.lt_irrefl 0 h1).elim
        | some v =>
          obtain ⟨k1, k2⟩ := vAt_some hv
          have hkn : v.n = k := by omega
          rw [e] at k1
          rcases List.mem_append.1 k1 with k1 | k1
          · exact List.mem_map.2 ⟨v, k1, hkn⟩
          · rw [List.mem_singleton.1 k1] at hkn
            omega
  have := hperm.length_eq
  rw [List.length_map] at this
  rw [e, List.length_append, this]
  rfl
/-- what the law keeps -/
structure KeepOk (i : Nat) (bs bp : Nat) (most : Int) (H : Heap) (s : Sto) (Hk : Heap) : Prop where
  ok : s.Ok
  st : HasSt s ((bp, .cells (pinsL s.vs)) :: H) Hk
  bs : s.bs = bs
  hd : s.head ≤ i
  few : Few s i
  mo : s.most = most
  len : (s.vs.length : Int) ≤ most
section
variable {i bs bp : Nat} {most : Int} {H : Heap} {s : Sto} {Hk Hk' : Heap}
theorem KeepOk.up (h : KeepOk i bs bp most H s Hk) : KeepOk (i + 1) bs bp most H s Hk := ⟨h.ok, h.st, h.bs, by have := h.hd; omega, h.few.up, h.mo, h.len⟩
theorem KeepOk.push (h : KeepOk i bs bp most H s Hk) (hi : i ≤ 80) (hm : most ≤ 64) (hr : roomS s = 0) {b : Nat} {t : Tre} {l : List En} (hst : HasSt (s.more b t l) ((bp, .cells (pinsL s.vs)) :: H) Hk') : KeepOk (i + 1) bs bp most H (s.more b t l) Hk' := by
  have hhd := h.hd
  have hlen := h.len
  have hmo := h.mo
  have hlt : (s.vs.length : Int) < most := by
    unfold roomS at hr
    split at hr
    · omega
    · split at hr
      · omega
      · omega
  have e : pinsL (s.more b t l).vs = pinsL s.vs := pinsL_eq fun z => vAt_snoc h.ok.fresh rfl
  refine ⟨h.ok.more (by omega) (by omega) b t l, by rw [e]; exact hst, h.bs, by show s.head + 1 ≤ i + 1; omega, fun v hv => ?_, h.mo, ?_⟩
  · rcases List.mem_append.1 hv with hv | hv
    · exact h.few.up v hv
    · rw [List.mem_singleton.1 hv]; exact Nat.zero_le _
  · show ((s.vs ++ [_]).length : Int) ≤ most
    rw [List.length_append]
    simp only [List.length_cons, List.length_nil]
    omega
theorem KeepOk.set (h : KeepOk i bs bp most H s Hk) (n : Int) {p : Nat} (hp : p ≤ i + 1) (hst : HasSt (s.pins n p) ((bp, .cells (pinsL (setPins n p s.vs))) :: H) Hk') : KeepOk (i + 1) bs bp most H (s.pins n p) Hk' :=
  ⟨h.ok.pins n p, hst, h.bs, by have := h.hd; show s.head ≤ i + 1; omega, h.few.set hp n, h.mo, by show ((setPins n p s.vs).length : Int) ≤ _; rw [setPins, List.length_map]; exact h.len⟩
theorem KeepOk.sweep (h : KeepOk i bs bp most H s Hk) (hst : HasSt s.swept ((bp, .cells (pinsL s.vs)) :: H) Hk') : KeepOk (i + 1) bs bp most H s.swept Hk' := by
  have e : pinsL s.swept.vs = pinsL s.vs := pinsL_eq fun z => pinsAt_swept h.ok z
  have hlen := h.len
  have hle : s.swept.vs.length ≤ s.vs.length := List.length_filter_le _ _
  refine ⟨h.ok.swept, by rw [e]; exact hst, h.bs, by have := h.hd; show s.head ≤ i + 1; omega, fun v hv => h.few.up v (List.mem_filter.1 hv).1, h.mo, by omega⟩
theorem swept_need (hs : s.Ok) : ∀ v ∈ s.swept.vs, needN s.swept v.n = true := fun v hv => by
  have h1 := (List.mem_filter.1 hv).2
  unfold needN at h1 ⊢
  rw [pinsAt_swept hs]
  exact h1
end
/-- a part of the heap beside a store, turned -/
theorem HasSt.part {s : Sto} {p : Nat × AObj} {X H : Heap} {y : AObj} (h : HasSt s (p :: X) H) : ∃ H', Heap.At p.1 p.2 y H H' ∧ HasSt s ((p.1, y) :: X) H' := by
  have h1 : H.Perm ((p.1, p.2) :: (s.H ++ X)) := List.Perm.trans h List.perm_middle
  obtain ⟨H', h2, h3⟩ := at_perm (y := y) h1
  exact ⟨H', h2, h3.trans List.perm_middle.symm⟩
set_option maxRecDepth 100000 in
set_option maxHeartbeats 8000000 in
theorem versKeeps_con (most : Int) (calls : List Cl) : Ans Tryz.prog 4 [.i most, clsX calls] (.b true) := by
  intro H Q hq
  have fin : ∃ r H', Le (.b true) r ∧ List.Sublist H' H ∧ ∃ H2 H3 : Heap, H'.Perm H2 ∧ H3.Sublist H2 ∧ Q r H3 := ⟨_, H, Le.refl _, List.Sublist.refl _, H, H, List.Perm.refl _, List.Sublist.refl _, hq⟩
  have hcl := cls_len calls
  refine Con.loose ?_
  refine con_of_sem tab_ok Tryz.func4 rfl (ent Tryz.func4 (by kernel_rfl) rfl) (by kernel_rfl) ?_
  intro hw hn
  clear hw hn
  refine sem_seq (esc := fun _ => false) tab_ok mixed ?_
  refine sem_seq (esc := fun _ => false) tab_ok mixed ?_
  refine ⟨_, LeL.refl _, alive22_con _ _ ?_⟩
  intro hz1 hz2; clear hz1 hz2
  refine sem_seq (esc := fun _ => false) tab_ok mixed ?_
  refine ifB_dec (fun g1 => ?_) (fun g1 => ?_)
  · exact fin
  · refine ifB_dec (fun g2 => ?_) (fun g2 => ?_)
    · exact fin
    · refine ifB_dec (fun g3 => ?_) (fun g3 => ?_)
      · exact fin
      · have hlen : calls.length ≤ 80 := by omega
        have hm1 : 1 ≤ most := by omega
        have hm2 : most ≤ 64 := by omega
        clear g1 g2 g3 fin
        refine sem_le ⟨[(0, .g (.i most)), (1, .g (clsX calls)), (4, .g (.b false))], [], H⟩ ?_ ?_
        · exact ⟨⟨Le.refl _, Le.refl _, Le.refl _, trivial⟩, trivial, List.Sublist.refl _⟩
        refine sem_seq (esc := fun _ => false) tab_ok mixed ?_
        refine ⟨[.i ((0 : Nat) : Int)], LeL.refl _, numbered_con 0 (by omega) _ _ ?_⟩
        intro hz1 hz2; clear hz1 hz2
        refine ⟨_, LeL.refl _, verNew_con (tN 0) (lN 0) most 1048576 (fun h => absurd h (by omega)) fun _ _ _ _ bs bm b H0 hs0 => ?_⟩
        intro hz1 hz2; clear hz1 hz2
        refine sem_seq (esc := fun _ => false) tab_ok mixed ?_
        refine sem_seq (esc := fun _ => false) tab_ok mixed ?_
        refine ⟨100, 100, rfl, rfl, Nat.le_refl _, rfl, by decide, rfl, by decide, fun bp hbp => ?_⟩
        have hs1 : HasSt (newS bs bm b most 1048576 (tN 0) (lN 0)) ((bp, .cells (pinsL (newS bs bm b most 1048576 (tN 0) (lN 0)).vs)) :: H) ((bp, .cells ((List.replicate 100 (lit (.int .i64 0)).cells).flatten)) :: H0) := by
          rw [pinsL_zero (vs0 := newS bs bm b most 1048576 (tN 0) (lN 0)) (fun v hv => by rw [List.mem_singleton.1 hv]; exact Nat.le_refl _) rfl]
          exact hs0.cons _
        obtain ⟨H1, hH1⟩ : ∃ H1 : Heap, H1 = (bp, AObj.cells ((List.replicate 100 (lit (.int .i64 0)).cells).flatten)) :: H0 := ⟨_, rfl⟩
        rw [← hH1] at hs1
        refine sem_le ⟨[(0, .g (.i most)), (1, .g (clsX calls)), (4, .g (.b false)), (5, .g (.ptr bs 0)), (7, .g (hs bp 100 100))], [], H1⟩ ?_ ?_
        · exact ⟨⟨Le.refl _, Le.refl _, Le.refl _, Le.refl _, Le.refl _, trivial⟩, trivial, by subst hH1; exact List.Sublist.refl _⟩
        clear hH1
        have hN0 : KeepOk 0 bs bp most H (newS bs bm b most 1048576 (tN 0) (lN 0)) H1 := ⟨newS_ok _ _ _ _ _ _ _, hs1, rfl, Nat.le_refl _, fun v hv => by rw [List.mem_singleton.1 hv]; exact Nat.le_refl _, rfl, by show ((1 : Nat) : Int) ≤ most; omega⟩
        refine sem_thenJ (fun H' : Heap => ⟨[], [], H'⟩) (fun H' => ∃ H2, H'.Perm (H2 ++ H)) ?_ ?_
        · refine sem_seq (esc := fun _ => false) tab_ok mixed ?_
          refine sem_block ?_
          refine sem_loop (fun x : Nat × Sto × Heap => ⟨[(0, .g (.i most)), (1, .g (clsX calls)), (4, .g (.b false)), (5, .g (.ptr bs 0)), (7, .g (hs bp 100 100)), (8, .g (.i x.1))], [], x.2.2⟩) (fun x => x.1 ≤ calls.length ∧ KeepOk x.1 bs bp most H x.2.1 x.2.2) (fun x => calls.length - x.1) ⟨(0, _, H1), ⟨Nat.zero_le _, hN0⟩, ?_⟩ ?_
          · exact ⟨⟨Le.refl _, Le.refl _, Le.refl _, Le.refl _, Le.refl _, Le.refl _, trivial⟩, trivial, List.Sublist.refl _⟩
          · rintro ⟨i, s, Hk⟩ ⟨hi, hN⟩
            simp only at hi hN
            have hle : Le (.ptr bs 0) (.ptr s.bs 0) := le_of_eq (by rw [hN.bs])
            have hhd := hN.hd
            have hle0 : ∀ {v : Vn}, v ∈ s.vs → v.n ≤ s.head := fun hv => hN.ok.le hv
            refine sem_seq (esc := fun _ => false) tab_ok mixed ?_
            refine ifB_dec (fun h1 => ?_) (fun h1 => ?_)
            · have hlt : i < calls.length := by omega
              have hfew := hN.few.at calls[i].n
              refine sem_then ?_
              refine sem_block ?_
              refine sem_seq (esc := fun _ => false) tab_ok mixed ?_
              refine ⟨i, rfl, _, clAt hlt, ?_⟩
              refine sem_seq (esc := fun _ => false) tab_ok mixed ?_
              refine sem_join (esc := fun _ => false) tab_ok mixed (fun y : Sto × Bool × Heap => ⟨[(0, .g (.i most)), (1, .g (clsX calls)), (4, .g (.b false)), (5, .g (.ptr bs 0)), (7, .g (hs bp 100 100)), (8, .g (.i i)), (10, .g (.b y.2.1))], [], y.2.2⟩) (fun y => KeepOk (i + 1) bs bp most H y.1 y.2.2 ∧ (y.2.1 = true → ∀ v ∈ y.1.vs, needN y.1 v.n = true)) ?_ ?_
              · refine ifB_dec (fun c0 => ?_) (fun c0 => ?_)
                · refine ⟨[.i ((1 : Nat) : Int)], LeL.refl _, numbered_con 1 (by omega) _ _ ?_⟩
                  intro hz1 hz2; clear hz1 hz2
                  refine ⟨[.ptr s.bs 0, envX (tN 1) (lN 1)], ⟨hle, Le.refl _, trivial⟩, verPush_con hN.st hN.ok (tN 1) (lN 1) (fun hr => ?_) fun hr b1 H1 hs1 => ?_⟩
                  · intro hz1 hz2; clear hz1 hz2
                    refine ⟨(s, false, Hk), ⟨hN.up, nofun⟩, ?_⟩
                    exact ⟨⟨Le.refl _, Le.refl _, Le.refl _, Le.refl _, Le.refl _, Le.refl _, Le.refl _, trivial⟩, trivial, List.Sublist.refl _⟩
                  · intro hz1 hz2; clear hz1 hz2
                    refine ⟨(s.more b1 (tN 1) (lN 1), false, H1), ⟨hN.push (by omega) hm2 hr hs1, nofun⟩, ?_⟩
                    exact ⟨⟨Le.refl _, Le.refl _, Le.refl _, Le.refl _, Le.refl _, Le.refl _, Le.refl _, trivial⟩, trivial, List.Sublist.refl _⟩
                · refine ifB_dec (fun c1 => ?_) (fun c1 => ?_)
                  · refine ⟨[.ptr s.bs 0, .i calls[i].n], ⟨hle, Le.refl _, trivial⟩, verPin_con hN.st hN.ok calls[i].n (by omega) (fun _ => ?_) fun hv H1 hs1 => ?_⟩
                    · intro hz1 hz2; clear hz1 hz2
                      refine ⟨(s, false, Hk), ⟨hN.up, nofun⟩, ?_⟩
                      exact ⟨⟨Le.refl _, Le.refl _, Le.refl _, Le.refl _, Le.refl _, Le.refl _, Le.refl _, trivial⟩, trivial, List.Sublist.refl _⟩
                    · intro hz1 hz2; clear hz1 hz2
                      obtain ⟨k, hk, hkn⟩ : ∃ k : Nat, k ≤ s.head ∧ calls[i].n = (k : Int) := by
                        cases hva : vAt s.vs calls[i].n with
                        | none => exact absurd hva hv
                        | some v => obtain ⟨k1, k2⟩ := vAt_some hva; exact ⟨v.n, hle0 k1, k2⟩
                      have hk1 : k < 100 := by omega
                      rw [hkn] at hs1 hv hfew
                      obtain ⟨r, hr⟩ := pinsL_cell s.vs hk1
                      obtain ⟨H2, hat, hs2⟩ := hs1.part (y := .cells (putCells (pinsL s.vs) (0 + k * 1) [.i ((pinsAt s.vs (k : Nat) : Nat) + 1)]))
                      rw [pinsL_put s.vs hk1 (pinsAt s.vs (k : Nat) + 1) hv (by omega)] at hs2
                      refine ifB_t (show (0 : Int) ≤ calls[i].n by omega) ?_
                      refine ifB_t (show calls[i].n < 100 by omega) ?_
                      refine ⟨k, hkn, hk1, ?_⟩
                      refine ⟨_, hat.mem, run_cells hr ?_⟩
                      refine ⟨in64_of (by first | omega | (dsimp only; omega)) (by first | omega | (dsimp only; omega)), ?_⟩
                      refine ⟨k, hkn, hk1, ?_⟩
                      refine ⟨_, H2, hat, (by rw [pinsL_len]; show 0 + k * 1 + 1 ≤ 100; omega), ?_⟩
                      refine ⟨(s.pins (k : Nat) (pinsAt s.vs (k : Nat) + 1), false, H2), ⟨hN.set _ (by omega) hs2, nofun⟩, ?_⟩
                      exact ⟨⟨Le.refl _, Le.refl _, Le.refl _, Le.refl _, Le.refl _, Le.refl _, Le.refl _, trivial⟩, trivial, List.Sublist.refl _⟩
                  · refine ifB_dec (fun c2 => ?_) (fun c2 => ?_)
                    · refine ⟨[.ptr s.bs 0, .i calls[i].n], ⟨hle, Le.refl _, trivial⟩, verUnpin_con hN.st hN.ok calls[i].n (by omega) (fun _ => ?_) fun hv0 H1 hs1 => ?_⟩
                      · intro hz1 hz2; clear hz1 hz2
                        refine ⟨(s, false, Hk), ⟨hN.up, nofun⟩, ?_⟩
                        exact ⟨⟨Le.refl _, Le.refl _, Le.refl _, Le.refl _, Le.refl _, Le.refl _, Le.refl _, trivial⟩, trivial, List.Sublist.refl _⟩
                      · intro hz1 hz2; clear hz1 hz2
                        have hv : vAt s.vs calls[i].n ≠ none := fun h => hv0 (by rw [pinsAt, h])
                        obtain ⟨k, hk, hkn⟩ : ∃ k : Nat, k ≤ s.head ∧ calls[i].n = (k : Int) := by
                          cases hva : vAt s.vs calls[i].n with
                          | none => exact absurd hva hv
                          | some v => obtain ⟨k1, k2⟩ := vAt_some hva; exact ⟨v.n, hle0 k1, k2⟩
                        have hk1 : k < 100 := by omega
                        rw [hkn] at hs1 hv hv0 hfew
                        obtain ⟨r, hr⟩ := pinsL_cell s.vs hk1
                        obtain ⟨H2, hat, hs2⟩ := hs1.part (y := .cells (putCells (pinsL s.vs) (0 + k * 1) [.i ((pinsAt s.vs (k : Nat) : Nat) - 1)]))
                        rw [pinsL_put s.vs hk1 (pinsAt s.vs (k : Nat) - 1) hv (by omega)] at hs2
                        refine ifB_t (show (0 : Int) ≤ calls[i].n by omega) ?_
                        refine ifB_t (show calls[i].n < 100 by omega) ?_
                        refine ⟨k, hkn, hk1, ?_⟩
                        refine ⟨_, hat.mem, run_cells hr ?_⟩
                        refine ⟨in64_of (by first | omega | (dsimp only; omega)) (by first | omega | (dsimp only; omega)), ?_⟩
                        refine ⟨k, hkn, hk1, ?_⟩
                        refine ⟨_, H2, hat, (by rw [pinsL_len]; show 0 + k * 1 + 1 ≤ 100; omega), ?_⟩
                        refine ⟨(s.pins (k : Nat) (pinsAt s.vs (k : Nat) - 1), false, H2), ⟨hN.set _ (by omega) hs2, nofun⟩, ?_⟩
                        exact ⟨⟨Le.refl _, Le.refl _, Le.refl _, Le.refl _, Le.refl _, Le.refl _, Le.refl _, trivial⟩, trivial, List.Sublist.refl _⟩
                    · refine ifB_dec (fun c3 => ?_) (fun c3 => ?_)
                      · refine ⟨[.ptr s.bs 0], ⟨hle, trivial⟩, verSweep_con hN.st hN.ok fun H1 hs1 => ?_⟩
                        intro hz1 hz2; clear hz1 hz2
                        refine ⟨(s.swept, true, H1), ⟨hN.sweep hs1, fun _ => swept_need hN.ok⟩, ?_⟩
                        exact ⟨⟨Le.refl _, Le.refl _, Le.refl _, Le.refl _, Le.refl _, Le.refl _, Le.refl _, trivial⟩, trivial, List.Sublist.refl _⟩
                      · refine ⟨(s, false, Hk), ⟨hN.up, nofun⟩, ?_⟩
                        exact ⟨⟨Le.refl _, Le.refl _, Le.refl _, Le.refl _, Le.refl _, Le.refl _, Le.refl _, trivial⟩, trivial, List.Sublist.refl _⟩
              · rintro ⟨s2, sw, Hk2⟩ ⟨hN2, hsw⟩
                simp only at hN2 hsw
                clear hN hle hhd hfew hle0
                have hle : Le (.ptr bs 0) (.ptr s2.bs 0) := le_of_eq (by rw [hN2.bs])
                have hhd := hN2.hd
                have hlen2 := hN2.len
                have hpos := hN2.ok.pos
                have hvm : ((vNs s2.vs).map AV.i).length = s2.vs.length := by rw [List.length_map, vNs_len]
                obtain ⟨iv, uv, ev, huv⟩ := hN2.ok.top
                have hlast : ((vNs s2.vs).map AV.i)[s2.vs.length - 1]? = some (.i (s2.head : Nat)) := by
                  rw [ev, vNs, List.map_append, List.map_append, List.length_append]
                  simp [huv]
                refine sem_seq (esc := fun _ => false) tab_ok mixed ?_
                refine ⟨[.ptr s2.bs 0], ⟨hle, trivial⟩, verLives_con hN2.st hN2.ok ?_⟩
                intro hz1 hz2; clear hz1 hz2
                refine sem_le ⟨[(0, .g (.i most)), (1, .g (clsX calls)), (4, .g (.b false)), (5, .g (.ptr bs 0)), (7, .g (hs bp 100 100)), (8, .g (.i i)), (10, .g (.b sw)), (11, .g (intsX (vNs s2.vs)))], [], Hk2⟩ ?_ ?_
                · exact ⟨⟨Le.refl _, Le.refl _, Le.refl _, Le.refl _, Le.refl _, Le.refl _, Le.refl _, Le.refl _, trivial⟩, trivial, List.Sublist.refl _⟩
                refine sem_seq (esc := fun _ => false) tab_ok mixed ?_
                refine ⟨[0, 1, 2, 3, 4, 5, 6, 7, 8, 9, 10, 11, 12, 13, 14, 15, 16, 17, 18, 19], [], by kernel_rfl, by simp, ?_⟩
                refine ifB_f (show ¬ most < ((((vNs s2.vs).map AV.i).length : Nat) : Int) by omega) ?_
                refine ifB_f (show ¬ ((((vNs s2.vs).map AV.i).length : Nat) : Int) < 1 by omega) ?_
                refine ⟨in64_of (by first | omega | (dsimp only; omega)) (by first | omega | (dsimp only; omega)), ?_⟩
                refine ⟨s2.vs.length - 1, (by omega), _, hlast, ?_⟩
                refine ⟨[.ptr s2.bs 0], ⟨hle, trivial⟩, verHead_con hN2.st ?_⟩
                intro hz1 hz2; clear hz1 hz2
                refine ifB_t rfl ?_
                refine sem_seq (esc := fun _ => false) tab_ok mixed ?_
                refine sem_seq (esc := fun _ => false) tab_ok mixed ?_
                refine ⟨Nat, fun k => ⟨[(0, .g (.i most)), (1, .g (clsX calls)), (4, .g (.b false)), (5, .g (.ptr bs 0)), (7, .g (hs bp 100 100)), (8, .g (.i i)), (10, .g (.b sw)), (11, .g (intsX (vNs s2.vs))), (12, .g (.i ((heldN s2 k).length : Nat))), (13, .g (.i k))], [], Hk2⟩, fun k => k ≤ 100, fun k => 100 - k, ⟨0, Nat.zero_le _, ?_⟩, ?_⟩
                · exact ⟨⟨Le.refl _, Le.refl _, Le.refl _, Le.refl _, Le.refl _, Le.refl _, Le.refl _, Le.refl _, Le.refl _, Le.refl _, trivial⟩, trivial, List.Sublist.refl _⟩
                · intro k hk
                  have hheld := heldN_le s2 k
                  refine ifB_dec (fun h2 => ?_) (fun h2 => ?_)
                  · have hk2 : k < 100 := by omega
                    have hsucc := heldN_succ s2 k
                    obtain ⟨r, hr⟩ := pinsL_cell s2.vs hk2
                    have hin : (bp, AObj.cells (pinsL s2.vs)) ∈ Hk2 := hN2.st.in List.mem_cons_self
                    refine ⟨[.ptr s2.bs 0, .i (k : Nat)], ⟨hle, Le.refl _, trivial⟩, verEnv_con hN2.st (k : Nat) (fun hv => ?_) fun v hv => ?_⟩
                    · have hp0 : pinsAt s2.vs (k : Nat) = 0 := by rw [pinsAt, hv]
                      rw [if_neg (by omega), List.append_nil] at hsucc
                      intro hz1 hz2; clear hz1 hz2
                      refine ⟨k, rfl, hk2, ?_⟩
                      refine ⟨_, hin, run_cells hr ?_⟩
                      refine ⟨k, rfl, hk2, ?_⟩
                      refine ⟨_, hin, run_cells hr ?_⟩
                      refine ifB_f (show ¬ 0 < ((pinsAt s2.vs (k : Nat) : Nat) : Int) by omega) ?_
                      refine ⟨k, rfl, hk2, ?_⟩
                      refine ⟨_, hin, run_cells hr ?_⟩
                      refine ifB_f (show ¬ 0 < ((pinsAt s2.vs (k : Nat) : Nat) : Int) by omega) ?_
                      refine ⟨in64_of (by first | omega | (dsimp only; omega)) (by first | omega | (dsimp only; omega)), ?_⟩
                      refine ⟨k + 1, (by omega), by (try dsimp only); omega, ?_⟩
                      exact ⟨⟨Le.refl _, Le.refl _, Le.refl _, Le.refl _, Le.refl _, Le.refl _, Le.refl _, Le.refl _, le_of_eq (by rw [hsucc]), Le.refl _, trivial⟩, trivial, List.Sublist.refl _⟩
                    · intro hz1 hz2; clear hz1 hz2
                      refine ⟨k, rfl, hk2, ?_⟩
                      refine ⟨_, hin, run_cells hr ?_⟩
                      refine ⟨k, rfl, hk2, ?_⟩
                      refine ⟨_, hin, run_cells hr ?_⟩
                      refine ifB_dec (fun p1 => ?_) (fun p1 => ?_)
                      · refine ⟨k, rfl, hk2, ?_⟩
                        refine ⟨_, hin, run_cells hr ?_⟩
                        refine ifB_t p1 ?_
                        refine ⟨[.ptr s2.bs 0], ⟨hle, trivial⟩, verHead_con hN2.st ?_⟩
                        intro hz1 hz2; clear hz1 hz2
                        refine ifB_dec (fun p2 => ?_) (fun p2 => ?_)
                        · rw [if_neg (by omega), List.append_nil] at hsucc
                          refine ⟨in64_of (by first | omega | (dsimp only; omega)) (by first | omega | (dsimp only; omega)), ?_⟩
                          refine ⟨k + 1, (by omega), by (try dsimp only); omega, ?_⟩
                          exact ⟨⟨Le.refl _, Le.refl _, Le.refl _, Le.refl _, Le.refl _, Le.refl _, Le.refl _, Le.refl _, le_of_eq (by rw [hsucc]), Le.refl _, trivial⟩, trivial, List.Sublist.refl _⟩
                        · rw [if_pos ⟨by omega, by omega⟩] at hsucc
                          have hs1 : ((heldN s2 (k + 1)).length : Int) = ((heldN s2 k).length : Int) + 1 := by rw [hsucc, List.length_append]; rfl
                          refine ⟨in64_of (by first | omega | (dsimp only; omega)) (by first | omega | (dsimp only; omega)), ?_⟩
                          refine ⟨in64_of (by first | omega | (dsimp only; omega)) (by first | omega | (dsimp only; omega)), ?_⟩
                          refine ⟨k + 1, (by omega), by (try dsimp only); omega, ?_⟩
                          exact ⟨⟨Le.refl _, Le.refl _, Le.refl _, Le.refl _, Le.refl _, Le.refl _, Le.refl _, Le.refl _, le_of_eq (by rw [hs1]; rfl), Le.refl _, trivial⟩, trivial, List.Sublist.refl _⟩
                      · rw [if_neg (by omega), List.append_nil] at hsucc
                        refine ⟨k, rfl, hk2, ?_⟩
                        refine ⟨_, hin, run_cells hr ?_⟩
                        refine ifB_f p1 ?_
                        refine ⟨in64_of (by first | omega | (dsimp only; omega)) (by first | omega | (dsimp only; omega)), ?_⟩
                        refine ⟨k + 1, (by omega), by (try dsimp only); omega, ?_⟩
                        exact ⟨⟨Le.refl _, Le.refl _, Le.refl _, Le.refl _, Le.refl _, Le.refl _, Le.refl _, Le.refl _, le_of_eq (by rw [hsucc]), Le.refl _, trivial⟩, trivial, List.Sublist.refl _⟩
                  · have hke : k = 100 := by omega
                    subst hke
                    refine sem_le ⟨[(0, .g (.i most)), (1, .g (clsX calls)), (4, .g (.b false)), (5, .g (.ptr bs 0)), (7, .g (hs bp 100 100)), (8, .g (.i i)), (10, .g (.b sw)), (11, .g (intsX (vNs s2.vs))), (12, .g (.i ((heldN s2 100).length : Nat)))], [], Hk2⟩ ?_ ?_
                    · exact ⟨⟨Le.refl _, Le.refl _, Le.refl _, Le.refl _, Le.refl _, Le.refl _, Le.refl _, Le.refl _, Le.refl _, trivial⟩, trivial, List.Sublist.refl _⟩
                    refine sem_of (esc := fun _ => false) tab_ok mixed ?_
                    cases sw with
                    | true =>
                      have hall := held_all hN2.ok (by omega) (hsw rfl)
                      refine ⟨in64_of (by first | omega | (dsimp only; omega)) (by first | omega | (dsimp only; omega)), ?_⟩
                      refine ifB_t (show ((((vNs s2.vs).map AV.i).length : Nat) : Int) = ((heldN s2 100).length : Int) + 1 by omega) ?_
                      refine sem_of (esc := fun _ => false) tab_ok mixed ?_
                      refine ⟨in64_of (by first | omega | (dsimp only; omega)) (by first | omega | (dsimp only; omega)), ?_⟩
                      refine ⟨(i + 1, s2, Hk2), ⟨by simp only; omega, hN2⟩, by (try dsimp only); omega, ?_⟩
                      exact ⟨⟨Le.refl _, Le.refl _, Le.refl _, Le.refl _, Le.refl _, Le.refl _, trivial⟩, trivial, List.Sublist.refl _⟩
                    | false =>
                      refine sem_of (esc := fun _ => false) tab_ok mixed ?_
                      refine ⟨in64_of (by first | omega | (dsimp only; omega)) (by first | omega | (dsimp only; omega)), ?_⟩
                      refine ⟨(i + 1, s2, Hk2), ⟨by simp only; omega, hN2⟩, by (try dsimp only); omega, ?_⟩
                      exact ⟨⟨Le.refl _, Le.refl _, Le.refl _, Le.refl _, Le.refl _, Le.refl _, trivial⟩, trivial, List.Sublist.refl _⟩
            · refine ⟨Hk, ?_, ?_⟩
              · exact ⟨s.H ++ [(bp, .cells (pinsL s.vs))], by rw [List.append_assoc]; exact hN.st⟩
              · exact ⟨trivial, trivial, List.Sublist.refl _⟩
        · rintro H' ⟨H2, hp⟩
          refine sem_of (esc := fun _ => false) tab_ok mixed ?_
          exact ⟨_, H', Le.refl _, List.Sublist.refl _, H2 ++ H, H, hp, List.sublist_append_right _ _, hq⟩
end Go.Proofs.YtaldgcnhmnfocaaGreatDoor

/-
  The reference's stores of versions. No condition.
-/
namespace Go.Proofs.YtaldgcnhmnfocaaGreatDoor
open Go.RowKit

def rowA (v : Vn) : AV := .agg [.i (v.n : Nat), .i (v.pins : Nat)]
/-- a store of rows -/
structure Rf where
  rb : Nat
  b : Nat
  cap : Nat
  n : Nat
  most : Int
  last : Int
  cs : List AV
def Rf.O (r : Rf) : Heap := [(r.rb, .cells [.i r.most, .i r.last, hs r.b r.n r.cap]), (r.b, .cells r.cs)]
/-- it tells of versions -/
structure RfOk (s : Sto) (r : Rf) : Prop where
  most : r.most = s.most
  last : r.last = s.last
  n : r.n = s.vs.length
  turn : TurnOk 2 s.vs.length (s.vs.map rowA) [] r.b r.cap r.cs
def HasR (r : Rf) (X H : Heap) : Prop := H.Perm (r.O ++ X)
theorem wide_rows (vs : List Vn) : wide 2 (vs.map rowA) := ⟨fun h => (by cases h), fun y hy => by
  obtain ⟨t, _, rfl⟩ := List.mem_map.1 hy
  rfl⟩
theorem rows_len (vs : List Vn) : ((vs.map rowA).flatMap AV.cells).length = vs.length * 2 := by
  rw [flat_len (wide_rows vs), List.length_map]
section
variable {s : Sto} {r : Rf} {X H : Heap}
theorem HasR.st (h : HasR r X H) : (r.rb, AObj.cells [.i r.most, .i r.last, hs r.b r.n r.cap]) ∈ H := h.mem_iff.2 List.mem_cons_self
theorem HasR.row (h : HasR r X H) : (r.b, AObj.cells r.cs) ∈ H := h.mem_iff.2 (List.mem_cons_of_mem _ List.mem_cons_self)
theorem RfOk.at (h : RfOk s r) {k : Nat} (hk : k < s.vs.length) : ∃ rest, r.cs.drop (0 + k * 2) = .i (s.vs[k].n : Nat) :: .i (s.vs[k].pins : Nat) :: rest := by
  have hh := h.turn.here
  have hl := rows_len s.vs
  have hsz : s.vs.length * 2 ≤ r.cs.length := by
    have := congrArg List.length hh
    rw [List.length_take, hl] at this
    omega
  have e : r.cs = (s.vs.map rowA).flatMap AV.cells ++ r.cs.drop (s.vs.length * 2) := by rw [← hh, List.take_append_drop]
  have key : ∀ (vs : List Vn) (k : Nat) (hk : k < vs.length) (R : List AV), ((vs.map rowA).flatMap AV.cells ++ R).drop (k * 2) = .i (vs[k].n : Nat) :: .i (vs[k].pins : Nat) :: ((vs.drop (k + 1)).map rowA).flatMap AV.cells ++ R := by
    intro vs
    induction vs with
    | nil => intro k hk; simp at hk
    | cons v vs ih =>
      intro k hk R
      cases k with
      | zero => rfl
      | succ k =>
        have := ih k (by simpa using hk) R
        rw [show (k + 1) * 2 = k * 2 + 2 by omega]
        show (AV.i (v.n : Nat) :: AV.i (v.pins : Nat) :: ((vs.map rowA).flatMap AV.cells ++ R)).drop (k * 2 + 2) = _
        rw [show k * 2 + 2 = (k * 2 + 1) + 1 by omega, List.drop_succ_cons, List.drop_succ_cons, this]
        rfl
  refine ⟨((s.vs.drop (k + 1)).map rowA).flatMap AV.cells ++ r.cs.drop (s.vs.length * 2), ?_⟩
  rw [Nat.zero_add]
  conv => lhs; rw [e]
  exact key s.vs k hk _
theorem RfOk.at0 (h : RfOk s r) {k : Nat} (hk : k < s.vs.length) : ∃ rest, r.cs.drop (0 + k * 2 + 0) = .i (s.vs[k].n : Nat) :: rest := by
  obtain ⟨R, e⟩ := h.at hk
  exact ⟨_, e⟩
theorem RfOk.at1 (h : RfOk s r) {k : Nat} (hk : k < s.vs.length) : ∃ rest, r.cs.drop (0 + k * 2 + 1) = .i (s.vs[k].pins : Nat) :: rest := by
  obtain ⟨R, e⟩ := h.at hk
  refine ⟨R, ?_⟩
  rw [← List.drop_drop, e]
  rfl
theorem RfOk.pos (h : RfOk s r) (ho : s.Ok) : 0 < r.n := by rw [h.n]; exact ho.pos
theorem last_n (ho : s.Ok) (hk : s.vs.length - 1 < s.vs.length) : s.vs[s.vs.length - 1].n = s.head := by
  obtain ⟨i, u, e, hu⟩ := ho.top
  have : s.vs[s.vs.length - 1]? = some u := by rw [e]; simp
  rw [List.getElem?_eq_getElem hk] at this
  rw [Option.some.inj this]; exact hu
theorem pin2 {p q : Nat × AObj} {H : Heap} (h : p ∈ H) (k : q ∈ H) : ∀ x ∈ [p, q], x ∈ H := fun x hx => by
  rcases List.mem_cons.1 hx with rfl | hx
  · exact h
  · rw [List.mem_singleton.1 hx]; exact k
set_option maxRecDepth 100000 in
theorem rHead_con (h : HasR r X H) (hr : RfOk s r) (ho : s.Ok) {Q : AV → Heap → Prop} (hq : Q (.i (s.head : Nat)) H) : Con Tryz.prog 16 [.ptr r.rb 0] H Q := by
  have hpos := hr.pos ho
  have hl := ho.len
  have hn := hr.n
  have hk : s.vs.length - 1 < s.vs.length := by omega
  obtain ⟨R, hR⟩ := hr.at0 hk
  rw [last_n ho hk] at hR
  refine con_of_awp (esc := fun _ => false) tab_ok mixed Tryz.func16 rfl (ent Tryz.func16 (by kernel_rfl) rfl) (by kernel_rfl) ?_
  intro hw hnd
  clear hw hnd
  refine ⟨[0, 1, 2, 3, 4, 5, 6, 7, 8, 9, 10, 11, 12, 13], [(r.rb, AObj.cells [.i r.most, .i r.last, hs r.b r.n r.cap]), (r.b, AObj.cells r.cs)], by kernel_rfl, pin2 h.st h.row, ?_⟩
  refine ⟨_, .head _, ?_⟩
  refine ⟨_, .head _, ?_⟩
  refine ⟨in64_of (by first | omega | (dsimp only; omega)) (by first | omega | (dsimp only; omega)), ?_⟩
  refine ⟨s.vs.length - 1, (by omega), (by omega), ?_⟩
  refine ⟨_, .tail _ (.head _), run_cells hR ?_⟩
  exact ⟨_, H, Le.refl _, List.Sublist.refl _, hq⟩
set_option maxRecDepth 100000 in
set_option maxHeartbeats 1000000 in
theorem rAt_con (h : HasR r X H) (hr : RfOk s r) (ho : s.Ok) (z : Int) {Q : AV → Heap → Prop} (h0 : vAt s.vs z = none → Q (.i (-1)) H) (h1 : ∀ (k : Nat) (hk : k < s.vs.length), z = (s.vs[k].n : Int) → Q (.i k) H) : Con Tryz.prog 56 [.ptr r.rb 0, .i z] H Q := by
  have hl := ho.len
  have hn := hr.n
  refine con_of_awp (esc := fun _ => false) tab_ok mixed Tryz.func56 rfl (ent Tryz.func56 (by kernel_rfl) rfl) (by kernel_rfl) ?_
  intro hw hnd
  clear hw hnd
  refine ⟨Nat, fun k => ⟨[(0, .g (.ptr r.rb 0)), (1, .g (.i z)), (4, .g (.i 0)), (5, .g (.i k))], [], H⟩, fun k => k ≤ s.vs.length ∧ ∀ (j : Nat) (hj : j < s.vs.length), j < k → z ≠ (s.vs[j].n : Int), fun k => s.vs.length - k, ⟨0, ⟨Nat.zero_le _, fun j _ h => by omega⟩, ?_⟩, ?_⟩
  · exact ⟨⟨Le.refl _, Le.refl _, Le.refl _, Le.refl _, trivial⟩, trivial, List.Sublist.refl _⟩
  · rintro k ⟨hk, hno⟩
    refine ⟨_, h.st, ?_⟩
    refine ifB_dec (fun g1 => ?_) (fun g1 => ?_)
    · have hlt : k < s.vs.length := by omega
      obtain ⟨R, hR⟩ := hr.at0 hlt
      refine ⟨_, h.st, ?_⟩
      refine ⟨k, rfl, (by omega), ?_⟩
      refine ⟨_, h.row, run_cells hR ?_⟩
      refine ifB_dec (fun g2 => ?_) (fun g2 => ?_)
      · exact ⟨_, H, Le.refl _, List.Sublist.refl _, h1 k hlt (by omega)⟩
      · refine ⟨in64_of (by first | omega | (dsimp only; omega)) (by first | omega | (dsimp only; omega)), ?_⟩
        refine ⟨k + 1, ⟨by omega, fun j hj hjk => ?_⟩, by (try dsimp only); omega, ?_⟩
        · by_cases e : j = k
          · subst e; omega
          · exact hno j hj (by omega)
        · exact ⟨⟨Le.refl _, Le.refl _, Le.refl _, Le.refl _, trivial⟩, trivial, List.Sublist.refl _⟩
    · have hke : k = s.vs.length := by omega
      subst hke
      refine ⟨_, H, Le.refl _, List.Sublist.refl _, h0 (vAt_new fun v hv => ?_)⟩
      obtain ⟨j, hj, rfl⟩ := List.getElem_of_mem hv
      exact hno j hj hj
theorem vAt_idx (ho : s.Ok) {k : Nat} (hk : k < s.vs.length) : vAt s.vs (s.vs[k].n : Int) = some s.vs[k] := vAt_in ho.vs (List.getElem_mem hk)
set_option maxRecDepth 100000 in
theorem rHas_con (h : HasR r X H) (hr : RfOk s r) (ho : s.Ok) (z : Int) {Q : AV → Heap → Prop} (hq : Q (.b (vAt s.vs z).isSome) H) : Con Tryz.prog 33 [.ptr r.rb 0, .i z] H Q := by
  refine con_of_awp (esc := fun _ => false) tab_ok mixed Tryz.func33 rfl (ent Tryz.func33 (by kernel_rfl) rfl) (by kernel_rfl) ?_
  intro hw hnd
  clear hw hnd
  refine ⟨_, LeL.refl _, rAt_con h hr ho z (fun hv => ?_) fun k hk e => ?_⟩
  · rw [hv] at hq
    intro hz1 hz2; clear hz1 hz2
    exact ⟨_, H, Le.refl _, List.Sublist.refl _, hq⟩
  · subst e
    rw [vAt_idx ho hk] at hq
    intro hz1 hz2; clear hz1 hz2
    exact ⟨_, H, Le.refl _, List.Sublist.refl _, hq⟩
set_option maxRecDepth 100000 in
theorem rPins_con (h : HasR r X H) (hr : RfOk s r) (ho : s.Ok) (z : Int) {Q : AV → Heap → Prop} (hq : Q (.i (pinsAt s.vs z : Nat)) H) : Con Tryz.prog 31 [.ptr r.rb 0, .i z] H Q := by
  have hn := hr.n
  refine con_of_awp (esc := fun _ => false) tab_ok mixed Tryz.func31 rfl (ent Tryz.func31 (by kernel_rfl) rfl) (by kernel_rfl) ?_
  intro hw hnd
  clear hw hnd
  refine ⟨_, LeL.refl _, rAt_con h hr ho z (fun hv => ?_) fun k hk e => ?_⟩
  · rw [pinsAt, hv] at hq
    intro hz1 hz2; clear hz1 hz2
    exact ⟨_, H, Le.refl _, List.Sublist.refl _, hq⟩
  · subst e
    rw [pinsAt, vAt_idx ho hk] at hq
    obtain ⟨R, hR⟩ := hr.at1 hk
    intro hz1 hz2; clear hz1 hz2
    refine ⟨_, h.st, ?_⟩
    refine ⟨k, rfl, (by omega), ?_⟩
    refine ⟨_, h.row, run_cells hR ?_⟩
    exact ⟨_, H, Le.refl _, List.Sublist.refl _, hq⟩
/-- the row of one version turned -/
theorem RfOk.put (h : RfOk s r) (ho : s.Ok) {k : Nat} (hk : k < s.vs.length) (p : Nat) {q : Int} (hq : q = (p : Int)) : RfOk (s.pins (s.vs[k].n : Int) p) { r with cs := putCells r.cs (0 + k * 2 + 1) [.i q] } := by
  subst hq
  have hh := h.turn.here
  have hl := rows_len s.vs
  have hsz : s.vs.length * 2 ≤ r.cs.length := by
    have := congrArg List.length hh
    rw [List.length_take, hl] at this
    omega
  have hvs : s.vs = s.vs.take k ++ s.vs[k] :: s.vs.drop (k + 1) := by rw [List.getElem_cons_drop, List.take_append_drop]
  have hset : (s.pins (s.vs[k].n : Int) p).vs = s.vs.take k ++ { s.vs[k] with pins := p } :: s.vs.drop (k + 1) := by
    show setPins _ _ s.vs = _
    have h2 := setPins_mid (clk := s.clk) (a := s.vs.take k) (b := s.vs.drop (k + 1)) (v := s.vs[k]) (by rw [← hvs]; exact ho.vs) p
    rw [← hvs] at h2
    exact h2
  have hlen : (s.pins (s.vs[k].n : Int) p).vs.length = s.vs.length := by show (setPins _ _ s.vs).length = _; rw [setPins, List.length_map]
  have hpl : (putCells r.cs (0 + k * 2 + 1) [.i (p : Int)]).length = r.cs.length := by
    unfold putCells
    simp only [List.length_append, List.length_take, List.length_drop, List.length_singleton]
    omega
  refine ⟨h.most, h.last, by rw [hlen]; exact h.n, ?_⟩
  refine ⟨by rw [List.length_map], nofun, by rw [hlen]; exact h.turn.le, h.turn.max, by show _ ≤ (putCells _ _ _).length; rw [hpl]; exact h.turn.room, ?_⟩
  rw [hlen, hset]
  show (putCells r.cs (0 + k * 2 + 1) [.i (p : Int)]).take _ = _
  have e : r.cs = (s.vs.map rowA).flatMap AV.cells ++ r.cs.drop (s.vs.length * 2) := by rw [← hh, List.take_append_drop]
  have e1 : (s.vs.map rowA).flatMap AV.cells = ((s.vs.take k).map rowA).flatMap AV.cells ++ (.i (s.vs[k].n : Nat) :: .i (s.vs[k].pins : Nat) :: ((s.vs.drop (k + 1)).map rowA).flatMap AV.cells) := by
    conv => lhs; rw [hvs]
    rw [List.map_append, List.flatMap_append]
    rfl
  have hA : (((s.vs.take k).map rowA).flatMap AV.cells).length = k * 2 := by rw [rows_len, List.length_take, Nat.min_eq_left (by omega)]
  rw [List.map_append, List.flatMap_append]
  generalize ((s.vs.take k).map rowA).flatMap AV.cells = A at e1 hA ⊢
  generalize hB : ((s.vs.drop (k + 1)).map rowA).flatMap AV.cells = B at e1
  generalize hC : r.cs.drop (s.vs.length * 2) = C at e
  have e2 : ((({ s.vs[k] with pins := p } : Vn) :: s.vs.drop (k + 1)).map rowA).flatMap AV.cells = .i (s.vs[k].n : Nat) :: .i (p : Int) :: B := by rw [← hB]; rfl
  have e3 : putCells r.cs (0 + k * 2 + 1) [.i (p : Int)] = A ++ (.i (s.vs[k].n : Nat) :: .i (p : Int) :: B) ++ C := by
    rw [e, e1]
    unfold putCells
    have g1 : (A ++ (AV.i (s.vs[k].n : Nat) :: .i (s.vs[k].pins : Nat) :: B) ++ C) = (A ++ [AV.i (s.vs[k].n : Nat)]) ++ (.i (s.vs[k].pins : Nat) :: (B ++ C)) := by simp
    have g2 : (A ++ [AV.i (s.vs[k].n : Nat)]).length = 0 + k * 2 + 1 := by rw [List.length_append, hA]; simp
    rw [g1, ← g2, List.take_left', List.length_singleton]
    · rw [← List.drop_drop, List.drop_left']
      · simp
      · rfl
    · rfl
  have hABlen : (A ++ (AV.i (s.vs[k].n : Nat) :: .i (p : Int) :: B)).length = s.vs.length * 2 := by
    rw [e1] at hl
    simp only [List.length_append, List.length_cons] at hl ⊢
    omega
  have hmn : (s.pins (s.vs[k].n : Int) p).vs.length = s.vs.length := hlen
  rw [e3, List.take_left' hABlen, e2]
/-- an object at a place of the heap, turned -/
theorem HasR.turn {cs' : List AV} (h : HasR r X H) : ∃ H', Heap.At r.b (.cells r.cs) (.cells cs') H H' ∧ HasR { r with cs := cs' } X H' := by
  have h1 : H.Perm ((r.b, .cells r.cs) :: (r.rb, .cells [.i r.most, .i r.last, hs r.b r.n r.cap]) :: X) := List.Perm.trans h (List.Perm.swap _ _ _)
  obtain ⟨H', h2, h3⟩ := at_perm (y := .cells cs') h1
  exact ⟨H', h2, h3.trans (List.Perm.swap _ _ _)⟩
set_option maxRecDepth 100000 in
theorem rPin_con (h : HasR r X H) (hr : RfOk s r) (ho : s.Ok) (z : Int) (hp : pinsAt s.vs z ≤ 1000000) {Q : AV → Heap → Prop} (h0 : vAt s.vs z = none → Q (.i 13) H)
    (h1 : vAt s.vs z ≠ none → ∀ r' H', r'.rb = r.rb → RfOk (s.pins z (pinsAt s.vs z + 1)) r' → HasR r' X H' → Q (.i 0) H') : Con Tryz.prog 19 [.ptr r.rb 0, .i z] H Q := by
  have hn := hr.n
  have hl := ho.len
  refine con_of_awp (esc := fun _ => false) tab_ok mixed Tryz.func19 rfl (ent Tryz.func19 (by kernel_rfl) rfl) (by kernel_rfl) ?_
  intro hw hnd
  clear hw hnd
  refine ⟨_, LeL.refl _, rAt_con h hr ho z (fun hv => ?_) fun k hk e => ?_⟩
  · intro hz1 hz2; clear hz1 hz2
    exact ⟨_, H, Le.refl _, List.Sublist.refl _, h0 hv⟩
  · subst e
    have hpn : pinsAt s.vs (s.vs[k].n : Int) = s.vs[k].pins := pinsAt_in ho.vs (List.getElem_mem hk)
    rw [hpn] at h1 hp
    obtain ⟨R, hR⟩ := hr.at1 hk
    obtain ⟨H', hat, hs'⟩ := h.turn (cs' := putCells r.cs (0 + k * 2 + 1) [.i ((s.vs[k].pins : Nat) + 1)])
    have hrl : r.n * 2 ≤ r.cs.length := by
      have h1 := hr.turn.room
      have h2 := hr.turn.le
      have : r.n * 2 ≤ r.cap * 2 := by omega
      omega
    have hq := h1 (by rw [vAt_idx ho hk]; simp) { r with cs := putCells r.cs (0 + k * 2 + 1) [.i ((s.vs[k].pins : Nat) + 1)] } H' rfl (hr.put ho hk (s.vs[k].pins + 1) (by omega)) hs'
    intro hz1 hz2; clear hz1 hz2
    refine ⟨_, h.st, ?_⟩
    refine ⟨k, rfl, (by omega), ?_⟩
    refine ⟨_, h.row, run_cells hR ?_⟩
    refine ⟨in64_of (by first | omega | (dsimp only; omega)) (by first | omega | (dsimp only; omega)), ?_⟩
    refine ⟨k, rfl, (by omega), ?_⟩
    refine ⟨_, H', hat, (by show 0 + k * 2 + 1 + 1 ≤ _; omega), ?_⟩
    exact ⟨_, H', Le.refl _, List.Sublist.refl _, hq⟩
set_option maxRecDepth 100000 in
theorem rUnpin_con (h : HasR r X H) (hr : RfOk s r) (ho : s.Ok) (z : Int) (hp : pinsAt s.vs z ≤ 1000000) {Q : AV → Heap → Prop} (h0 : pinsAt s.vs z = 0 → Q (.i 13) H)
    (h1 : pinsAt s.vs z ≠ 0 → ∀ r' H', r'.rb = r.rb → RfOk (s.pins z (pinsAt s.vs z - 1)) r' → HasR r' X H' → Q (.i 0) H') : Con Tryz.prog 21 [.ptr r.rb 0, .i z] H Q := by
  have hn := hr.n
  have hl := ho.len
  refine con_of_awp (esc := fun _ => false) tab_ok mixed Tryz.func21 rfl (ent Tryz.func21 (by kernel_rfl) rfl) (by kernel_rfl) ?_
  intro hw hnd
  clear hw hnd
  refine ⟨_, LeL.refl _, rAt_con h hr ho z (fun hv => ?_) fun k hk e => ?_⟩
  · intro hz1 hz2; clear hz1 hz2
    exact ⟨_, H, Le.refl _, List.Sublist.refl _, h0 (by rw [pinsAt, hv])⟩
  · subst e
    have hpn : pinsAt s.vs (s.vs[k].n : Int) = s.vs[k].pins := pinsAt_in ho.vs (List.getElem_mem hk)
    rw [hpn] at h0 h1 hp
    obtain ⟨R, hR⟩ := hr.at1 hk
    intro hz1 hz2; clear hz1 hz2
    refine ⟨_, h.st, ?_⟩
    refine ⟨k, rfl, (by omega), ?_⟩
    refine ⟨_, h.row, run_cells hR ?_⟩
    refine ifB_dec (fun g => ?_) (fun g => ?_)
    · exact ⟨_, H, Le.refl _, List.Sublist.refl _, h0 (by omega)⟩
    · obtain ⟨H', hat, hs'⟩ := h.turn (cs' := putCells r.cs (0 + k * 2 + 1) [.i ((s.vs[k].pins : Nat) - 1)])
      have hrl : r.n * 2 ≤ r.cs.length := by
        have h1 := hr.turn.room
        have h2 := hr.turn.le
        have : r.n * 2 ≤ r.cap * 2 := by omega
        omega
      have hq := h1 (by omega) { r with cs := putCells r.cs (0 + k * 2 + 1) [.i ((s.vs[k].pins : Nat) - 1)] } H' rfl (hr.put ho hk (s.vs[k].pins - 1) (by omega)) hs'
      refine ⟨_, h.st, ?_⟩
      refine ⟨k, rfl, (by omega), ?_⟩
      refine ⟨_, h.row, run_cells hR ?_⟩
      refine ⟨in64_of (by first | omega | (dsimp only; omega)) (by first | omega | (dsimp only; omega)), ?_⟩
      refine ⟨k, rfl, (by omega), ?_⟩
      refine ⟨_, H', hat, (by show 0 + k * 2 + 1 + 1 ≤ _; omega), ?_⟩
      exact ⟨_, H', Le.refl _, List.Sublist.refl _, hq⟩
set_option maxRecDepth 100000 in
theorem rRoom_con (h : HasR r X H) (hr : RfOk s r) (ho : s.Ok) {Q : AV → Heap → Prop} (hq : Q (.i (roomS s)) H) : Con Tryz.prog 27 [.ptr r.rb 0] H Q := by
  have hm := hr.most
  have hl := hr.last
  have hn := hr.n
  rw [roomS] at hq
  refine con_of_awp (esc := fun _ => false) tab_ok mixed Tryz.func27 rfl (ent Tryz.func27 (by kernel_rfl) rfl) (by kernel_rfl) ?_
  intro hw hnd
  clear hw hnd
  refine ⟨[0, 2, 3, 4, 5, 1, 6], [(r.rb, AObj.cells [.i r.most, .i r.last, hs r.b r.n r.cap])], by kernel_rfl, pin1 h.st, ?_⟩
  refine ⟨_, List.mem_singleton.2 rfl, ?_⟩
  refine ⟨_, LeL.refl _, rHead_con h hr ho ?_⟩
  intro hz1 hz2; clear hz1 hz2
  refine ⟨pin1 h.st, ?_⟩
  refine ifB_dec (fun h1 => ?_) (fun h1 => ?_)
  · rw [if_pos (by omega)] at hq
    exact ⟨_, H, Le.refl _, List.Sublist.refl _, hq⟩
  · rw [if_neg (by omega)] at hq
    refine ⟨[0, 1, 2, 3, 4, 5, 6, 7, 8, 9], [(r.rb, AObj.cells [.i r.most, .i r.last, hs r.b r.n r.cap])], by kernel_rfl, pin1 h.st, ?_⟩
    refine ⟨_, List.mem_singleton.2 rfl, ?_⟩
    refine ⟨_, List.mem_singleton.2 rfl, ?_⟩
    refine ifB_dec (fun h2 => ?_) (fun h2 => ?_)
    · rw [if_pos (by omega)] at hq
      exact ⟨_, H, Le.refl _, List.Sublist.refl _, hq⟩
    · rw [if_neg (by omega)] at hq
      exact ⟨_, H, Le.refl _, List.Sublist.refl _, hq⟩
end
end Go.Proofs.YtaldgcnhmnfocaaGreatDoor

/-
  The reference's stores of versions: New, Push, Sweep, Live. No condition.
-/
namespace Go.Proofs.YtaldgcnhmnfocaaGreatDoor
open Go.RowKit

theorem HasR.cons {r : Rf} {X H : Heap} (h : HasR r X H) (p : Nat × AObj) : HasR r (p :: X) (p :: H) := (List.Perm.cons p h).trans List.perm_middle.symm
section
variable {s : Sto} {r : Rf} {X H : Heap}
set_option maxRecDepth 100000 in
set_option maxHeartbeats 1000000 in
theorem rLive_con (h : HasR r X H) (hr : RfOk s r) (ho : s.Ok) {Q : AV → Heap → Prop} (hq : Q (intsX (vNs s.vs)) H) : Con Tryz.prog 29 [.ptr r.rb 0] H Q := by
  have hn := hr.n
  have hl := ho.len
  have hvl := vNs_len s.vs
  refine con_of_awp (esc := fun _ => false) tab_ok mixed Tryz.func29 rfl (ent Tryz.func29 (by kernel_rfl) rfl) (by kernel_rfl) ?_
  intro hw hnd
  clear hw hnd
  refine ⟨Option Cap × Nat, fun x => ⟨[(0, .g (.ptr r.rb 0)), (2, .g (.sl .full 0 [])), (3, .g (.sl (ownQ x.1) 1 (((vNs s.vs).take x.2).map .i))), (4, .g (.i x.2))], [], bufH x.1 H⟩, fun x => x.2 ≤ s.vs.length, fun x => s.vs.length - x.2, ⟨(none, 0), Nat.zero_le _, ?_⟩, ?_⟩
  · exact ⟨⟨Le.refl _, Le.refl _, Le.refl _, Le.refl _, trivial⟩, trivial, List.Sublist.refl _⟩
  · rintro ⟨q, k⟩ hk
    simp only at hk
    have hst : (r.rb, AObj.cells [.i r.most, .i r.last, hs r.b r.n r.cap]) ∈ bufH q H := by cases q <;> first | exact h.st | exact List.mem_cons_of_mem _ h.st
    have hrow : (r.b, AObj.cells r.cs) ∈ bufH q H := by cases q <;> first | exact h.row | exact List.mem_cons_of_mem _ h.row
    refine ⟨_, hst, ?_⟩
    refine ifB_dec (fun g1 => ?_) (fun g1 => ?_)
    · have hlt : k < s.vs.length := by omega
      have hlt' : k < (vNs s.vs).length := by omega
      have htl : (((vNs s.vs).take k).map AV.i).length = k := by rw [List.length_map, List.length_take]; omega
      obtain ⟨R, hR⟩ := hr.at0 hlt
      refine ⟨_, hst, ?_⟩
      refine ⟨k, rfl, (by omega), ?_⟩
      refine ⟨_, hrow, run_cells hR ?_⟩
      refine ⟨?_, ?_⟩
      · simp only [List.length_map, List.length_cons, List.length_nil]
        try simp only [List.length_take]
        show _ * (8 + 1) ≤ _
        omega
      refine own_of (q := q) (H0 := H) ?_ ?_ ?_ (fun c hc => ?_)
      · exact rfl
      · exact rfl
      · exact fun _ h => h
      refine ⟨in64_of (by first | omega | (dsimp only; omega)) (by first | omega | (dsimp only; omega)), ?_⟩
      refine ⟨(some c, k + 1), by simp only; omega, by (try dsimp only); omega, ?_⟩
      refine ⟨⟨Le.refl _, Le.refl _, le_of_eq ?_, Le.refl _, trivial⟩, trivial, List.Sublist.refl _⟩
      show AV.sl (.own c) 1 (((vNs s.vs).take k).map .i ++ [.i (s.vs[k].n : Nat)]) = AV.sl (.own c) 1 (((vNs s.vs).take (k + 1)).map .i)
      rw [List.take_succ_eq_append_getElem hlt', List.map_append]
      have e : (vNs s.vs)[k] = (s.vs[k].n : Int) := by simp [vNs]
      rw [e]
      rfl
    · have hke : k = s.vs.length := by omega
      subst hke
      refine ⟨intsX (vNs s.vs), H, ?_, ?_, hq⟩
      · refine Le.trans (Le.own _ _ _) (le_of_eq ?_)
        show AV.sl .no 1 _ = AV.sl .no 1 _
        rw [← hvl, List.take_length]
      · cases q with
        | none => exact List.Sublist.refl _
        | some c => exact List.sublist_cons_self _ _
/-- a store of one version -/
def newR (rb b : Nat) (most last : Int) : Rf := ⟨rb, b, 1, 1, most, last, [.i 0, .i 0]⟩
theorem newR_ok (bs bm vb rb b : Nat) (most last : Int) (t : Tre) (l : List En) : RfOk (newS bs bm vb most last t l) (newR rb b most last) :=
  ⟨rfl, rfl, rfl, ⟨rfl, nofun, Nat.le_refl _, by show 1 ≤ maxLen; simp only [maxLen]; omega, Nat.le_refl _, rfl⟩⟩
set_option maxRecDepth 100000 in
theorem rNew_con (most last : Int) {H : Heap} {Q : AV → Heap → Prop} (h0 : (most < 1 ∨ 64 < most ∨ last < 0 ∨ 1099511627776 < last) → Q (.tup [.v (.pointer none), .i 12]) H)
    (h1 : 1 ≤ most → most ≤ 64 → 0 ≤ last → last ≤ 1099511627776 → ∀ rb b H', HasR (newR rb b most last) H H' → Q (.tup [.ptr rb 0, .i 0]) H') : Con Tryz.prog 14 [.i most, .i last] H Q := by
  refine con_of_awp (esc := ([23,25].contains ·)) tab_ok mixed Tryz.func14 rfl (ent Tryz.func14 (by kernel_rfl) rfl) (by kernel_rfl) ?_
  intro hw hn
  clear hw hn
  refine ifB_dec (fun g1 => ?_) (fun g1 => ?_)
  · exact ⟨_, H, Le.refl _, List.Sublist.refl _, h0 (Or.inl g1)⟩
  · refine ifB_dec (fun g2 => ?_) (fun g2 => ?_)
    · exact ⟨_, H, Le.refl _, List.Sublist.refl _, h0 (Or.inr (Or.inl (by omega)))⟩
    · refine ifB_dec (fun g3 => ?_) (fun g3 => ?_)
      · exact ⟨_, H, Le.refl _, List.Sublist.refl _, h0 (Or.inr (Or.inr (Or.inl g3)))⟩
      · refine ifB_dec (fun g4 => ?_) (fun g4 => ?_)
        · exact ⟨_, H, Le.refl _, List.Sublist.refl _, h0 (Or.inr (Or.inr (Or.inr (by omega))))⟩
        · have hq := h1 (by omega) (by omega) (by omega) (by omega)
          refine ⟨rfl, by decide, by decide, by decide, fun b hb => ?_⟩
          intro rb hrb
          refine ⟨_, _, Le.refl _, List.Sublist.refl _, hq rb b _ ?_⟩
          exact List.Perm.refl _
/-- a row more -/
theorem RfOk.more (h : RfOk s r) {b : Nat} {t : Tre} {l : List En} {b' cap' : Nat} {rest : List AV} (k2 : s.vs.length + 1 ≤ cap') (k3 : cap' ≤ maxLen) (k4 : cap' * 2 ≤ (s.vs.length + 1) * 2 + rest.length) :
    RfOk (s.more b t l) ⟨r.rb, b', cap', s.vs.length + 1, r.most, r.last, r.cs.take (s.vs.length * 2) ++ [AV.agg [.i ((s.head + 1 : Nat) : Int), .i 0]].flatMap AV.cells ++ rest⟩ := by
  have hl : (s.more b t l).vs.length = s.vs.length + 1 := by show (s.vs ++ [_]).length = _; rw [List.length_append]; rfl
  refine ⟨h.most, h.last, hl.symm, ?_⟩
  rw [hl]
  have e : (s.more b t l).vs.map rowA = s.vs.map rowA ++ [.agg [.i ((s.head + 1 : Nat) : Int), .i 0]] := by show (s.vs ++ [_]).map rowA = _; rw [List.map_append]; rfl
  rw [e]
  exact h.turn.next (wide_rows _) rfl nofun k2 k3 k4
set_option maxRecDepth 100000 in
set_option maxHeartbeats 1000000 in
theorem rPush_con (h : HasR r X H) (hr : RfOk s r) (ho : s.Ok) (b : Nat) (t : Tre) (l : List En) {Q : AV → Heap → Prop} (h0 : roomS s ≠ 0 → Q (.tup [.i 0, .i (roomS s)]) H)
    (h1 : roomS s = 0 → s.vs.length < 100000 ∧ s.head < 2000000 ∧ ∀ r' H', r'.rb = r.rb → RfOk (s.more b t l) r' → HasR r' X H' → Q (.tup [.i ((s.head + 1 : Nat) : Int), .i 0]) H') : Con Tryz.prog 17 [.ptr r.rb 0] H Q := by
  have hhd := ho.hd
  have hll := ho.len
  have hn := hr.n
  by_cases hrm : roomS s = 0
  · obtain ⟨hq1, hq2, hq⟩ := h1 hrm
    obtain ⟨H1, hrem, hp1⟩ := rem_perm (show H.Perm ((r.b, .cells r.cs) :: (r.rb, .cells [.i r.most, .i r.last, hs r.b r.n r.cap]) :: X) from List.Perm.trans h (List.Perm.swap _ _ _))
    have hb1 : (r.rb, AObj.cells [.i r.most, .i r.last, hs r.b r.n r.cap]) ∈ H1 := hp1.mem_iff.2 List.mem_cons_self
    refine con_of_awp (esc := ([20].contains ·)) tab_ok mixed Tryz.func17 rfl (ent Tryz.func17 (by kernel_rfl) rfl) (by kernel_rfl) ?_
    intro hw hnd
    clear hw hnd
    refine ⟨_, LeL.refl _, rRoom_con h hr ho ?_⟩
    intro hz1 hz2; clear hz1 hz2
    refine ifB_t hrm ?_
    refine ⟨[0, 1, 2, 3, 4, 5, 6, 7, 8, 9, 10, 11, 12, 13], [(r.rb, AObj.cells [.i r.most, .i r.last, hs r.b r.n r.cap])], by kernel_rfl, pin1 h.st, ?_⟩
    refine ⟨_, List.mem_singleton.2 rfl, ?_⟩
    refine ⟨_, LeL.refl _, rHead_con h hr ho ?_⟩
    intro hz1 hz2; clear hz1 hz2
    refine ⟨pin1 h.st, ?_⟩
    refine ⟨in64_of (by first | omega | (dsimp only; omega)) (by first | omega | (dsimp only; omega)), ?_⟩
    refine ⟨(by show (r.n + 1) * (16 + 1) ≤ 140737488355328; omega), by simp, r.cs, H1, hrem, (by rw [hn]; exact hr.turn.le), hr.turn.max, hr.turn.room, fun b' cap' rest k1 k2 k3 k4 => ?_⟩
    refine ⟨pin1 (List.mem_cons_of_mem _ hb1), ?_⟩
    obtain ⟨H2, hat, hp2⟩ := at_perm (y := .cells [.i r.most, .i r.last, hs b' (r.n + 1) cap']) hp1
    have hok := hr.more (b := b) (t := t) (l := l) (b' := b') (cap' := cap') (rest := rest) (by rw [← hn]; exact k2) k3 (by rw [← hn]; exact k4)
    have hh : HasR ⟨r.rb, b', cap', s.vs.length + 1, r.most, r.last, r.cs.take (s.vs.length * 2) ++ [AV.agg [.i ((s.head + 1 : Nat) : Int), .i 0]].flatMap AV.cells ++ rest⟩ X ((b', .cells (r.cs.take (r.n * 2) ++ [AV.agg [.i ((s.head + 1 : Nat) : Int), .i 0]].flatMap AV.cells ++ rest)) :: H2) := by
      rw [← hn]
      exact (hp2.cons _).trans (List.Perm.swap _ _ _)
    refine ⟨_, _, .there hat, (by show 2 + 1 ≤ 3; omega), ?_⟩
    refine ⟨_, LeL.refl _, rHead_con (s := s.more b t l) (r := ⟨r.rb, b', cap', s.vs.length + 1, r.most, r.last, r.cs.take (s.vs.length * 2) ++ [AV.agg [.i ((s.head + 1 : Nat) : Int), .i 0]].flatMap AV.cells ++ rest⟩) hh hok (ho.more hq1 hq2 b t l) ?_⟩
    intro hz1 hz2; clear hz1 hz2
    exact ⟨_, _, Le.refl _, List.Sublist.refl _, hq ⟨r.rb, b', cap', s.vs.length + 1, r.most, r.last, r.cs.take (s.vs.length * 2) ++ [AV.agg [.i ((s.head + 1 : Nat) : Int), .i 0]].flatMap AV.cells ++ rest⟩ _ rfl hok hh⟩
  · have hq := h0 hrm
    refine con_of_awp (esc := ([20].contains ·)) tab_ok mixed Tryz.func17 rfl (ent Tryz.func17 (by kernel_rfl) rfl) (by kernel_rfl) ?_
    intro hw hnd
    clear hw hnd
    refine ⟨_, LeL.refl _, rRoom_con h hr ho ?_⟩
    intro hz1 hz2; clear hz1 hz2
    refine ifB_f hrm ?_
    exact ⟨_, H, Le.refl _, List.Sublist.refl _, hq⟩
end
end Go.Proofs.YtaldgcnhmnfocaaGreatDoor

/-
  The reference's stores of versions: Sweep. No condition.
-/
namespace Go.Proofs.YtaldgcnhmnfocaaGreatDoor
open Go.RowKit

theorem bufH_mv (q : Option Cap) (m : Mv) (R : Heap) : (bufH q (mvH m R)).Perm (mvH m (bufH q R)) := by
  cases q with
  | none => exact List.Perm.refl _
  | some c =>
    cases m with
    | none => exact List.Perm.refl _
    | some p => exact List.Perm.swap _ _ _
theorem Le.nil0 (s : Nat) : Le (.sl .full s []) (.sl .full 0 []) := fun M u hu => by
  simp only [rep] at hu ⊢
  obtain ⟨a, cap, h1, h2, h3, h4, h5, h6, h7⟩ := hu
  exact ⟨a, cap, h1, h2, h3, h4, ⟨fun _ => rfl, fun y hy => by cases hy⟩, h6, h7⟩
def keepK (s : Sto) (k : Nat) : List Vn := (s.vs.take k).filter fun v => needN s v.n
def goneK (s : Sto) (k : Nat) : List Int := (vNs (s.vs.take k)).filter fun z => !needN s z
section
variable {s : Sto} {r : Rf} {X H : Heap}
theorem need_idx (ho : s.Ok) {k : Nat} (hk : k < s.vs.length) : needN s (s.vs[k].n : Int) = (decide (k + 1 = s.vs.length) || decide (0 < s.vs[k].pins)) := by
  have hp : pinsAt s.vs (s.vs[k].n : Int) = s.vs[k].pins := pinsAt_in ho.vs (List.getElem_mem hk)
  unfold needN
  rw [hp]
  congr 1
  · rw [decide_eq_decide]
    have hl : s.vs.length - 1 < s.vs.length := by omega
    have hln := last_n ho hl
    constructor
    · intro h
      rcases Nat.lt_or_ge k (s.vs.length - 1) with h1 | h1
      · have := List.pairwise_iff_getElem.1 ho.vs.ns k (s.vs.length - 1) hk hl h1
        omega
      · omega
    · intro h
      have : k = s.vs.length - 1 := by omega
      subst this
      omega
  · rw [decide_eq_decide]; omega
theorem keepK_succ {k : Nat} (hk : k < s.vs.length) : keepK s (k + 1) = keepK s k ++ (if needN s (s.vs[k].n : Int) = true then [s.vs[k]] else []) := by
  unfold keepK
  rw [List.take_succ_eq_append_getElem hk, List.filter_append, List.filter_cons, List.filter_nil]
theorem goneK_succ {k : Nat} (hk : k < s.vs.length) : goneK s (k + 1) = goneK s k ++ (if needN s (s.vs[k].n : Int) = true then [] else [(s.vs[k].n : Int)]) := by
  unfold goneK vNs
  rw [List.take_succ_eq_append_getElem hk, List.map_append, List.filter_append, List.map_cons, List.map_nil, List.filter_cons, List.filter_nil]
  congr 1
  cases needN s (s.vs[k].n : Int) <;> rfl
theorem keepK_all : keepK s s.vs.length = s.swept.vs := by unfold keepK; rw [List.take_length]; rfl
theorem goneK_all : goneK s s.vs.length = s.gone := by unfold goneK; rw [List.take_length]; rfl
theorem keepK_len (k : Nat) : (keepK s k).length ≤ s.vs.length := Nat.le_trans (List.length_filter_le _ _) (by rw [List.length_take]; omega)
theorem goneK_len (k : Nat) : (goneK s k).length ≤ s.vs.length := Nat.le_trans (List.length_filter_le _ _) (by rw [vNs_len, List.length_take]; omega)
/-- what a loop's round needs -/
structure SwOk (s : Sto) (r : Rf) (X : Heap) (k : Nat) (q : Option Cap) (m : Mv) (Hk : Heap) : Prop where
  le : k ≤ s.vs.length
  mv : MvOk 2 (keepK s k).length ((keepK s k).map rowA) [] m
  hp : Hk.Perm (bufH q (mvH m (r.O ++ X)))
theorem SwOk.st {k : Nat} {q : Option Cap} {m : Mv} {Hk : Heap} (h : SwOk s r X k q m Hk) : (r.rb, AObj.cells [.i r.most, .i r.last, hs r.b r.n r.cap]) ∈ Hk := h.hp.mem_iff.2 (by
  have : (r.rb, AObj.cells [.i r.most, .i r.last, hs r.b r.n r.cap]) ∈ mvH m (r.O ++ X) := mvH_mem List.mem_cons_self
  cases q <;> first | exact this | exact List.mem_cons_of_mem _ this)
theorem SwOk.row {k : Nat} {q : Option Cap} {m : Mv} {Hk : Heap} (h : SwOk s r X k q m Hk) : (r.b, AObj.cells r.cs) ∈ Hk := h.hp.mem_iff.2 (by
  have : (r.b, AObj.cells r.cs) ∈ mvH m (r.O ++ X) := mvH_mem (List.mem_cons_of_mem _ List.mem_cons_self)
  cases q <;> first | exact this | exact List.mem_cons_of_mem _ this)
set_option maxRecDepth 100000 in
set_option maxHeartbeats 2000000 in
theorem rSweep_con (h : HasR r X H) (hr : RfOk s r) (ho : s.Ok) {Q : AV → Heap → Prop} (hq : ∀ r' H', r'.rb = r.rb → RfOk s.swept r' → HasR r' X H' → Q (intsX s.gone) H') : Con Tryz.prog 24 [.ptr r.rb 0] H Q := by
  have hn := hr.n
  have hl := ho.len
  have hpos := ho.pos
  refine con_of_awp (esc := ([56].contains ·)) tab_ok mixed Tryz.func24 rfl (ent Tryz.func24 (by kernel_rfl) rfl) (by kernel_rfl) ?_
  intro hw hnd
  clear hw hnd
  refine ⟨Nat × Option Cap × Mv × Heap, fun x => ⟨[(0, .g (.ptr r.rb 0)), (2, .g (.sl .full 0 [])), (3, .g (.sl (ownQ x.2.1) 1 ((goneK s x.1).map .i))), (4, .g (mvS x.2.2.1 (keepK s x.1).length)), (5, .g (.i x.1))], [], x.2.2.2⟩, fun x => SwOk s r X x.1 x.2.1 x.2.2.1 x.2.2.2, fun x => s.vs.length - x.1, ⟨(0, none, none, H), ⟨Nat.zero_le _, ⟨rfl, rfl⟩, h⟩, ?_⟩, ?_⟩
  · exact ⟨⟨Le.refl _, Le.refl _, Le.refl _, Le.nil0 _, Le.refl _, trivial⟩, trivial, List.Sublist.refl _⟩
  · rintro ⟨k, q, m, Hk⟩ hS
    have hk := hS.le
    have hmv := hS.mv
    simp only at hS hk hmv
    have hkl := keepK_len (s := s) k
    have hgl := goneK_len (s := s) k
    refine ⟨_, hS.st, ?_⟩
    refine ifB_dec (fun g0 => ?_) (fun g0 => ?_)
    · have hlt : k < s.vs.length := by omega
      obtain ⟨R, hR⟩ := hr.at hlt
      obtain ⟨R1, hR1⟩ := hr.at1 hlt
      obtain ⟨R0, hR0⟩ := hr.at0 hlt
      have hni := need_idx ho hlt
      have hks := keepK_succ hlt
      have hgs := goneK_succ hlt
      refine ⟨in64_of (by first | omega | (dsimp only; omega)) (by first | omega | (dsimp only; omega)), ?_⟩
      refine ⟨_, hS.st, ?_⟩
      refine ifB_dec (fun g1 => ?_) (fun g1 => ?_)
      · refine ⟨_, hS.st, ?_⟩
        refine ⟨k, rfl, (by omega), ?_⟩
        refine ⟨_, hS.row, run_cells hR1 ?_⟩
        rw [decide_eq_false (show ¬ (k + 1 = s.vs.length) by omega), Bool.false_or] at hni
        refine ifB_dec (fun g2 => ?_) (fun g2 => ?_)
        · rw [decide_eq_false (show ¬ (0 < s.vs[k].pins) by omega)] at hni
          rw [hni, if_neg (by simp)] at hks hgs
          rw [List.append_nil] at hks
          refine ⟨_, hS.st, ?_⟩
          refine ⟨k, rfl, (by omega), ?_⟩
          refine ⟨_, hS.row, run_cells hR0 ?_⟩
          refine ⟨(by show (((goneK s k).map AV.i).length + 1) * (8 + 1) ≤ 140737488355328; rw [List.length_map]; omega), ?_⟩
          refine own_ofP (q := q) (H0 := mvH m (r.O ++ X)) hS.hp rfl (fun _ h => h) fun c H2 hp => ?_
          refine ⟨in64_of (by first | omega | (dsimp only; omega)) (by first | omega | (dsimp only; omega)), ?_⟩
          refine ⟨(k + 1, some c, m, (c.b, .cap c) :: H2), ⟨hlt, by rw [hks]; exact hmv, hp.cons _⟩, by (try dsimp only); omega, ?_⟩
          refine ⟨⟨Le.refl _, Le.refl _, le_of_eq ?_, le_of_eq ?_, Le.refl _, trivial⟩, trivial, List.Sublist.refl _⟩
          · show AV.sl (.own c) 1 _ = AV.sl (.own c) 1 _
            rw [hgs, List.map_append]
            rfl
          · rw [hks]
        · rw [decide_eq_true (show 0 < s.vs[k].pins by omega)] at hni
          rw [hni, if_pos rfl] at hks hgs
          rw [List.append_nil] at hgs
          refine ⟨_, hS.st, ?_⟩
          refine ⟨k, rfl, (by omega), ?_⟩
          refine ⟨_, hS.row, run_cells hR ?_⟩
          cases m with
          | none =>
            obtain ⟨hz1, hz2⟩ := hmv
            have hz : keepK s k = [] := List.length_eq_zero_iff.1 hz1
            refine ⟨(by show (0 + 1) * (16 + 1) ≤ 140737488355328; decide), by simp, rfl, fun b cap rest k1 k2 k3 k4 => ?_⟩
            have hok : SwOk s r X (k + 1) q (some (b, cap, ([] ++ [AV.agg [.i (s.vs[k].n : Nat), .i (s.vs[k].pins : Nat)]]).flatMap AV.cells ++ rest)) ((b, .cells (([] ++ [AV.agg [.i (s.vs[k].n : Nat), .i (s.vs[k].pins : Nat)]]).flatMap AV.cells ++ rest)) :: Hk) := by
              refine ⟨hlt, ?_, ((hS.hp.trans (bufH_mv q none (r.O ++ X))).cons _).trans (bufH_mv q (some (b, cap, _)) (r.O ++ X)).symm⟩
              rw [hks, hz]
              exact ⟨by simp, TurnOk.first rfl nofun k2 k3 k4⟩
            refine ⟨in64_of (by first | omega | (dsimp only; omega)) (by first | omega | (dsimp only; omega)), ?_⟩
            refine ⟨(k + 1, q, some (b, cap, ([] ++ [AV.agg [.i (s.vs[k].n : Nat), .i (s.vs[k].pins : Nat)]]).flatMap AV.cells ++ rest), _), hok, by (try dsimp only); omega, ?_⟩
            refine ⟨⟨Le.refl _, Le.refl _, le_of_eq ?_, le_of_eq ?_, Le.refl _, trivial⟩, trivial, List.Sublist.refl _⟩
            · rw [hgs]
            · show hs b (0 + 1) cap = hs b (keepK s (k + 1)).length cap
              rw [hks, hz]
              rfl
          | some p =>
            obtain ⟨b0, cap0, cs0⟩ := p
            obtain ⟨hj0, htk⟩ := hmv
            obtain ⟨H1, hrem, hp1⟩ := rem_perm (hS.hp.trans (bufH_mv q (some (b0, cap0, cs0)) (r.O ++ X)))
            refine ⟨(by show ((keepK s k).length + 1) * (16 + 1) ≤ 140737488355328; omega), by simp, cs0, H1, hrem, htk.le, htk.max, htk.room, fun b cap rest k1 k2 k3 k4 => ?_⟩
            have hok : SwOk s r X (k + 1) q (some (b, cap, cs0.take ((keepK s k).length * 2) ++ [AV.agg [.i (s.vs[k].n : Nat), .i (s.vs[k].pins : Nat)]].flatMap AV.cells ++ rest)) ((b, .cells (cs0.take ((keepK s k).length * 2) ++ [AV.agg [.i (s.vs[k].n : Nat), .i (s.vs[k].pins : Nat)]].flatMap AV.cells ++ rest)) :: H1) := by
              refine ⟨hlt, ?_, (hp1.cons _).trans (bufH_mv q (some (b, cap, _)) (r.O ++ X)).symm⟩
              rw [hks, List.map_append, List.length_append]
              exact ⟨by simp, htk.next (wide_rows _) rfl nofun k2 k3 k4⟩
            refine ⟨in64_of (by first | omega | (dsimp only; omega)) (by first | omega | (dsimp only; omega)), ?_⟩
            refine ⟨(k + 1, q, some (b, cap, cs0.take ((keepK s k).length * 2) ++ [AV.agg [.i (s.vs[k].n : Nat), .i (s.vs[k].pins : Nat)]].flatMap AV.cells ++ rest), _), hok, by (try dsimp only); omega, ?_⟩
            refine ⟨⟨Le.refl _, Le.refl _, le_of_eq ?_, le_of_eq ?_, Le.refl _, trivial⟩, trivial, List.Sublist.refl _⟩
            · rw [hgs]
            · show hs b ((keepK s k).length + 1) cap = hs b (keepK s (k + 1)).length cap
              rw [hks, List.length_append]
              rfl
      · rw [decide_eq_true (show k + 1 = s.vs.length by omega), Bool.true_or] at hni
        rw [hni, if_pos rfl] at hks hgs
        rw [List.append_nil] at hgs
        refine ⟨_, hS.st, ?_⟩
        refine ⟨k, rfl, (by omega), ?_⟩
        refine ⟨_, hS.row, run_cells hR ?_⟩
        cases m with
        | none =>
          obtain ⟨hz1, hz2⟩ := hmv
          have hz : keepK s k = [] := List.length_eq_zero_iff.1 hz1
          refine ⟨(by show (0 + 1) * (16 + 1) ≤ 140737488355328; decide), by simp, rfl, fun b cap rest k1 k2 k3 k4 => ?_⟩
          have hok : SwOk s r X (k + 1) q (some (b, cap, ([] ++ [AV.agg [.i (s.vs[k].n : Nat), .i (s.vs[k].pins : Nat)]]).flatMap AV.cells ++ rest)) ((b, .cells (([] ++ [AV.agg [.i (s.vs[k].n : Nat), .i (s.vs[k].pins : Nat)]]).flatMap AV.cells ++ rest)) :: Hk) := by
            refine ⟨hlt, ?_, ((hS.hp.trans (bufH_mv q none (r.O ++ X))).cons _).trans (bufH_mv q (some (b, cap, _)) (r.O ++ X)).symm⟩
            rw [hks, hz]
            exact ⟨by simp, TurnOk.first rfl nofun k2 k3 k4⟩
          refine ⟨in64_of (by first | omega | (dsimp only; omega)) (by first | omega | (dsimp only; omega)), ?_⟩
          refine ⟨(k + 1, q, some (b, cap, ([] ++ [AV.agg [.i (s.vs[k].n : Nat), .i (s.vs[k].pins : Nat)]]).flatMap AV.cells ++ rest), _), hok, by (try dsimp only); omega, ?_⟩
          refine ⟨⟨Le.refl _, Le.refl _, le_of_eq ?_, le_of_eq ?_, Le.refl _, trivial⟩, trivial, List.Sublist.refl _⟩
          · rw [hgs]
          · show hs b (0 + 1) cap = hs b (keepK s (k + 1)).length cap
            rw [hks, hz]
            rfl
        | some p =>
          obtain ⟨b0, cap0, cs0⟩ := p
          obtain ⟨hj0, htk⟩ := hmv
          obtain ⟨H1, hrem, hp1⟩ := rem_perm (hS.hp.trans (bufH_mv q (some (b0, cap0, cs0)) (r.O ++ X)))
          refine ⟨(by show ((keepK s k).length + 1) * (16 + 1) ≤ 140737488355328; omega), by simp, cs0, H1, hrem, htk.le, htk.max, htk.room, fun b cap rest k1 k2 k3 k4 => ?_⟩
          have hok : SwOk s r X (k + 1) q (some (b, cap, cs0.take ((keepK s k).length * 2) ++ [AV.agg [.i (s.vs[k].n : Nat), .i (s.vs[k].pins : Nat)]].flatMap AV.cells ++ rest)) ((b, .cells (cs0.take ((keepK s k).length * 2) ++ [AV.agg [.i (s.vs[k].n : Nat), .i (s.vs[k].pins : Nat)]].flatMap AV.cells ++ rest)) :: H1) := by
            refine ⟨hlt, ?_, (hp1.cons _).trans (bufH_mv q (some (b, cap, _)) (r.O ++ X)).symm⟩
            rw [hks, List.map_append, List.length_append]
            exact ⟨by simp, htk.next (wide_rows _) rfl nofun k2 k3 k4⟩
          refine ⟨in64_of (by first | omega | (dsimp only; omega)) (by first | omega | (dsimp only; omega)), ?_⟩
          refine ⟨(k + 1, q, some (b, cap, cs0.take ((keepK s k).length * 2) ++ [AV.agg [.i (s.vs[k].n : Nat), .i (s.vs[k].pins : Nat)]].flatMap AV.cells ++ rest), _), hok, by (try dsimp only); omega, ?_⟩
          refine ⟨⟨Le.refl _, Le.refl _, le_of_eq ?_, le_of_eq ?_, Le.refl _, trivial⟩, trivial, List.Sublist.refl _⟩
          · rw [hgs]
          · show hs b ((keepK s k).length + 1) cap = hs b (keepK s (k + 1)).length cap
            rw [hks, List.length_append]
            rfl
    · have hke : k = s.vs.length := by omega
      subst hke
      rw [keepK_all] at hmv
      have hsp := ho.swept.pos
      cases m with
      | none => exact absurd hmv.1 (by omega)
      | some p =>
        obtain ⟨b1, cap1, cs1⟩ := p
        obtain ⟨_, htk⟩ := hmv
        have hp0 : Hk.Perm ((r.rb, .cells [.i r.most, .i r.last, hs r.b r.n r.cap]) :: bufH q ((b1, .cells cs1) :: (r.b, .cells r.cs) :: X)) := by
          refine hS.hp.trans ?_
          cases q with
          | none => exact List.Perm.swap _ _ _
          | some c => exact (List.Perm.cons _ (List.Perm.swap _ _ _)).trans (List.Perm.swap _ _ _)
        obtain ⟨H1, hat, hp1⟩ := at_perm (y := .cells [.i r.most, .i r.last, hs b1 s.swept.vs.length cap1]) hp0
        obtain ⟨H2, hs2, hp2⟩ : ∃ H2 : Heap, H2.Sublist H1 ∧ H2.Perm ((r.rb, .cells [.i r.most, .i r.last, hs b1 s.swept.vs.length cap1]) :: (b1, .cells cs1) :: X) := by
          cases q with
          | none => exact rem_sub (p := (r.b, .cells r.cs)) (hp1.trans ((List.Perm.cons _ (List.Perm.swap _ _ _)).trans (List.Perm.swap _ _ _)))
          | some c =>
            obtain ⟨H3, hs3, hp3⟩ := rem_sub (p := (c.b, .cap c)) (hp1.trans (List.Perm.swap _ _ _))
            obtain ⟨H4, hs4, hp4⟩ := rem_sub (p := (r.b, .cells r.cs)) (hp3.trans ((List.Perm.cons _ (List.Perm.swap _ _ _)).trans (List.Perm.swap _ _ _)))
            exact ⟨H4, hs4.trans hs3, hp4⟩
        have hqq := hq ⟨r.rb, b1, cap1, s.swept.vs.length, r.most, r.last, cs1⟩ H2 rfl ⟨hr.most, hr.last, rfl, htk⟩ hp2
        have hlen : keepK s s.vs.length = s.swept.vs := keepK_all
        have hat' : Heap.At r.rb (.cells [.i r.most, .i r.last, hs r.b r.n r.cap]) (.cells [.i r.most, .i r.last, hs b1 (keepK s s.vs.length).length cap1]) Hk H1 := by rw [hlen]; exact hat
        refine ⟨_, H1, hat', (by show 2 + 1 ≤ 3; omega), ?_⟩
        refine ⟨intsX s.gone, H2, ?_, hs2, hqq⟩
        refine Le.trans (Le.own _ _ _) (le_of_eq ?_)
        show AV.sl .no 1 _ = AV.sl .no 1 _
        rw [goneK_all]
end
end Go.Proofs.YtaldgcnhmnfocaaGreatDoor
