/-
  Texts put together: I26, I27, I28, I29, I30, I31, I34. No condition.
-/
import Derived.Test.YtahdkhklngjmoaaGreatDoorM21
import Derived.Test.YtahdkhklngjmoaaGreatDoorM22
/-
  Whnf, plain: a definition's step. No condition.
-/
namespace Go.Proofs.YtahdkhklngjmoaaGreatDoor
open Go.RowKit

end Go.Proofs.YtahdkhklngjmoaaGreatDoor

/-
  Whnf: the law of definitions. No condition.
-/
namespace Go.Proofs.YtahdkhklngjmoaaGreatDoor
open Go.RowKit

end Go.Proofs.YtahdkhklngjmoaaGreatDoor

/-
  Whnf: the reference's Inst: in how many binders a part stands. No condition.
-/
namespace Go.Proofs.YtahdkhklngjmoaaGreatDoor
open Go.RowKit

set_option maxRecDepth 100000 in
theorem inner06_con (k : Int) (i : Nat) (d : Int) (h0 : 0 ≤ d) (h1 : d ≤ 4611686018427387904) : Ans Tryz.prog 74 [.i k, .i (i : Nat), .i d] (.i (if tmBind k i = true then d + 1 else d)) := by
  intro H Q hq
  have yes : (k = 5 ∧ i = 1 ∨ k = 6 ∧ i = 1 ∨ k = 7 ∧ i = 2) → tmBind k i = true := fun h => by
    unfold tmBind
    rcases h with ⟨rfl, rfl⟩ | ⟨rfl, rfl⟩ | ⟨rfl, rfl⟩ <;> rfl
  have no : ¬(k = 5 ∧ i = 1 ∨ k = 6 ∧ i = 1 ∨ k = 7 ∧ i = 2) → ¬tmBind k i = true := fun h hb => h (by
    unfold tmBind at hb
    simpa [or_assoc] using hb)
  refine con_of_awp (esc := fun _ => false) tab_ok mixed Tryz.func74 rfl (ent Tryz.func74 (by kernel_rfl) rfl) (by kernel_rfl) ?_
  intro hw hn
  clear hw hn
  refine ifB_dec (fun g1 => ?_) (fun g1 => ?_)
  · refine ifB_dec (fun g2 => ?_) (fun g2 => ?_)
    · rw [if_pos (yes (by omega))] at hq
      refine ⟨in64_of (by first | omega | (dsimp only; omega)) (by first | omega | (dsimp only; omega)), ?_⟩
      exact ⟨_, H, Le.refl _, List.Sublist.refl _, hq⟩
    · have g2 : ¬ (i : Int) = 1 := g2
      refine ifB_f (show ¬ k = 7 by omega) ?_
      rw [if_neg (no (by omega))] at hq
      exact ⟨_, H, Le.refl _, List.Sublist.refl _, hq⟩
  · refine ifB_dec (fun g2 => ?_) (fun g2 => ?_)
    · refine ifB_dec (fun g3 => ?_) (fun g3 => ?_)
      · rw [if_pos (yes (by omega))] at hq
        refine ⟨in64_of (by first | omega | (dsimp only; omega)) (by first | omega | (dsimp only; omega)), ?_⟩
        exact ⟨_, H, Le.refl _, List.Sublist.refl _, hq⟩
      · refine ifB_f (show ¬ k = 7 by omega) ?_
        rw [if_neg (no (by omega))] at hq
        exact ⟨_, H, Le.refl _, List.Sublist.refl _, hq⟩
    · refine ifB_dec (fun g3 => ?_) (fun g3 => ?_)
      · refine ifB_dec (fun g4 => ?_) (fun g4 => ?_)
        · rw [if_pos (yes (by omega))] at hq
          refine ⟨in64_of (by first | omega | (dsimp only; omega)) (by first | omega | (dsimp only; omega)), ?_⟩
          exact ⟨_, H, Le.refl _, List.Sublist.refl _, hq⟩
        · rw [if_neg (no (by omega))] at hq
          exact ⟨_, H, Le.refl _, List.Sublist.refl _, hq⟩
      · rw [if_neg (no (by omega))] at hq
        exact ⟨_, H, Le.refl _, List.Sublist.refl _, hq⟩
end Go.Proofs.YtahdkhklngjmoaaGreatDoor

/-
  Whnf: an own row somewhere in a heap. No condition.
-/
namespace Go.Proofs.YtahdkhklngjmoaaGreatDoor
open Go.RowKit

section
variable {P : Pr} {tab : Tab} {esc : Nat → Bool} {N : Nat} {a b : Code} {Q : Exit → St → Prop} {s : St}
theorem sem_cond {c : Operand} {q : Bool} (hx : s.e.ev c = .g (.b q)) (h : sem P N (match q with | true => a | false => b) Q s) : sem P N (.cond c a b) Q s := fun hs B ac w hc => by
  simp only [slotsOk, Bool.and_eq_true] at hs
  obtain ⟨M, lm, hca⟩ := hc
  have hcv : ac.eval c = .bool q := by
    have := hca.ev c
    rw [hx] at this
    simp only [repX, AV.b, rep] at this
    exact this.1
  refine wp_cond hcv ?_
  cases q with
  | true => exact h hs.1 B ac w ⟨M, lm, hca⟩
  | false => exact h hs.2 B ac w ⟨M, lm, hca⟩
end
theorem rem_perm {p : Nat × AObj} {H R : Heap} (h : H.Perm (p :: R)) : ∃ H0, Heap.Rem p H H0 ∧ H0.Perm R := by
  have hm : p ∈ H := h.mem_iff.2 List.mem_cons_self
  obtain ⟨A, B, rfl⟩ := List.append_of_mem hm
  refine ⟨A ++ B, ?_, (List.perm_middle.symm.trans h).cons_inv⟩
  clear h hm
  induction A with
  | nil => exact .here
  | cons q A ih => exact .there ih
/-- an own row is put behind, wherever it stands -/
theorem own_ofP {q : Option Cap} {X HH : Heap} {b : Bool} {R1 : Cap → Prop} {R : Cap → Heap → Prop} (hH : HH.Perm (bufH q X)) (hb : b = true) (hR : ∀ c, R c HH → R1 c) (h : ∀ (c : Cap) (H0 : Heap), H0.Perm X → c.b ∉ H0.keys → R c H0) :
    (match ownQ q with
      | .no => False
      | .full => ∀ c : Cap, c.b ∉ HH.keys → R1 c
      | .own c0 => bif b then (∃ H0, Heap.Rem (c0.b, .cap c0) HH H0 ∧ ∀ c : Cap, c.b ∉ H0.keys → R c H0) else False) := by
  subst hb
  cases q with
  | none => exact fun c hc => hR c (h c HH hH hc)
  | some c0 =>
    obtain ⟨H0, h1, h2⟩ := rem_perm (show HH.Perm ((c0.b, .cap c0) :: X) from hH)
    exact ⟨H0, h1, fun c hc => h c H0 h2 hc⟩
end Go.Proofs.YtahdkhklngjmoaaGreatDoor

/-
  Whnf: the reference's Inst, all at once. No condition.
-/
namespace Go.Proofs.YtahdkhklngjmoaaGreatDoor
open Go.RowKit

theorem tmNodesL_snoc : ∀ {ts : List Tm} {k : Nat} (h : k < ts.length), Tm.nodesL (ts.take (k + 1)) = Tm.nodesL (ts.take k) + ts[k].nodes
  | t :: ts, 0, _ => by simp [Tm.nodesL]
  | t :: ts, k + 1, h => by
    simp only [List.take_succ_cons, Tm.nodesL, List.getElem_cons_succ]
    rw [tmNodesL_snoc (by simpa using h)]
    omega
theorem tmNodesL_take : ∀ (ts : List Tm) (k : Nat), Tm.nodesL (ts.take k) ≤ Tm.nodesL ts
  | [], k => by simp
  | t :: ts, 0 => by simp [Tm.nodesL]
  | t :: ts, k + 1 => by
    simp only [List.take_succ_cons, Tm.nodesL]
    have := tmNodesL_take ts k
    omega
theorem lvNodesL_take : ∀ (ls : List Lv) (k : Nat), Lv.nodesL (ls.take k) ≤ Lv.nodesL ls
  | [], k => by simp [Lv.nodesL]
  | a :: ls, 0 => by simp [Lv.nodesL]
  | a :: ls, k + 1 => by simp [Lv.nodesL, lvNodesL_take ls k]
theorem bufH_swap (q : Option Cap) (p : Nat × AObj) (X : Heap) : (bufH q (p :: X)).Perm (p :: bufH q X) := by
  cases q with
  | none => exact List.Perm.refl _
  | some c => exact List.Perm.swap _ _ _
theorem bufH_drop (q : Option Cap) {X H : Heap} (h : H.Perm (bufH q X)) : ∃ H2 : Heap, List.Sublist H2 H ∧ H2.Perm X := by
  cases q with
  | none => exact ⟨H, List.Sublist.refl _, h⟩
  | some c =>
    obtain ⟨H2, k1, k2⟩ := sub_of_perm (A := [(c.b, AObj.cap c)]) (X := X) h
    exact ⟨H2, k1, k2.symm⟩
set_option maxRecDepth 100000 in
set_option maxHeartbeats 4000000 in
theorem whole06_con (args : List Tm) (hlen : args.length ≤ 1048576) (hargs : ∀ a ∈ args, tmRight 4 1125899906842624 a = true) : ∀ (N : Nat) (t : Tm) (d v L : Int) (b : Nat) (o : Own) (X H : Heap) (Q : AV → Heap → Prop), t.nodes ≤ N → N ≤ 2000 → tmFit 4 t v = true → v + N ≤ 2305843009213693952 → 0 ≤ d → d + N ≤ 1000000 → -1000000 + (N : Int) ≤ L → L ≤ 2000 → H.Perm ((b, .cells [.i L]) :: X) →
    (((bld (instF args) t d).nodes : Int) ≤ L → ∀ H', H'.Perm ((b, .cells [.i (L - (bld (instF args) t d).nodes)]) :: X) → Q (.tup [tmX (bld (instF args) t d), .b true]) H') →
    (¬ ((bld (instF args) t d).nodes : Int) ≤ L → ∀ u H' L', H'.Perm ((b, .cells [.i L']) :: X) → Q (.tup [tmX u, .b false]) H') →
    Con Tryz.prog 54 [tmX t, .sl o 5 (args.map tmA), .i d, hs b 1 1] H Q := by
  intro N
  induction N with
  | zero => intro t d v L b o X H Q h; have := t.nodes_pos; omega
  | succ N ih =>
  intro t d v L b o X H Q hN hN1 hfit hv hd0 hd1 hL0 hL1 hH hyes hno
  have hal : (args.map tmA).length = args.length := List.length_map _
  refine con_of_sem tab_ok Tryz.func54 rfl (ent Tryz.func54 (by kernel_rfl) rfl) (by kernel_rfl) ?_
  intro hw hn
  clear hw hn
  refine sem_seq (esc := fun _ => false) tab_ok mixed ?_
  refine sem_seq (esc := fun _ => false) tab_ok mixed ?_
  refine sem_seq (esc := fun _ => false) tab_ok mixed ?_
  refine ⟨0, rfl, by decide, ?_⟩
  refine ⟨_, hH.mem_iff.2 List.mem_cons_self, ?_⟩
  refine ⟨in64_of (by first | omega | (dsimp only; omega)) (by first | omega | (dsimp only; omega)), ?_⟩
  refine ⟨0, rfl, by decide, ?_⟩
  obtain ⟨H1, a1, p1⟩ := at_permW (y := .cells [.i (L - 1)]) hH
  refine ⟨_, _, a1, Nat.le_refl _, ?_⟩
  clear a1
  have hm1 : (b, AObj.cells [.i (L - 1)]) ∈ H1 := p1.mem_iff.2 List.mem_cons_self
  refine sem_le ⟨[(1, .g (.sl o 5 (args.map tmA))), (2, .g (.i d)), (3, .g (hs b 1 1)), (4, .lp 4 0), (8, .lp 8 0), (9, .g (.b false)), (10, .g (.i args.length))], [(8, [.i 0, .i 0, .str [], .sl .full 0 [], .sl .full 0 []]), (4, (tmX t).cells)], H1⟩ ⟨⟨Le.refl _, Le.refl _, Le.refl _, ⟨rfl, rfl⟩, ⟨rfl, rfl⟩, Le.refl _, le_of_eq (congrArg (fun n : Nat => AV.i n) hal), trivial⟩, ⟨⟨rfl, LeL.refl _⟩, ⟨rfl, LeL.refl _⟩, trivial⟩, List.Sublist.refl _⟩ ?_
  refine sem_thenJ (X := Unit) (fun _ => ⟨[(1, .g (.sl o 5 (args.map tmA))), (2, .g (.i d)), (3, .g (hs b 1 1)), (4, .lp 4 0), (8, .lp 8 0), (9, .g (.b false)), (10, .g (.i args.length))], [(8, [.i 0, .i 0, .str [], .sl .full 0 [], .sl .full 0 []]), (4, (tmX t).cells)], H1⟩) (fun _ => ¬(t.kind = 1 ∧ d ≤ t.n)) ?_ (fun _ hvar => ?_)
  · refine sem_seq (esc := fun _ => false) tab_ok mixed ?_
    by_cases hk : t.kind = 1
    rotate_left
    · refine ifB_f hk ?_
      refine sem_cond (q := false) rfl ?_
      refine sem_of (esc := fun _ => false) tab_ok mixed ?_
      exact ⟨(), (fun h => hk h.1), ⟨⟨Le.refl _, Le.refl _, Le.refl _, ⟨rfl, rfl⟩, ⟨rfl, rfl⟩, Le.refl _, Le.refl _, trivial⟩, ⟨⟨rfl, LeL.refl _⟩, ⟨rfl, LeL.refl _⟩, trivial⟩, List.Sublist.refl _⟩⟩
    refine ifB_t hk ?_
    by_cases hdn : d ≤ t.n
    rotate_left
    · refine ifB_f (show ¬ d ≤ t.n from hdn) ?_
      refine sem_cond (q := false) rfl ?_
      refine sem_of (esc := fun _ => false) tab_ok mixed ?_
      exact ⟨(), (fun h => hdn h.2), ⟨⟨Le.refl _, Le.refl _, Le.refl _, ⟨rfl, rfl⟩, ⟨rfl, rfl⟩, Le.refl _, Le.refl _, trivial⟩, ⟨⟨rfl, LeL.refl _⟩, ⟨rfl, LeL.refl _⟩, trivial⟩, List.Sublist.refl _⟩⟩
    refine ifB_t (show d ≤ t.n from hdn) ?_
    refine sem_cond (q := true) rfl ?_
    have hvn := tmFit_var hfit hk
    obtain ⟨tk, tn, tnm, tls, txs⟩ := t
    simp only [Tm.kind, Tm.n] at hk hdn hvn
    obtain ⟨_, _, rfl, rfl, rfl⟩ := fit_var hfit hk
    subst hk
    rw [bld_inst_var, if_pos hdn] at hyes hno
    have hnn : (Tm.mk 1 tn [] [] []).n = tn := rfl
    refine sem_then ?_
    refine sem_seq (esc := fun _ => false) tab_ok mixed ?_
    refine ⟨in64_of (by first | omega | (dsimp only; omega)) (by first | omega | (dsimp only; omega)), ?_⟩
    by_cases hout : (args.length : Int) ≤ tn - d
    · refine ifB_t hout ?_
      refine sem_cond (q := true) rfl ?_
      rw [if_pos hout] at hyes hno
      have hnd : (Tm.mk 1 (tn - args.length) [] [] []).nodes = 1 := rfl
      rw [hnd] at hyes hno
      have hfin : ∀ q : Bool, q = decide (0 ≤ L - 1) → ∃ r H', Le (.tup [.agg [.i 1, .i (tn - args.length), .str [], .sl .full 0 [], .sl .full 0 []], .b q]) r ∧ List.Sublist H' H1 ∧ Q r H' := fun q hq => by
        have hle : Le (.agg [.i 1, .i (tn - args.length), .str [], .sl .full 0 [], .sl .full 0 []]) (tmX (.mk 1 (tn - args.length) [] [] [])) := Le.agg ⟨Le.refl _, Le.refl _, Le.refl _, Le.nil _ _, Le.nil _ _, trivial⟩
        by_cases hL : 1 ≤ L
        · exact ⟨.tup [tmX (.mk 1 (tn - args.length) [] [] []), .b true], H1, Le.tup ⟨hle, le_of_eq (by rw [hq, decide_eq_true (by omega)]), trivial⟩, List.Sublist.refl _, hyes hL H1 p1⟩
        · exact ⟨.tup [tmX (.mk 1 (tn - args.length) [] [] []), .b false], H1, Le.tup ⟨hle, le_of_eq (by rw [hq, decide_eq_false (by omega)]), trivial⟩, List.Sublist.refl _, hno hL _ H1 _ p1⟩
      refine sem_then ?_
      refine sem_any (P := ⟨Tryz.prog, none, 0⟩) (esc := fun _ => false) tab_ok mixed [0, 1, 2, 3, 4, 5, 6] 4 [(b, .cells [.i (L - 1)])] (by kernel_rfl) (by kernel_rfl) (by kernel_rfl) (pin1 hm1) ?_
      intro K hK
      refine ⟨in64_of (by first | omega | (dsimp only; omega)) (by first | omega | (dsimp only; omega)), ?_⟩
      refine ⟨0, rfl, by decide, ?_⟩
      refine ⟨fun h => ?_, fun i hi => ?_⟩
      · exact absurd (h.symm.trans (show _ = [7, 9] by kernel_rfl)) (fun e => by cases e)
      have hi : i = 7 ∨ i = 9 := by simpa using mem_of_eq (show _ = [7, 9] by kernel_rfl) hi
      rcases hi with rfl | rfl
      · refine ⟨_, List.mem_singleton.2 rfl, ?_⟩
        refine ⟨fun h => ?_, fun i hi => ?_⟩
        · exact absurd (h.symm.trans (show _ = [8, 9] by kernel_rfl)) (fun e => by cases e)
        have hi : i = 8 ∨ i = 9 := by simpa using mem_of_eq (show _ = [8, 9] by kernel_rfl) hi
        rcases hi with rfl | rfl
        · by_cases hL : 0 ≤ L - 1
          · refine ifB_t hL ?_
            refine ⟨fun h => ?_, fun i hi => ?_⟩
            · exact absurd (h.symm.trans (show _ = [9] by kernel_rfl)) (fun e => by cases e)
            obtain rfl : i = 9 := by simpa using mem_of_eq (show _ = [9] by kernel_rfl) hi
            refine ⟨fun h => ?_, fun i hi => ?_⟩
            · exact absurd (h.symm.trans (show _ = [10] by kernel_rfl)) (fun e => by cases e)
            obtain rfl : i = 10 := by simpa using mem_of_eq (show _ = [10] by kernel_rfl) hi
            refine ⟨by kernel_rfl, hK _ ?_⟩
            refine sem_of (esc := fun _ => false) tab_ok mixed ?_
            exact hfin _ (decide_eq_true hL).symm
          · refine ifB_f hL ?_
            refine ⟨fun h => ?_, fun i hi => ?_⟩
            · exact absurd (h.symm.trans (show _ = [9] by kernel_rfl)) (fun e => by cases e)
            obtain rfl : i = 9 := by simpa using mem_of_eq (show _ = [9] by kernel_rfl) hi
            refine ⟨fun h => ?_, fun i hi => ?_⟩
            · exact absurd (h.symm.trans (show _ = [10] by kernel_rfl)) (fun e => by cases e)
            obtain rfl : i = 10 := by simpa using mem_of_eq (show _ = [10] by kernel_rfl) hi
            refine ⟨by kernel_rfl, hK _ ?_⟩
            refine sem_of (esc := fun _ => false) tab_ok mixed ?_
            exact hfin _ (decide_eq_false hL).symm
        · refine ⟨fun h => ?_, fun i hi => ?_⟩
          · exact absurd (h.symm.trans (show _ = [8] by kernel_rfl)) (fun e => by cases e)
          obtain rfl : i = 8 := by simpa using mem_of_eq (show _ = [8] by kernel_rfl) hi
          by_cases hL : 0 ≤ L - 1
          · refine ifB_t hL ?_
            skip
            refine ⟨fun h => ?_, fun i hi => ?_⟩
            · exact absurd (h.symm.trans (show _ = [10] by kernel_rfl)) (fun e => by cases e)
            obtain rfl : i = 10 := by simpa using mem_of_eq (show _ = [10] by kernel_rfl) hi
            refine ⟨by kernel_rfl, hK _ ?_⟩
            refine sem_of (esc := fun _ => false) tab_ok mixed ?_
            exact hfin _ (decide_eq_true hL).symm
          · refine ifB_f hL ?_
            skip
            refine ⟨fun h => ?_, fun i hi => ?_⟩
            · exact absurd (h.symm.trans (show _ = [10] by kernel_rfl)) (fun e => by cases e)
            obtain rfl : i = 10 := by simpa using mem_of_eq (show _ = [10] by kernel_rfl) hi
            refine ⟨by kernel_rfl, hK _ ?_⟩
            refine sem_of (esc := fun _ => false) tab_ok mixed ?_
            exact hfin _ (decide_eq_false hL).symm
      · refine ⟨pin1 hm1, ?_⟩
        refine ⟨fun h => ?_, fun i hi => ?_⟩
        · exact absurd (h.symm.trans (show _ = [7] by kernel_rfl)) (fun e => by cases e)
        obtain rfl : i = 7 := by simpa using mem_of_eq (show _ = [7] by kernel_rfl) hi
        refine ⟨_, List.mem_singleton.2 rfl, ?_⟩
        refine ⟨fun h => ?_, fun i hi => ?_⟩
        · exact absurd (h.symm.trans (show _ = [8] by kernel_rfl)) (fun e => by cases e)
        obtain rfl : i = 8 := by simpa using mem_of_eq (show _ = [8] by kernel_rfl) hi
        by_cases hL : 0 ≤ L - 1
        · refine ifB_t hL ?_
          skip
          refine ⟨fun h => ?_, fun i hi => ?_⟩
          · exact absurd (h.symm.trans (show _ = [10] by kernel_rfl)) (fun e => by cases e)
          obtain rfl : i = 10 := by simpa using mem_of_eq (show _ = [10] by kernel_rfl) hi
          refine ⟨by kernel_rfl, hK _ ?_⟩
          refine sem_of (esc := fun _ => false) tab_ok mixed ?_
          exact hfin _ (decide_eq_true hL).symm
        · refine ifB_f hL ?_
          skip
          refine ⟨fun h => ?_, fun i hi => ?_⟩
          · exact absurd (h.symm.trans (show _ = [10] by kernel_rfl)) (fun e => by cases e)
          obtain rfl : i = 10 := by simpa using mem_of_eq (show _ = [10] by kernel_rfl) hi
          refine ⟨by kernel_rfl, hK _ ?_⟩
          refine sem_of (esc := fun _ => false) tab_ok mixed ?_
          exact hfin _ (decide_eq_false hL).symm
    · refine ifB_f hout ?_
      refine sem_cond (q := false) rfl ?_
      rw [if_neg hout] at hyes hno
      refine sem_of (esc := fun _ => false) tab_ok mixed ?_
      have hkk : args.length - 1 - (tn - d).toNat < args.length := by omega
      obtain ⟨kk, hk2⟩ : ∃ kk, args.length - 1 - (tn - d).toNat = kk := ⟨_, rfl⟩
      rw [hk2] at hkk hyes hno
      rw [List.getD_eq_getElem?_getD, List.getElem?_eq_getElem hkk] at hyes hno
      simp only [Option.getD_some] at hyes hno
      rw [tmLift_nodes] at hyes hno
      have har := hargs _ (List.getElem_mem hkk)
      obtain ⟨a, ha⟩ : ∃ a, args[kk] = a := ⟨_, rfl⟩
      have hget : (args.map tmA)[kk]? = some (tmX a) := by rw [← ha]; exact tmAt' hkk
      rw [ha] at har hyes hno
      have han := (right_fit har).1
      have haf : tmFit 4 a 1125899906842624 = true := (right_fit har).2
      have hpos := a.nodes_pos
      refine sem_seq (esc := fun _ => false) tab_ok mixed ?_
      refine ⟨in64_of (by first | omega | (dsimp only; omega)) (by first | omega | (dsimp only; omega)), ?_⟩
      refine ⟨in64_of (by first | omega | (dsimp only; omega)) (by first | omega | (dsimp only; omega)), ?_⟩
      refine ⟨in64_of (by first | omega | (dsimp only; omega)) (by first | omega | (dsimp only; omega)), ?_⟩
      refine ⟨kk, by omega, _, hget, ?_⟩
      refine sem_le ⟨[(1, .g (.sl o 5 (args.map tmA))), (2, .g (.i d)), (3, .g (hs b 1 1)), (4, .lp 4 0), (8, .lp 8 0), (9, .g (.b false)), (11, .lp 11 0)], [(11, (tmX a).cells), (8, [.i 0, .i 0, .str [], .sl .full 0 [], .sl .full 0 []]), (4, (tmX (.mk 1 tn [] [] [])).cells)], H1⟩ ⟨⟨Le.refl _, Le.refl _, Le.refl _, ⟨rfl, rfl⟩, ⟨rfl, rfl⟩, Le.refl _, ⟨rfl, rfl⟩, trivial⟩, ⟨⟨rfl, LeL.refl _⟩, ⟨rfl, LeL.refl _⟩, ⟨rfl, LeL.refl _⟩, trivial⟩, List.Sublist.refl _⟩ ?_
      obtain ⟨H2, a2, p2⟩ := at_permW (y := .cells [.i (L - 1 - ((a.nodes : Int) - 1))]) p1
      have hm2 : (b, AObj.cells [.i (L - 1 - ((a.nodes : Int) - 1))]) ∈ H2 := p2.mem_iff.2 List.mem_cons_self
      have hnc : Ans Tryz.prog 70 [tmX a, .i 2000] (.i (a.nodes : Nat)) := (ref04Nodes_con 2000 (by decide) _ a (Nat.le_refl _)).to (by rw [Nat.min_eq_left (by omega)])
      refine sem_seq (esc := fun _ => false) tab_ok mixed ?_
      refine ⟨[0, 1, 2, 3, 4, 5, 6, 7, 8], [(b, .cells [.i (L - 1)])], by kernel_rfl, pin1 hm1, ?_⟩
      refine ⟨0, rfl, by decide, ?_⟩
      refine ⟨_, List.mem_singleton.2 rfl, ?_⟩
      refine ⟨_, LeL.refl _, hnc _ _ ?_⟩
      intro hz1 hz2; clear hz1 hz2
      refine ⟨pin1 hm1, ?_⟩
      refine ⟨in64_of (by first | omega | (dsimp only; omega)) (by first | omega | (dsimp only; omega)), ?_⟩
      refine ⟨in64_of (by first | omega | (dsimp only; omega)) (by first | omega | (dsimp only; omega)), ?_⟩
      refine ⟨0, rfl, by decide, ?_⟩
      refine ⟨_, _, a2, Nat.le_refl _, ?_⟩
      refine sem_le ⟨[(1, .g (.sl o 5 (args.map tmA))), (2, .g (.i d)), (3, .g (hs b 1 1)), (4, .lp 4 0), (8, .lp 8 0), (9, .g (.b false)), (11, .lp 11 0)], [(11, (tmX a).cells), (8, [.i 0, .i 0, .str [], .sl .full 0 [], .sl .full 0 []]), (4, (tmX (.mk 1 tn [] [] [])).cells)], H2⟩ ⟨⟨Le.refl _, Le.refl _, Le.refl _, ⟨rfl, rfl⟩, ⟨rfl, rfl⟩, Le.refl _, ⟨rfl, rfl⟩, trivial⟩, ⟨⟨rfl, LeL.refl _⟩, ⟨rfl, LeL.refl _⟩, ⟨rfl, LeL.refl _⟩, trivial⟩, List.Sublist.refl _⟩ ?_
      refine sem_seq (esc := fun _ => false) tab_ok mixed ?_
      refine ⟨0, rfl, by decide, ?_⟩
      refine ⟨_, hm2, ?_⟩
      refine ifB_dec (fun h5 => ?_) (fun h5 => ?_)
      · exact ⟨.tup [tmX tm0, .b false], H2, Le.tup ⟨le_tm0, Le.refl _, trivial⟩, List.Sublist.refl _, hno (by omega) _ H2 _ p2⟩
      refine sem_of (esc := fun _ => false) tab_ok mixed ?_
      refine ⟨_, LeL.refl _, RefLift_con 4 d hd0 (by omega) a.nodes a 0 1125899906842624 (Nat.le_refl _) haf (by omega) (by omega) (by omega) (by omega) _ _ ?_⟩
      intro hz1 hz2; clear hz1 hz2
      have e5 : L - (a.nodes : Int) = L - 1 - ((a.nodes : Int) - 1) := by omega
      exact ⟨.tup [tmX (tmLift d a 0), .b true], H2, Le.refl _, List.Sublist.refl _, hyes (by omega) H2 (by rw [e5]; exact p2)⟩
  have hbe : bld (instF args) t d = .mk t.kind t.n t.name t.levels (bldL (instF args) t.kind t.args 0 d) := by
    rw [bld_eq, show instF args t d = none from if_neg hvar]
  obtain ⟨us, hus⟩ : ∃ us, bldL (instF args) t.kind t.args 0 d = us := ⟨_, rfl⟩
  have husl : us.length = t.args.length := by rw [← hus, bldL_len]
  have hbn : (bld (instF args) t d).nodes = Lv.nodesL t.levels + Tm.nodesL us + 1 := by
    rw [hbe, hus]
    exact (Tm.mk t.kind t.n t.name t.levels us).nodes_eq
  have hnd := t.nodes_eq
  have hll := lvLen_nodes t.levels
  have htl := tmLen_nodes t.args
  have hno0 : ∀ (H2 : Heap) (L2 : Int) (q : Option Cap), ¬((Lv.nodesL t.levels + Tm.nodesL us + 1 : Nat) : Int) ≤ L → H2.Perm (bufH q ((b, .cells [.i L2]) :: X)) → ∃ r H', Le (.tup [.agg [.i 0, .i 0, .str [], .sl .full 0 [], .sl .full 0 []], .b false]) r ∧ List.Sublist H' H2 ∧ Q r H' := fun H2 L2 q hb hp => by
    obtain ⟨H3, s3, w3⟩ := bufH_drop q hp
    exact ⟨.tup [tmX tm0, .b false], H3, Le.tup ⟨le_tm0, Le.refl _, trivial⟩, s3, hno (by rw [hbn]; exact hb) _ H3 _ w3⟩
  have hyes0 : ∀ (H2 : Heap) (L2 : Int) (q : Option Cap) (r0 : AV), Le r0 (.tup [tmX (bld (instF args) t d), .b true]) → ((Lv.nodesL t.levels + Tm.nodesL us + 1 : Nat) : Int) ≤ L → L2 = L - (Lv.nodesL t.levels + Tm.nodesL us + 1 : Nat) → H2.Perm (bufH q ((b, .cells [.i L2]) :: X)) → ∃ r H', Le r0 r ∧ List.Sublist H' H2 ∧ Q r H' := fun H2 L2 q r0 hr hb e hp => by
    obtain ⟨H3, s3, w3⟩ := bufH_drop q hp
    exact ⟨_, H3, hr, s3, hyes (by rw [hbn]; exact hb) H3 (by rw [hbn, ← e]; exact w3)⟩
  clear hyes hno
  refine sem_seq (esc := fun _ => false) tab_ok mixed ?_
  refine sem_seq (esc := fun _ => false) tab_ok mixed ?_
  refine ⟨Option Cap × Nat × Heap, fun p => ⟨[(1, .g (.sl o 5 (args.map tmA))), (2, .g (.i d)), (3, .g (hs b 1 1)), (4, .lp 4 0), (8, .lp 8 0), (9, .g (.b false)), (12, .lp 12 0), (13, .g (.i p.2.1))], [(12, [.i t.kind, .i t.n, .str t.name, .sl (ownQ p.1) 3 ((t.levels.take p.2.1).map lvA), .sl .full 0 []]), (8, [.i 0, .i 0, .str [], .sl .full 0 [], .sl .full 0 []]), (4, (tmX t).cells)], p.2.2⟩,
    fun p => p.2.1 ≤ t.levels.length ∧ p.2.2.Perm (bufH p.1 ((b, .cells [.i (L - 1 - (Lv.nodesL (t.levels.take p.2.1) : Nat))]) :: X)), fun p => t.levels.length - p.2.1, ⟨(none, 0, H1), ⟨Nat.zero_le _, by simpa [Lv.nodesL, bufH] using p1⟩, ?_⟩, ?_⟩
  · exact ⟨⟨Le.refl _, Le.refl _, Le.refl _, ⟨rfl, rfl⟩, ⟨rfl, rfl⟩, Le.refl _, ⟨rfl, rfl⟩, Le.refl _, trivial⟩, ⟨⟨rfl, ⟨Le.refl _, Le.refl _, Le.refl _, Le.nil' _, Le.refl _, trivial⟩⟩, ⟨rfl, LeL.refl _⟩, ⟨rfl, LeL.refl _⟩, trivial⟩, List.Sublist.refl _⟩
  · rintro ⟨q, j, H2⟩ ⟨hj, hp2⟩
    simp only at hj hp2
    refine ifB_dec (fun h1 => ?_) (fun h1 => ?_)
    · simp only [List.length_map] at h1
      have hlt : j < t.levels.length := by omega
      have hmem := Lv.nodesL_mem (List.getElem_mem hlt)
      have hsn2 := nodesL_snoc hlt
      have htk := lvNodesL_take t.levels (j + 1)
      refine ⟨[0, 1, 2, 3, 4, 5, 6, 7, 8, 9, 10, 11], [], by kernel_rfl, by simp, ?_⟩
      refine ⟨j, rfl, _, lvAt hlt, ?_⟩
      refine ⟨_, LeL.refl _, CopyLevel_con _ t.levels[j] (Nat.le_refl _) (by omega) _ _ ?_⟩
      intro hz1 hz2; clear hz1 hz2
      refine ⟨?_, ?_⟩
      · simp only [List.length_map, List.length_cons, List.length_nil]
        try simp only [List.length_take]
        show _ * (40 + 1) ≤ _
        omega
      refine own_ofP (q := q) (X := (b, .cells [.i (L - 1 - (Lv.nodesL (t.levels.take j) : Nat))]) :: X) hp2 rfl (fun _ h => h) (fun c H3 hp3 hc => ?_)
      have hsn : (t.levels.take j).map lvA ++ [lvX t.levels[j]] = (t.levels.take (j + 1)).map lvA := by rw [List.take_succ_eq_append_getElem hlt, List.map_append, ← lvA_eq]; rfl
      have hnext : Le (.sl (.own c) 3 ((t.levels.take j).map lvA ++ [lvX t.levels[j]])) (.sl (ownQ (some c)) 3 ((t.levels.take (j + 1)).map lvA)) := by rw [hsn]; exact Le.refl _
      have hm3 : (b, AObj.cells [.i (L - 1 - (Lv.nodesL (t.levels.take j) : Nat))]) ∈ (c.b, AObj.cap c) :: H3 := List.mem_cons_of_mem _ (hp3.mem_iff.2 List.mem_cons_self)
      have hlc : Ans Tryz.prog 64 [lvX t.levels[j], .i 2000] (.i (t.levels[j].nodes : Nat)) := (LevelNodes_con 2000 (by decide) _ _ (Nat.le_refl _)).to (by rw [Nat.min_eq_left (by omega)])
      obtain ⟨H4, a4, p4⟩ := at_permW (y := .cells [.i (L - 1 - (Lv.nodesL (t.levels.take j) : Nat) - (t.levels[j].nodes : Nat))]) ((hp3.cons (c.b, AObj.cap c)).trans (List.Perm.swap _ _ _))
      refine ⟨[0, 1, 2, 3, 4, 5, 6, 7, 8, 9, 10, 11], [(b, .cells [.i (L - 1 - (Lv.nodesL (t.levels.take j) : Nat))])], by kernel_rfl, pin1 hm3, ?_⟩
      refine ⟨0, rfl, by decide, ?_⟩
      refine ⟨_, List.mem_singleton.2 rfl, ?_⟩
      refine ⟨j, rfl, _, lvAt hlt, ?_⟩
      refine ⟨_, LeL.refl _, hlc _ _ ?_⟩
      intro hz1 hz2; clear hz1 hz2
      refine ⟨pin1 hm3, ?_⟩
      refine ⟨in64_of (by first | omega | (dsimp only; omega)) (by first | omega | (dsimp only; omega)), ?_⟩
      refine ⟨0, rfl, by decide, ?_⟩
      refine ⟨_, _, a4, Nat.le_refl _, ?_⟩
      refine ⟨in64_of (by first | omega | (dsimp only; omega)) (by first | omega | (dsimp only; omega)), ?_⟩
      refine ⟨(some c, j + 1, H4), ⟨(by simp only; omega), ?_⟩, by (try dsimp only); omega, ⟨⟨Le.refl _, Le.refl _, Le.refl _, ⟨rfl, rfl⟩, ⟨rfl, rfl⟩, Le.refl _, ⟨rfl, rfl⟩, Le.refl _, trivial⟩, ⟨⟨rfl, ⟨Le.refl _, Le.refl _, Le.refl _, hnext, Le.refl _, trivial⟩⟩, ⟨rfl, LeL.refl _⟩, ⟨rfl, LeL.refl _⟩, trivial⟩, List.Sublist.refl _⟩⟩
      have e6 : L - 1 - (Lv.nodesL (t.levels.take j) : Nat) - (t.levels[j].nodes : Nat) = L - 1 - (Lv.nodesL (t.levels.take (j + 1)) : Nat) := by omega
      rw [e6] at p4
      exact p4.trans (List.Perm.swap _ _ _)
    · simp only [List.length_map] at h1
      have hj' : t.levels.length = j := by omega
      subst hj'
      rw [List.take_length] at hp2
      have hlv : Le (.sl (ownQ q) 3 ((t.levels.take t.levels.length).map lvA)) (.sl .no 3 (t.levels.map lvA)) := Le.trans (ownQ_le _ _ _) (le_of_eq (by rw [List.take_length]))
      obtain ⟨H5, s5, p5⟩ := bufH_drop q hp2
      clear hp2
      refine sem_le ⟨[(1, .g (.sl o 5 (args.map tmA))), (2, .g (.i d)), (3, .g (hs b 1 1)), (4, .lp 4 0), (8, .lp 8 0), (9, .g (.b false)), (12, .lp 12 0)], [(12, [.i t.kind, .i t.n, .str t.name, .sl .no 3 (t.levels.map lvA), .sl .full 0 []]), (8, [.i 0, .i 0, .str [], .sl .full 0 [], .sl .full 0 []]), (4, (tmX t).cells)], H5⟩ ⟨⟨Le.refl _, Le.refl _, Le.refl _, ⟨rfl, rfl⟩, ⟨rfl, rfl⟩, Le.refl _, ⟨rfl, rfl⟩, trivial⟩, ⟨⟨rfl, ⟨Le.refl _, Le.refl _, Le.refl _, hlv, Le.refl _, trivial⟩⟩, ⟨rfl, LeL.refl _⟩, ⟨rfl, LeL.refl _⟩, trivial⟩, s5⟩ ?_
      obtain ⟨L0, hL0e⟩ : ∃ L0 : Int, L - 1 - (Lv.nodesL t.levels : Nat) = L0 := ⟨_, rfl⟩
      rw [hL0e] at p5
      have hlow : t.args.length ≠ 0 → Lv.nodesL t.levels = 0 := fun h => by
        have := (fit_inner hfit (fun e => h (by rw [e]; rfl))).2.2
        rw [this]
        rfl
      refine sem_seq (esc := fun _ => false) tab_ok mixed ?_
      refine ⟨Option Cap × Nat × Int × Heap, fun p => ⟨[(1, .g (.sl o 5 (args.map tmA))), (2, .g (.i d)), (3, .g (hs b 1 1)), (4, .lp 4 0), (8, .lp 8 0), (9, .g (.b false)), (12, .lp 12 0), (14, .g (.i p.2.1))], [(12, [.i t.kind, .i t.n, .str t.name, .sl .no 3 (t.levels.map lvA), .sl (ownQ p.1) 5 ((us.take p.2.1).map tmA)]), (8, [.i 0, .i 0, .str [], .sl .full 0 [], .sl .full 0 []]), (4, (tmX t).cells)], p.2.2.2⟩,
        fun p => p.2.1 ≤ t.args.length ∧ p.2.2.2.Perm (bufH p.1 ((b, .cells [.i p.2.2.1]) :: X)) ∧ p.2.2.1 = L0 - (Tm.nodesL (us.take p.2.1) : Nat) ∧ (0 < p.2.1 → 0 ≤ p.2.2.1) ∧ tmFitL 4 t.kind (t.args.drop p.2.1) p.2.1 v = true, fun p => t.args.length - p.2.1, ⟨(none, 0, L0, H5), ⟨Nat.zero_le _, p5, by simp [Tm.nodesL], (fun h => absurd h (Nat.lt_irrefl _)), tmFit_argL hfit⟩, ?_⟩, ?_⟩
      · exact ⟨⟨Le.refl _, Le.refl _, Le.refl _, ⟨rfl, rfl⟩, ⟨rfl, rfl⟩, Le.refl _, ⟨rfl, rfl⟩, Le.refl _, trivial⟩, ⟨⟨rfl, ⟨Le.refl _, Le.refl _, Le.refl _, Le.refl _, Le.nil' _, trivial⟩⟩, ⟨rfl, LeL.refl _⟩, ⟨rfl, LeL.refl _⟩, trivial⟩, List.Sublist.refl _⟩
      · rintro ⟨q, j, Lc, H2⟩ ⟨hj, hp2, hLc, hLp, hft⟩
        simp only at hj hp2 hLc hLp hft
        refine ifB_dec (fun h1 => ?_) (fun h1 => ?_)
        · simp only [List.length_map] at h1
          have hlt : j < t.args.length := by omega
          have hmem := Tm.nodesL_mem (List.getElem_mem hlt)
          have hltu : j < us.length := by omega
          have hsnu := tmNodesL_snoc hltu
          have htku := tmNodesL_take us (j + 1)
          rw [tmFitL_at hlt, Bool.and_eq_true] at hft
          have hget : us[j] = bld (instF args) t.args[j] (if tmBind t.kind j = true then d + 1 else d) := by
            have := bldL_get (instF args) t.kind t.args 0 d j hlt
            simp only [hus, Nat.zero_add] at this
            exact this
          have hin := inner06_con t.kind j d hd0 (by omega)
          obtain ⟨e, he⟩ : ∃ e, (if tmBind t.kind j = true then d + 1 else d) = e := ⟨_, rfl⟩
          have hed : 0 ≤ e ∧ e ≤ d + 1 := by rw [← he]; split <;> omega
          rw [he] at hget hin
          have hvv : ∃ w, tmFit 4 t.args[j] w = true ∧ w ≤ v + 1 := by
            refine ⟨_, hft.1, ?_⟩
            split <;> omega
          obtain ⟨w, hw1, hw2⟩ := hvv
          have hLlo : -1000000 + (N : Int) ≤ Lc := by
            have := hlow (by omega)
            by_cases h0 : 0 < j
            · have := hLp h0
              omega
            · have h0 : j = 0 := by omega
              subst h0
              simp [Tm.nodesL] at hLc
              omega
          have hLhi : Lc ≤ 2000 := by omega
          refine ⟨[0, 1, 2, 3, 4, 5, 6, 7, 8, 9, 11, 16, 10, 12, 13, 14, 15, 17, 18], [], by kernel_rfl, by simp, ?_⟩
          refine ⟨j, rfl, _, tmAt' hlt, ?_⟩
          refine ⟨_, LeL.refl _, hin _ _ ?_⟩
          intro hz1 hz2; clear hz1 hz2
          refine ⟨_, LeL.refl _, ih t.args[j] e w Lc b o (bufH q X) _ _ (by omega) (by omega) hw1 (by omega) hed.1 (by omega) hLlo hLhi (hp2.trans (bufH_swap q _ X)) (fun hy H6 p6 => ?_) (fun hn u H6 L6 p6 => ?_)⟩
          · intro hz1 hz2; clear hz1 hz2
            rw [← hget] at hy p6 ⊢
            refine ⟨?_, ?_⟩
            · simp only [List.length_map, List.length_cons, List.length_nil]
              try simp only [List.length_take]
              show _ * (80 + 1) ≤ _
              omega
            refine own_ofP (q := q) (X := (b, .cells [.i (Lc - (us[j].nodes : Nat))]) :: X) (p6.trans (bufH_swap q _ X).symm) rfl (fun _ h => h) (fun c H7 hp7 hc => ?_)
            have hsn : (us.take j).map tmA ++ [tmX us[j]] = (us.take (j + 1)).map tmA := by rw [List.take_succ_eq_append_getElem hltu, List.map_append, ← tmA_eq]; rfl
            have hnext : Le (.sl (.own c) 5 ((us.take j).map tmA ++ [tmX us[j]])) (.sl (ownQ (some c)) 5 ((us.take (j + 1)).map tmA)) := by rw [hsn]; exact Le.refl _
            refine ⟨in64_of (by first | omega | (dsimp only; omega)) (by first | omega | (dsimp only; omega)), ?_⟩
            exact ⟨(some c, j + 1, Lc - (us[j].nodes : Nat), (c.b, .cap c) :: H7), ⟨(by simp only; omega), hp7.cons _, (by simp only; omega), (fun _ => by simp only; omega), hft.2⟩, by (try dsimp only); omega, ⟨⟨Le.refl _, Le.refl _, Le.refl _, ⟨rfl, rfl⟩, ⟨rfl, rfl⟩, Le.refl _, ⟨rfl, rfl⟩, Le.refl _, trivial⟩, ⟨⟨rfl, ⟨Le.refl _, Le.refl _, Le.refl _, Le.refl _, hnext, trivial⟩⟩, ⟨rfl, LeL.refl _⟩, ⟨rfl, LeL.refl _⟩, trivial⟩, List.Sublist.refl _⟩⟩
          · intro hz1 hz2; clear hz1 hz2
            rw [← hget] at hn
            exact hno0 _ L6 q (by omega) (p6.trans (bufH_swap q _ X).symm)
        · simp only [List.length_map] at h1
          have hj' : t.args.length = j := by omega
          have hut : us.take j = us := by rw [← hj', ← husl, List.take_length]
          rw [hut] at hLc
          have hmL : (b, AObj.cells [.i Lc]) ∈ H2 := hp2.mem_iff.2 (((bufH_swap q _ X).mem_iff).2 List.mem_cons_self)
          have hfin : Le (.tup [.agg [.i t.kind, .i t.n, .str t.name, .sl .no 3 (t.levels.map lvA), .sl (ownQ q) 5 ((us.take j).map tmA)], .b true]) (.tup [tmX (bld (instF args) t d), .b true]) := Le.tup ⟨by
            rw [hbe, hus, hut]
            exact Le.agg ⟨Le.refl _, Le.refl _, Le.refl _, Le.refl _, ownQ_le _ _ _, trivial⟩, Le.refl _, trivial⟩
          refine sem_seq (esc := fun _ => false) tab_ok mixed ?_
          refine ⟨0, rfl, by decide, ?_⟩
          refine ⟨_, hmL, ?_⟩
          refine ifB_dec (fun h5 => ?_) (fun h5 => ?_)
          · exact hno0 _ Lc q (by omega) hp2
          refine sem_of (esc := fun _ => false) tab_ok mixed ?_
          exact hyes0 _ Lc q _ hfin (by omega) (by omega) hp2
end Go.Proofs.YtahdkhklngjmoaaGreatDoor

/-
  Whnf, plain: sums and products of numbers come to what they are. No condition.
-/
namespace Go.Proofs.YtahdkhklngjmoaaGreatDoor
open Go.RowKit

/-! what has no loose variable -/
mutual
theorem lift_closed {p c : Int} : ∀ (t : Tm) (d : Int), tmFit p t d = true → tmLift c t d = t
  | .mk k n nm ls xs, d, h => by
    rw [tmLift, liftL_closed k xs 0 d (fit_args h)]
    by_cases h1 : k = 1
    · obtain ⟨_, b, _⟩ := fit_var h h1
      rw [if_neg (fun e => by omega)]
    · rw [if_neg (fun e => h1 e.1)]
theorem liftL_closed {p c : Int} (k : Int) : ∀ (ts : List Tm) (i : Nat) (d : Int), tmFitL p k ts i d = true → tmLiftL c k ts i d = ts
  | [], _, _, _ => rfl
  | t :: ts, i, d, h => by
    obtain ⟨h1, h2⟩ := fitL_cons h
    rw [tmLiftL, lift_closed t _ h1, liftL_closed k ts (i + 1) d h2]
end
mutual
theorem bld_closed {p : Int} {args : List Tm} : ∀ (t : Tm) (d : Int), tmFit p t d = true → bld (instF args) t d = t
  | .mk k n nm ls xs, d, h => by
    by_cases h1 : k = 1
    · obtain ⟨_, b, rfl, rfl, rfl⟩ := fit_var h h1
      subst h1
      rw [bld_inst_var, if_neg (by omega)]
    · rw [bld_inst_other h1, bldL_closed k xs 0 d (fit_args h)]
theorem bldL_closed {p : Int} {args : List Tm} (k : Int) : ∀ (ts : List Tm) (i : Nat) (d : Int), tmFitL p k ts i d = true → bldL (instF args) k ts i d = ts
  | [], _, _, _ => rfl
  | t :: ts, i, d, h => by
    obtain ⟨h1, h2⟩ := fitL_cons h
    rw [bldL, bld_closed t _ h1, bldL_closed k ts (i + 1) d h2]
end
/-- a closed term of so many nodes -/
structure Cl (t : Tm) (s : Nat) : Prop where
  fit : tmFit 4 t 0 = true
  nodes : t.nodes ≤ s
theorem Cl.at {t : Tm} {s : Nat} (h : Cl t s) {d : Int} (hd : 0 ≤ d) : tmFit 4 t d = true := tmFit_mono 4 t 0 d hd h.fit
theorem Cl.bld {t : Tm} {s : Nat} (h : Cl t s) (args : List Tm) {d : Int} (hd : 0 ≤ d) : bld (instF args) t d = t := bld_closed t d (h.at hd)
theorem Cl.lift {t : Tm} {s : Nat} (h : Cl t s) (c : Int) : tmLift c t 0 = t := lift_closed t 0 h.fit
theorem Cl.mono {t : Tm} {s s' : Nat} (h : Cl t s) (k : s ≤ s') : Cl t s' := ⟨h.fit, Nat.le_trans h.nodes k⟩
theorem Cl.right {t : Tm} {s : Nat} (h : Cl t s) (hs : s ≤ 2000) : tmRight 4 1125899906842624 t = true := by
  have := h.nodes
  unfold tmRight
  simp only [Bool.and_eq_true, decide_eq_true_eq]
  exact ⟨⟨⟨⟨by decide, by decide⟩, by decide⟩, by omega⟩, h.at (by decide)⟩

/-! steps and heads, whatever ticks are left behind -/
def StpT (t u : Tm) (c : Nat) : Prop := ∃ k, ∀ m, wStep libL t (m + c + 1) = (.to k u, m)
def HdTo (t w : Tm) (c : Nat) : Prop := ∀ n, wHd libL t (n + c) = (w, 0, n)
theorem HdTo.step {t u w : Tm} {c c' : Nat} (h : StpT t u c) (k : HdTo u w c') : HdTo t w (c' + c + 1) := fun n => by
  obtain ⟨i, h⟩ := h
  have := h (n + c')
  rw [wHd_eq, show n + (c' + c + 1) = n + c' + c + 1 by omega, this]
  exact k n
theorem find_beta (T b a : Tm) (ys : List Tm) (n : Nat) : wFind libL (wHd libL) (tmAps (lamT T b) (a :: ys)) n = (.rx 1 (tmAps (bInst b [a]).1 ys) (bInst b [a]).2, n) := by
  obtain ⟨h1, h2⟩ := app_spine (a :: ys) (lamT T b)
  have hk : ¬((lamT T b).kind = 4 ∧ (lamT T b).args.length = 2) := fun h => absurd (show (5 : Int) = 4 from h.1) (by decide)
  have e1 : tmHead (lamT T b) = lamT T b := (spine_stop hk).1
  have e2 : tmArgs (lamT T b) = [] := (spine_stop hk).2
  rw [e1] at h1
  rw [e2] at h2
  unfold wFind
  rw [h1, h2]
  rfl
theorem Cl.packOk {t : Tm} {s : Nat} (h : Cl t s) (hs : s ≤ 2000) : packOk t = true := by
  have h1 := h.nodes
  have h2 : tmRight 4 1099511627776 t = true := by
    unfold tmRight
    simp only [Bool.and_eq_true, decide_eq_true_eq]
    exact ⟨⟨⟨⟨by decide, by decide⟩, by decide⟩, by omega⟩, h.at (by decide)⟩
  unfold Proofs.YtahdkhklngjmoaaGreatDoor.packOk
  rw [h2, near_fit t 4 0 (by omega) h.fit]
  rfl
/-- a chain of steps, whatever it ends in -/
def Pre (t t' : Tm) (d : Nat) : Prop := ∀ w c, HdTo t' w c → HdTo t w (c + d)
theorem Pre.trans {a b c : Tm} {d e : Nat} (h : Pre a b d) (k : Pre b c e) : Pre a c (e + d) := fun w n hw => by
  have := h w _ (k w n hw)
  rw [show n + (e + d) = n + e + d by omega]
  exact this
theorem StpT.pre {t u : Tm} {c : Nat} (h : StpT t u c) : Pre t u (c + 1) := fun w n hw => hw.step h
/-! a closed term in the place of a variable -/
/-! what comes to a number, in so many ticks -/
def Nv (s : Nat) : Nat → Tm → Nat → Prop
  | 0, t, c => Cl t s ∧ ∃ c1, c1 ≤ c ∧ HdTo t zeroT c1
  | k + 1, t, c => Cl t s ∧ ∃ u c1 c2, c1 + c2 ≤ c ∧ HdTo t (tmAps succT [u]) c1 ∧ Nv s k u c2
theorem Nv.cl {s : Nat} : ∀ {k : Nat} {t : Tm} {c : Nat}, Nv s k t c → Cl t s
  | 0, _, _, h => h.1
  | _ + 1, _, _, h => h.1
theorem Nv.mono {s s' : Nat} (hs : s ≤ s') : ∀ {k : Nat} {t : Tm} {c c' : Nat}, c ≤ c' → Nv s k t c → Nv s' k t c'
  | 0, _, _, _, hc, ⟨h, c1, h1, h2⟩ => ⟨h.mono hs, c1, Nat.le_trans h1 hc, h2⟩
  | _ + 1, _, _, _, hc, ⟨h, u, c1, c2, h1, h2, h3⟩ => ⟨h.mono hs, u, c1, c2, Nat.le_trans h1 hc, h2, h3.mono hs (Nat.le_refl _)⟩
theorem Nv.pre {s : Nat} {t t' : Tm} {d : Nat} (hp : Pre t t' d) (hc : Cl t s) : ∀ {k c : Nat}, Nv s k t' c → Nv s k t (c + d)
  | 0, _, ⟨_, c1, h1, h2⟩ => ⟨hc, c1 + d, by omega, hp _ _ h2⟩
  | _ + 1, _, ⟨_, u, c1, c2, h1, h2, h3⟩ => ⟨hc, u, c1 + d, c2, by omega, hp _ _ h2, h3⟩
end Go.Proofs.YtahdkhklngjmoaaGreatDoor

/-
  Whnf: the reference's Inst; the law of functions applied. No condition.
-/
namespace Go.Proofs.YtahdkhklngjmoaaGreatDoor
open Go.RowKit

set_option maxRecDepth 100000 in
set_option maxHeartbeats 4000000 in
theorem inst06_con (t : Tm) (args : List Tm) (hlen : args.length ≤ 1048576) (H : Heap) (Q : AV → Heap → Prop)
    (hyes : (bInst t args).2 = true → Q (.tup [tmX (bInst t args).1, .b true]) H) (hno : (bInst t args).2 = false → ∀ u, Q (.tup [tmX u, .b false]) H) : Con Tryz.prog 25 [tmX t, .sl .no 5 (args.map tmA)] H Q := by
  have hal : (args.map tmA).length = args.length := List.length_map _
  have no : ¬(tmRight 4 1125899906842624 t = true ∧ args.length ≤ 1048576 ∧ args.all (tmRight 4 1125899906842624) = true) → ∃ r H', Le (.tup [.agg [.i 0, .i 0, .str [], .sl .full 0 [], .sl .full 0 []], .b false]) r ∧ List.Sublist H' H ∧ ∃ H2 : Heap, H2.Perm H' ∧ Q r H2 := fun h =>
    ⟨.tup [tmX tm0, .b false], H, Le.tup ⟨le_tm0, Le.refl _, trivial⟩, List.Sublist.refl _, H, List.Perm.refl _, hno (by unfold bInst; rw [if_neg h]) tm0⟩
  refine Con.permR ?_
  refine con_of_sem tab_ok Tryz.func25 rfl (ent Tryz.func25 (by kernel_rfl) rfl) (by kernel_rfl) ?_
  intro hw hn
  clear hw hn
  refine sem_seq (esc := fun _ => false) tab_ok mixed ?_
  refine sem_seq (esc := fun _ => false) tab_ok mixed ?_
  by_cases h1 : tmRight 4 1125899906842624 t = true
  rotate_left
  · refine ⟨_, LeL.refl _, (ref04Any_con t 4).as (show tmRight 4 1125899906842624 t = false by simpa using h1) _ _ ?_⟩
    intro hz1 hz2; clear hz1 hz2
    exact no (fun h => h1 h.1)
  refine ⟨_, LeL.refl _, (ref04Any_con t 4).as h1 _ _ ?_⟩
  intro hz1 hz2; clear hz1 hz2
  refine sem_seq (esc := fun _ => false) tab_ok mixed ?_
  refine ⟨Nat, fun j => ⟨[(1, .g (.sl .no 5 (args.map tmA))), (2, .lp 2 0), (4, .lp 4 0), (5, .g (.b false)), (6, .g (.i j))], [(4, [.i 0, .i 0, .str [], .sl .full 0 [], .sl .full 0 []]), (2, (tmX t).cells)], H⟩, fun j => j ≤ args.length ∧ ∀ k (h : k < args.length), k < j → tmRight 4 1125899906842624 args[k] = true, fun j => args.length - j, ⟨0, ⟨Nat.zero_le _, fun k h h0 => absurd h0 (Nat.not_lt_zero _)⟩, ?_⟩, ?_⟩
  · exact ⟨⟨Le.refl _, ⟨rfl, rfl⟩, ⟨rfl, rfl⟩, Le.refl _, Le.refl _, trivial⟩, ⟨⟨rfl, LeL.refl _⟩, ⟨rfl, LeL.refl _⟩, trivial⟩, List.Sublist.refl _⟩
  · intro j hj
    refine ifB_dec (fun g1 => ?_) (fun g1 => ?_)
    · simp only [List.length_map] at g1
      have hlt : j < args.length := by omega
      refine ⟨j, rfl, _, tmAt' hlt, ?_⟩
      by_cases h2 : tmRight 4 1125899906842624 args[j] = true
      rotate_left
      · refine ⟨_, LeL.refl _, (ref04Any_con args[j] 4).as (show tmRight 4 1125899906842624 args[j] = false by simpa using h2) _ _ ?_⟩
        intro hz1 hz2; clear hz1 hz2
        exact no (fun h => h2 (List.all_eq_true.1 h.2.2 _ (List.getElem_mem hlt)))
      refine ⟨_, LeL.refl _, (ref04Any_con args[j] 4).as h2 _ _ ?_⟩
      intro hz1 hz2; clear hz1 hz2
      refine ⟨in64_of (by first | omega | (dsimp only; omega)) (by first | omega | (dsimp only; omega)), ?_⟩
      refine ⟨j + 1, ⟨by omega, fun k hk hkj => ?_⟩, by (try dsimp only); omega, ⟨⟨Le.refl _, ⟨rfl, rfl⟩, ⟨rfl, rfl⟩, Le.refl _, Le.refl _, trivial⟩, ⟨⟨rfl, LeL.refl _⟩, ⟨rfl, LeL.refl _⟩, trivial⟩, List.Sublist.refl _⟩⟩
      by_cases hke : k = j
      · subst hke; exact h2
      · exact hj.2 k hk (by omega)
    · simp only [List.length_map] at g1
      have hall : ∀ a ∈ args, tmRight 4 1125899906842624 a = true := fun a ha => by
        obtain ⟨k, hk, rfl⟩ := List.getElem_of_mem ha
        exact hj.2 k hk (by omega)
      have hall2 : args.all (tmRight 4 1125899906842624) = true := List.all_eq_true.2 hall
      have hb : bInst t args = madeB (bld (instF args) t 0) := by unfold bInst; rw [if_pos ⟨h1, hlen, hall2⟩]
      refine sem_seq (esc := fun _ => false) tab_ok mixed ?_
      refine ifB_f (show ¬ (1048576 : Int) < ((args.map tmA).length : Nat) by rw [hal]; omega) ?_
      refine sem_of (esc := [30].contains) tab_ok mixed ?_
      refine ⟨rfl, by decide, by decide, by decide, ?_⟩
      intro b hb0
      have hfit := (right_fit h1).2
      have hpos := t.nodes_pos
      have hn2 := (right_fit h1).1
      refine ⟨_, LeL.refl _, whole06_con args hlen hall t.nodes t 0 1125899906842624 2000 b .no H _ _ (Nat.le_refl _) hn2 hfit (by omega) (by omega) (by omega) (by omega) (by omega) (List.Perm.refl _) (fun hy H2 p2 => ?_) (fun hn u H2 L2 p2 => ?_)⟩
      · intro hz1 hz2; clear hz1 hz2
        have hm : madeB (bld (instF args) t 0) = (bld (instF args) t 0, true) := by unfold madeB; rw [if_pos (by omega)]
        rw [hm] at hb
        obtain ⟨H3, s3, w3⟩ := sub_of_perm (A := [(b, _)]) (X := H) p2
        exact ⟨_, H3, Le.refl _, s3, H, w3, by rw [hb] at hyes; exact hyes rfl⟩
      · intro hz1 hz2; clear hz1 hz2
        have hm : madeB (bld (instF args) t 0) = (tm0, false) := by unfold madeB; rw [if_neg (by omega)]
        rw [hm] at hb
        obtain ⟨H3, s3, w3⟩ := sub_of_perm (A := [(b, _)]) (X := H) p2
        exact ⟨_, H3, Le.refl _, s3, H, w3, by rw [hb] at hno; exact hno rfl u⟩

/-! the steps -/
theorem beta_x (t b a : Tm) (n : Nat) : wStep libL (.mk 4 0 [] [] [lamT t b, a]) (n + 1) = if (bInst b [a]).2 = true then (.to 1 (bInst b [a]).1, n) else (.err 15, n) := by
  unfold wStep
  rw [show Tm.mk 4 0 [] [] [lamT t b, a] = tmAps (lamT t b) [a] from rfl, find_beta]
  show wDone (.rx 1 (bInst b [a]).1 (bInst b [a]).2, n + 1) = _
  unfold wDone
  simp only
  by_cases h : (bInst b [a]).2 = true
  · rw [if_pos ⟨h, bInst_nodes _ _⟩, if_pos h]
  · rw [if_neg (fun e => h e.1), if_neg h]
theorem zeta_x (t b a : Tm) (n : Nat) : wStep libL (.mk 7 0 [] [] [t, a, b]) (n + 1) = if (bInst b [a]).2 = true then (.to 2 (bInst b [a]).1, n) else (.err 15, n) := by
  unfold wStep
  show wDone (.rx 2 (bInst b [a]).1 (bInst b [a]).2, n + 1) = _
  unfold wDone
  simp only
  by_cases h : (bInst b [a]).2 = true
  · rw [if_pos ⟨h, bInst_nodes _ _⟩, if_pos h]
  · rw [if_neg (fun e => h e.1), if_neg h]
theorem pack_let {t b a : Tm} (h : packOk (.mk 4 0 [] [] [lamT t b, a]) = true) : packOk (.mk 7 0 [] [] [t, a, b]) = true := by
  unfold packOk tmRight at h ⊢
  simp only [Bool.and_eq_true, decide_eq_true_eq] at h ⊢
  obtain ⟨⟨⟨_, h1⟩, h2⟩, h3⟩ := h
  have e1 : (Tm.mk 4 0 [] [] [lamT t b, a]).nodes = t.nodes + b.nodes + a.nodes + 2 := by
    unfold lamT
    simp only [Tm.nodes, Tm.nodesL, Lv.nodesL]
    omega
  have e2 : (Tm.mk 7 0 [] [] [t, a, b]).nodes = t.nodes + a.nodes + b.nodes + 1 := by
    simp only [Tm.nodes, Tm.nodesL, Lv.nodesL]
    omega
  refine ⟨⟨⟨⟨⟨by decide, by decide⟩, by decide⟩, by omega⟩, ?_⟩, ?_⟩
  · rw [fit_pair (Or.inl rfl), if_pos rfl] at h2
    unfold lamT at h2
    rw [fit_pair (Or.inr (Or.inl rfl)), if_neg (by decide)] at h2
    simp only [Bool.and_eq_true] at h2
    obtain ⟨⟨k1, k2⟩, k3⟩ := h2
    rw [tmFit, tmFitL, tmFitL, tmFitL, tmFitL]
    rw [show (if tmBind 7 0 = true then min (1099511627776 : Int) 1125899906842624 + 1 else min 1099511627776 1125899906842624) = min 1099511627776 1125899906842624 from rfl, show (if tmBind 7 (0 + 1) = true then min (1099511627776 : Int) 1125899906842624 + 1 else min 1099511627776 1125899906842624) = min 1099511627776 1125899906842624 from rfl, show (if tmBind 7 (0 + 1 + 1) = true then min (1099511627776 : Int) 1125899906842624 + 1 else min 1099511627776 1125899906842624) = min 1099511627776 1125899906842624 + 1 from rfl, k1, k2, k3]
    rfl
  · unfold lamT at h3
    simp only [tmNear, tmNearL, Bool.and_eq_true, Bool.and_true] at h3 ⊢
    exact ⟨rfl, h3.2.1.2.1, h3.2.2, h3.2.1.2.2⟩
theorem three_tm5 (a b c : Tm) : Le (.sl .full 5 [tmX a, tmX b, tmX c]) (.sl .no 5 ([a, b, c].map tmA)) := Le.trans (Le.own _ _ _) (le_of_eq (by
  show AV.sl .no 5 [tmX a, tmX b, tmX c] = .sl .no 5 [tmA a, tmA b, tmA c]
  rw [tmA_eq, tmA_eq, tmA_eq]))
set_option maxRecDepth 100000 in
set_option maxHeartbeats 4000000 in
theorem whnfBetas_con (t b a : Tm) : Ans Tryz.prog 6 [tmX t, tmX b, tmX a] (.b true) := by
  intro H Q hq
  obtain ⟨hp, ha⟩ := runs_ok lib_adds
  obtain ⟨te, hte⟩ : ∃ te, treL libL = te := ⟨_, rfl⟩
  rw [hte] at hp
  refine Con.permR ?_
  refine con_of_sem tab_ok Tryz.func6 rfl (ent Tryz.func6 (by kernel_rfl) rfl) (by kernel_rfl) ?_
  intro hw hn
  clear hw hn
  refine sem_seq (esc := fun _ => false) tab_ok mixed ?_
  refine sem_seq (esc := fun _ => false) tab_ok mixed ?_
  refine ⟨_, LeL.refl _, alive13_con _ _ ?_⟩
  intro hz1 hz2; clear hz1 hz2
  refine sem_seq (esc := fun _ => false) tab_ok mixed ?_
  refine ⟨[0, 1, 2, 3, 4, 5, 6, 7, 8, 9, 10, 11, 12, 13, 14, 15, 17, 16, 18, 19, 20, 21], [], ord_fast (by kernel_rfl), by simp, ?_⟩
  refine ⟨[.sl .full 19 (([] : List En).map enX), tmX t], ⟨Le.nil' _, Le.refl _, trivial⟩, small13_con .full [] t H _ fun q hs => ?_⟩
  intro hz1 hz2; clear hz1 hz2
  cases q with
  | false =>
    exact ⟨_, H, Le.refl _, List.Sublist.refl _, H, List.Perm.refl _, hq⟩
  | true =>
    clear hs
    refine ⟨[.sl .full 19 (([] : List En).map enX), tmX b], ⟨Le.nil' _, Le.refl _, trivial⟩, small13_con .full [] b H _ fun q hs => ?_⟩
    intro hz1 hz2; clear hz1 hz2
    cases q with
    | false =>
      exact ⟨_, H, Le.refl _, List.Sublist.refl _, H, List.Perm.refl _, hq⟩
    | true =>
      clear hs
      refine ⟨[.sl .full 19 (([] : List En).map enX), tmX a], ⟨Le.nil' _, Le.refl _, trivial⟩, small13_con .full [] a H _ fun q hs => ?_⟩
      intro hz1 hz2; clear hz1 hz2
      cases q with
      | false =>
        exact ⟨_, H, Le.refl _, List.Sublist.refl _, H, List.Perm.refl _, hq⟩
      | true =>
        clear hs
        refine ⟨_, LeL.refl _, lamL13_con t b _ _ ?_⟩
        intro hz1 hz2; clear hz1 hz2
        refine ⟨_, LeL.refl _, appL13_con (lamT t b) a _ _ ?_⟩
        intro hz1 hz2; clear hz1 hz2
        cases hpk : packOk (.mk 4 0 [] [] [lamT t b, a]) with
        | false =>
          refine ⟨_, LeL.refl _, (ref08Right_con _).as hpk _ _ ?_⟩
          intro hz1 hz2; clear hz1 hz2
          exact ⟨_, H, Le.refl _, List.Sublist.refl _, H, List.Perm.refl _, hq⟩
        | true =>
          refine ⟨_, LeL.refl _, (ref08Right_con _).as hpk _ _ ?_⟩
          intro hz1 hz2; clear hz1 hz2
          have hpl := pack_let hpk
          refine sem_seq (esc := fun _ => false) tab_ok mixed ?_
          refine ⟨_, LeL.refl _, lib_con _ _ ?_⟩
          intro hz1 hz2; clear hz1 hz2
          refine ⟨[ensX libL, .i ((10 : Nat) : Int)], LeL.refl _, run13_con libL 10 (by decide) (by decide) (fun _ rb H1 hH1 => ?_) (fun h => absurd lib_adds h)⟩
          rw [hte] at hH1
          replace hH1 : HasW rb (envX te libL) 0 ((10 : Nat) : Int) H H1 := hH1
          intro hz1 hz2; clear hz1 hz2
          refine sem_le ⟨[(3, .lp 3 0), (4, .lp 4 0), (5, .lp 5 0), (7, .g (.ptr rb 0))], [(5, (tmX a).cells), (4, (tmX b).cells), (3, (tmX t).cells)], H1⟩ ⟨⟨⟨rfl, rfl⟩, ⟨rfl, rfl⟩, ⟨rfl, rfl⟩, Le.refl _, trivial⟩, ⟨⟨rfl, LeL.refl _⟩, ⟨rfl, LeL.refl _⟩, ⟨rfl, LeL.refl _⟩, trivial⟩, List.Sublist.refl _⟩ ?_
          refine sem_seq (esc := fun _ => false) tab_ok mixed ?_
          refine sem_seq (esc := fun _ => false) tab_ok mixed ?_
          have b1 := beta_x t b a 9
          have z1 := zeta_x t b a 8
          refine ⟨[tmX b, .sl .no 5 ([a].map tmA)], ⟨Le.refl _, one_tm5 a, trivial⟩, inst06_con b [a] (show 1 ≤ 1048576 by decide) H1 _ (fun hy => ?_) (fun hn u => ?_)⟩
          · intro hz1 hz2; clear hz1 hz2
            rw [if_pos hy] at b1 z1
            obtain ⟨u, hu⟩ : ∃ u, (bInst b [a]).1 = u := ⟨_, rfl⟩
            rw [hu] at b1 z1
            refine sem_le ⟨[(3, .lp 3 0), (4, .lp 4 0), (5, .lp 5 0), (7, .g (.ptr rb 0)), (8, .lp 8 0), (9, .g (.b true))], [(8, (tmX u).cells), (5, (tmX a).cells), (4, (tmX b).cells), (3, (tmX t).cells)], H1⟩ ⟨⟨⟨rfl, rfl⟩, ⟨rfl, rfl⟩, ⟨rfl, rfl⟩, Le.refl _, ⟨rfl, rfl⟩, Le.refl _, trivial⟩, ⟨⟨rfl, by rw [← hu]; exact LeL.refl _⟩, ⟨rfl, LeL.refl _⟩, ⟨rfl, LeL.refl _⟩, ⟨rfl, LeL.refl _⟩, trivial⟩, List.Sublist.refl _⟩ ?_
            clear hu hy
            refine sem_le ⟨[(3, .lp 3 0), (4, .lp 4 0), (5, .lp 5 0), (7, .g (.ptr rb 0)), (8, .lp 8 0), (9, .g (.b true))], [(8, (tmX u).cells), (5, (tmX a).cells), (4, (tmX b).cells), (3, (tmX t).cells)], H1⟩ ⟨⟨⟨rfl, rfl⟩, ⟨rfl, rfl⟩, ⟨rfl, rfl⟩, Le.refl _, ⟨rfl, rfl⟩, Le.refl _, trivial⟩, ⟨⟨rfl, LeL.refl _⟩, ⟨rfl, LeL.refl _⟩, ⟨rfl, LeL.refl _⟩, ⟨rfl, LeL.refl _⟩, trivial⟩, List.Sublist.refl _⟩ ?_
            refine sem_seq (esc := fun _ => false) tab_ok mixed ?_
            refine ⟨[0, 1, 2, 4, 11, 3, 5, 6, 7, 8, 9, 10, 12, 13, 14], [], ord_fast (by kernel_rfl), by simp, ?_⟩
            refine ⟨_, LeL.refl _, lamL13_con t b _ _ ?_⟩
            intro hz1 hz2; clear hz1 hz2
            refine ⟨_, LeL.refl _, appL13_con (lamT t b) a _ _ ?_⟩
            intro hz1 hz2; clear hz1 hz2
            have hs1 := fun (Q : AV → Heap → Prop) => wStep_con (Q := Q) hp ha (.mk 4 0 [] [] [lamT t b, a]) (n := 10) (by decide) (by decide) hH1 (fun h => by rw [hpk] at h; cases h)
            rw [b1] at hs1
            refine ⟨_, LeL.refl _, hs1 _ fun _ H2 hH2 => ?_⟩
            replace hH2 : HasW rb (envX te libL) 1 (9 : Nat) H H2 := hH2.to rfl rfl
            intro hz1 hz2; clear hz1 hz2
            refine sem_le ⟨[(3, .lp 3 0), (4, .lp 4 0), (5, .lp 5 0), (7, .g (.ptr rb 0)), (8, .lp 8 0), (9, .g (.b true)), (10, .lp 10 0), (11, .g (.i 1)), (12, .g (.i 0))], [(10, (tmX u).cells), (8, (tmX u).cells), (5, (tmX a).cells), (4, (tmX b).cells), (3, (tmX t).cells)], H2⟩ ⟨⟨⟨rfl, rfl⟩, ⟨rfl, rfl⟩, ⟨rfl, rfl⟩, Le.refl _, ⟨rfl, rfl⟩, Le.refl _, ⟨rfl, rfl⟩, Le.refl _, Le.refl _, trivial⟩, ⟨⟨rfl, LeL.refl _⟩, ⟨rfl, LeL.refl _⟩, ⟨rfl, LeL.refl _⟩, ⟨rfl, LeL.refl _⟩, ⟨rfl, LeL.refl _⟩, trivial⟩, List.Sublist.refl _⟩ ?_
            have hs2 := fun (Q : AV → Heap → Prop) => wStep_con (Q := Q) hp ha (.mk 7 0 [] [] [t, a, b]) (n := 9) (by decide) (by decide) hH2 (fun h => by rw [hpl] at h; cases h)
            rw [z1] at hs2
            have hle : Le (.agg [.i 7, .i 0, .str [], .sl .full 0 [], .sl .full 5 [tmX t, tmX a, tmX b]]) (tmX (.mk 7 0 [] [] [t, a, b])) := Le.agg ⟨Le.refl _, Le.refl _, Le.refl _, Le.nil _ _, three_tm5 _ _ _, trivial⟩
            refine sem_seq (esc := fun _ => false) tab_ok mixed ?_
            refine ⟨[.ptr rb 0, tmX (.mk 7 0 [] [] [t, a, b])], ⟨Le.refl _, hle, trivial⟩, hs2 _ fun _ H3 hH3 => ?_⟩
            replace hH3 : HasW rb (envX te libL) 2 (8 : Nat) H H3 := hH3.to rfl rfl
            intro hz1 hz2; clear hz1 hz2
            refine sem_le ⟨[(7, .g (.ptr rb 0)), (8, .lp 8 0), (9, .g (.b true)), (10, .lp 10 0), (11, .g (.i 1)), (12, .g (.i 0)), (13, .lp 13 0), (14, .g (.i 2)), (15, .g (.i 0))], [(13, (tmX u).cells), (10, (tmX u).cells), (8, (tmX u).cells), (5, (tmX a).cells), (4, (tmX b).cells), (3, (tmX t).cells)], H3⟩ ⟨⟨Le.refl _, ⟨rfl, rfl⟩, Le.refl _, ⟨rfl, rfl⟩, Le.refl _, Le.refl _, ⟨rfl, rfl⟩, Le.refl _, Le.refl _, trivial⟩, ⟨⟨rfl, LeL.refl _⟩, ⟨rfl, LeL.refl _⟩, ⟨rfl, LeL.refl _⟩, ⟨rfl, LeL.refl _⟩, ⟨rfl, LeL.refl _⟩, ⟨rfl, LeL.refl _⟩, trivial⟩, List.Sublist.refl _⟩ ?_
            have fin : ∃ r H', Le (.b true) r ∧ List.Sublist H' H3 ∧ ∃ H5 : Heap, H5.Perm H' ∧ Q r H5 := by
              obtain ⟨H5, s5, w5⟩ := HasW.all (G := []) (X := H) hH3
              exact ⟨_, H5, Le.refl _, s5, H, w5, hq⟩
            refine sem_seq (esc := fun _ => false) tab_ok mixed ?_
            refine sem_of (esc := fun _ => false) tab_ok mixed ?_
            refine ⟨[tmX u, tmX u], LeL.refl _, (SameTerm_con _ _ _ (Nat.le_refl _)).as (sameT u) _ _ ?_⟩
            intro hz1 hz2; clear hz1 hz2
            refine ⟨[tmX u, tmX u], LeL.refl _, (SameTerm_con _ _ _ (Nat.le_refl _)).as (sameT u) _ _ ?_⟩
            intro hz1 hz2; clear hz1 hz2
            refine ⟨_, LeL.refl _, wUsed_con hH3 ?_⟩
            intro hz1 hz2; clear hz1 hz2
            exact fin
          · intro hz1 hz2; clear hz1 hz2
            rw [if_neg (by rw [hn]; decide)] at b1 z1
            refine sem_le ⟨[(3, .lp 3 0), (4, .lp 4 0), (5, .lp 5 0), (7, .g (.ptr rb 0)), (8, .lp 8 0), (9, .g (.b false))], [(8, (tmX u).cells), (5, (tmX a).cells), (4, (tmX b).cells), (3, (tmX t).cells)], H1⟩ ⟨⟨⟨rfl, rfl⟩, ⟨rfl, rfl⟩, ⟨rfl, rfl⟩, Le.refl _, ⟨rfl, rfl⟩, Le.refl _, trivial⟩, ⟨⟨rfl, LeL.refl _⟩, ⟨rfl, LeL.refl _⟩, ⟨rfl, LeL.refl _⟩, ⟨rfl, LeL.refl _⟩, trivial⟩, List.Sublist.refl _⟩ ?_
            refine sem_seq (esc := fun _ => false) tab_ok mixed ?_
            refine ⟨[0, 1, 2, 4, 11, 3, 5, 6, 7, 8, 9, 10, 12, 13, 14], [], ord_fast (by kernel_rfl), by simp, ?_⟩
            refine ⟨_, LeL.refl _, lamL13_con t b _ _ ?_⟩
            intro hz1 hz2; clear hz1 hz2
            refine ⟨_, LeL.refl _, appL13_con (lamT t b) a _ _ ?_⟩
            intro hz1 hz2; clear hz1 hz2
            have hs1 := fun (Q : AV → Heap → Prop) => wStep_con (Q := Q) hp ha (.mk 4 0 [] [] [lamT t b, a]) (n := 10) (by decide) (by decide) hH1 (fun h => by rw [hpk] at h; cases h)
            rw [b1] at hs1
            refine ⟨_, LeL.refl _, hs1 _ fun _ H2 hH2 => ?_⟩
            replace hH2 : HasW rb (envX te libL) 1 (9 : Nat) H H2 := hH2.to rfl rfl
            intro hz1 hz2; clear hz1 hz2
            refine sem_le ⟨[(3, .lp 3 0), (4, .lp 4 0), (5, .lp 5 0), (7, .g (.ptr rb 0)), (8, .lp 8 0), (9, .g (.b false)), (10, .lp 10 0), (11, .g (.i 0)), (12, .g (.i 15))], [(10, (tmX tm0).cells), (8, (tmX u).cells), (5, (tmX a).cells), (4, (tmX b).cells), (3, (tmX t).cells)], H2⟩ ⟨⟨⟨rfl, rfl⟩, ⟨rfl, rfl⟩, ⟨rfl, rfl⟩, Le.refl _, ⟨rfl, rfl⟩, Le.refl _, ⟨rfl, rfl⟩, Le.refl _, Le.refl _, trivial⟩, ⟨⟨rfl, LeL.refl _⟩, ⟨rfl, LeL.refl _⟩, ⟨rfl, LeL.refl _⟩, ⟨rfl, LeL.refl _⟩, ⟨rfl, LeL.refl _⟩, trivial⟩, List.Sublist.refl _⟩ ?_
            have hs2 := fun (Q : AV → Heap → Prop) => wStep_con (Q := Q) hp ha (.mk 7 0 [] [] [t, a, b]) (n := 9) (by decide) (by decide) hH2 (fun h => by rw [hpl] at h; cases h)
            rw [z1] at hs2
            have hle : Le (.agg [.i 7, .i 0, .str [], .sl .full 0 [], .sl .full 5 [tmX t, tmX a, tmX b]]) (tmX (.mk 7 0 [] [] [t, a, b])) := Le.agg ⟨Le.refl _, Le.refl _, Le.refl _, Le.nil _ _, three_tm5 _ _ _, trivial⟩
            refine sem_seq (esc := fun _ => false) tab_ok mixed ?_
            refine ⟨[.ptr rb 0, tmX (.mk 7 0 [] [] [t, a, b])], ⟨Le.refl _, hle, trivial⟩, hs2 _ fun _ H3 hH3 => ?_⟩
            replace hH3 : HasW rb (envX te libL) 2 (8 : Nat) H H3 := hH3.to rfl rfl
            intro hz1 hz2; clear hz1 hz2
            refine sem_le ⟨[(7, .g (.ptr rb 0)), (8, .lp 8 0), (9, .g (.b false)), (10, .lp 10 0), (11, .g (.i 0)), (12, .g (.i 15)), (13, .lp 13 0), (14, .g (.i 0)), (15, .g (.i 15))], [(13, (tmX tm0).cells), (10, (tmX tm0).cells), (8, (tmX u).cells), (5, (tmX a).cells), (4, (tmX b).cells), (3, (tmX t).cells)], H3⟩ ⟨⟨Le.refl _, ⟨rfl, rfl⟩, Le.refl _, ⟨rfl, rfl⟩, Le.refl _, Le.refl _, ⟨rfl, rfl⟩, Le.refl _, Le.refl _, trivial⟩, ⟨⟨rfl, LeL.refl _⟩, ⟨rfl, LeL.refl _⟩, ⟨rfl, LeL.refl _⟩, ⟨rfl, LeL.refl _⟩, ⟨rfl, LeL.refl _⟩, ⟨rfl, LeL.refl _⟩, trivial⟩, List.Sublist.refl _⟩ ?_
            have fin : ∃ r H', Le (.b true) r ∧ List.Sublist H' H3 ∧ ∃ H5 : Heap, H5.Perm H' ∧ Q r H5 := by
              obtain ⟨H5, s5, w5⟩ := HasW.all (G := []) (X := H) hH3
              exact ⟨_, H5, Le.refl _, s5, H, w5, hq⟩
            refine sem_seq (esc := fun _ => false) tab_ok mixed ?_
            exact fin
end Go.Proofs.YtahdkhklngjmoaaGreatDoor

