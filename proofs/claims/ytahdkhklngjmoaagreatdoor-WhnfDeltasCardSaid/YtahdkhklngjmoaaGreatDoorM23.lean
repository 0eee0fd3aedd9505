/-
  Texts put together: I26, I27. No condition.
-/
import Derived.Test.YtahdkhklngjmoaaGreatDoorM21
import Derived.Test.YtahdkhklngjmoaaGreatDoorM22
/-
  Whnf, plain: a definition's step. No condition.
-/
namespace Go.Proofs.YtahdkhklngjmoaaGreatDoor
open Go.RowKit

mutual
theorem lvInst0 : ∀ l : Lv, lvFit 0 l = true → lvInst [] l = l
  | .mk k m xs, h => by
    rw [lvFit, Bool.and_eq_true] at h
    rw [lvInst]
    by_cases hk : k = 2
    · exfalso
      have h1 := h.1
      unfold lvNode at h1
      subst hk
      simp at h1
      omega
    · rw [if_neg hk, lvInstL0 xs h.2]
theorem lvInstL0 : ∀ ls : List Lv, lvFitL 0 ls = true → lvInstL [] ls = ls
  | [], _ => rfl
  | l :: ls, h => by
    rw [lvFitL, Bool.and_eq_true] at h
    rw [lvInstL, lvInst0 l h.1, lvInstL0 ls h.2]
end
theorem lvInstOk0 {l : Lv} (h : lvInstOk [] l = true) : lvInst [] l = l := by
  unfold lvInstOk lvRight at h
  simp only [Bool.and_eq_true] at h
  exact lvInst0 l h.1.1.2
theorem lvInstAll0 : ∀ ls : List Lv, ls.all (lvInstOk []) = true → lvInstL [] ls = ls
  | [], _ => rfl
  | l :: ls, h => by
    rw [List.all_cons, Bool.and_eq_true] at h
    rw [lvInstL, lvInstOk0 h.1, lvInstAll0 ls h.2]
mutual
theorem tmInst0 : ∀ (t u : Tm), tmInst [] t = some u → u = t
  | .mk k m nm ls xs, u, h => by
    rw [tmInst] at h
    split at h
    · rename_i hall
      cases hx : tmInstL [] xs with
      | none => rw [hx] at h; cases h
      | some bs =>
        rw [hx] at h
        cases h
        rw [tmInstL0 xs bs hx, lvInstAll0 ls hall]
    · cases h
theorem tmInstL0 : ∀ (ts us : List Tm), tmInstL [] ts = some us → us = ts
  | [], us, h => by
    rw [tmInstL] at h
    cases h
    rfl
  | t :: ts, us, h => by
    rw [tmInstL] at h
    cases hx : tmInst [] t with
    | none => rw [hx] at h; cases h
    | some u =>
      rw [hx] at h
      simp only at h
      cases hy : tmInstL [] ts with
      | none => rw [hy] at h; cases h
      | some us' =>
        rw [hy] at h
        cases h
        rw [tmInst0 t u hx, tmInstL0 ts us' hy]
end
theorem enValue0 {e : En} {u : Tm} (h : enValue e [] = (u, 0)) : u = e.value := by
  unfold enValue at h
  split at h
  · split at h
    · unfold enAt at h
      split at h
      · simp at h
      · split at h
        · rename_i w hw
          cases h
          unfold tmAt at hw
          split at hw
          · split at hw
            · cases hw
            · rename_i x hx
              split at hw
              · cases hw
                exact tmInst0 _ _ hx
              · cases hw
          · cases hw
        · simp at h
    · simp at h
  · simp at h
def xT : Tm := conT [120] []
theorem get_x (e : En) (h : e.name = [120]) : envGet (libL ++ [e]) [120] = (e, true) := by
  unfold envGet
  rw [List.find?_append, show libL.find? (fun e => decide (e.name = [120])) = none from by kernel_rfl]
  simp [List.find?, h]
theorem step_x (e : En) (h : e.name = [120]) (hp : e.params = 0) (hk : e.kind ≠ 7) (a : Tm) : (e.kind ≠ 2 → wStep (libL ++ [e]) (.mk 4 0 [] [] [xT, a]) 10 = (.none, 10)) ∧ (e.kind = 2 → wStep (libL ++ [e]) (.mk 4 0 [] [] [xT, a]) 10 = (.err 15, 9) ∨ wStep (libL ++ [e]) (.mk 4 0 [] [] [xT, a]) 10 = (.to 3 (.mk 4 0 [] [] [e.value, a]), 9)) := by
  have hg := get_x e h
  have hf : wFind (libL ++ [e]) (wHd (libL ++ [e])) (.mk 4 0 [] [] [xT, a]) 10 = wConst (libL ++ [e]) (wHd (libL ++ [e])) xT [a] 10 := rfl
  have hc : wConst (libL ++ [e]) (wHd (libL ++ [e])) xT [a] 10 = if e.kind = 2 then (.rx 3 (tmAps (enValue e []).1 [a]) (decide ((enValue e []).2 = 0)), 10) else (.none, 10) := by
    unfold wConst
    rw [show xT.name = [120] from rfl, show xT.levels = [] from rfl, hg]
    rw [if_pos ⟨rfl, by rw [hp]; rfl⟩]
    simp only
    rw [if_neg hk]
  unfold wStep
  rw [hf, hc]
  refine ⟨fun h2 => by rw [if_neg h2]; rfl, fun h2 => ?_⟩
  rw [if_pos h2]
  obtain ⟨⟨u, er⟩, hu⟩ : ∃ p, enValue e [] = p := ⟨_, rfl⟩
  rw [hu]
  show wDone (.rx 3 (tmAps u [a]) (decide (er = 0)), 9 + 1) = _ ∨ wDone (.rx 3 (tmAps u [a]) (decide (er = 0)), 9 + 1) = _
  rw [wDone]
  by_cases h3 : decide (er = 0) = true ∧ (tmAps u [a]).nodes ≤ 2000
  · rw [if_pos h3]
    have h0 : er = 0 := of_decide_eq_true h3.1
    subst h0
    rw [enValue0 hu]
    exact Or.inr rfl
  · rw [if_neg h3]
    exact Or.inl rfl
end Go.Proofs.YtahdkhklngjmoaaGreatDoor

/-
  Whnf: the law of definitions. No condition.
-/
namespace Go.Proofs.YtahdkhklngjmoaaGreatDoor
open Go.RowKit

def xE (k h : Int) (v : Tm) : En := ⟨k, 0, [120], natT, v, h, [], 0, 0, 0, []⟩
set_option maxRecDepth 100000 in
set_option maxHeartbeats 4000000 in
theorem whnfDeltas_con (v a : Tm) (k : Int) : Ans Tryz.prog 7 [tmX v, tmX a, .i k] (.b true) := by
  intro H Q hq
  refine Con.permR ?_
  refine con_of_sem tab_ok Tryz.func7 rfl (ent Tryz.func7 (by kernel_rfl) rfl) (by kernel_rfl) ?_
  intro hw hn
  clear hw hn
  refine sem_seq (esc := fun _ => false) tab_ok mixed ?_
  refine sem_seq (esc := fun _ => false) tab_ok mixed ?_
  refine ⟨_, LeL.refl _, alive13_con _ _ ?_⟩
  intro hz1 hz2; clear hz1 hz2
  refine sem_seq (esc := fun _ => false) tab_ok mixed ?_
  refine ⟨[.sl .full 19 (([] : List En).map enX), tmX v], ⟨Le.nil' _, Le.refl _, trivial⟩, small13_con .full [] v H _ fun q hs => ?_⟩
  intro hz1 hz2; clear hz1 hz2
  cases q with
  | false =>
    exact ⟨_, _, Le.refl _, List.Sublist.refl _, H, List.Perm.refl _, hq⟩
  | true =>
    clear hs
    refine ⟨[.sl .full 19 (([] : List En).map enX), tmX a], ⟨Le.nil' _, Le.refl _, trivial⟩, small13_con .full [] a H _ fun q hs => ?_⟩
    intro hz1 hz2; clear hz1 hz2
    cases q with
    | false =>
      exact ⟨_, _, Le.refl _, List.Sublist.refl _, H, List.Perm.refl _, hq⟩
    | true =>
      clear hs
      refine ifB_dec (fun g1 => ?_) (fun g1 => ?_)
      · exact ⟨_, _, Le.refl _, List.Sublist.refl _, H, List.Perm.refl _, hq⟩
      refine ifB_dec (fun g2 => ?_) (fun g2 => ?_)
      · exact ⟨_, _, Le.refl _, List.Sublist.refl _, H, List.Perm.refl _, hq⟩
      refine sem_seq (esc := fun _ => false) tab_ok mixed ?_
      refine ⟨[0, 2, 4, 1, 3, 5], [], by kernel_rfl, by simp, ?_⟩
      refine ⟨_, LeL.refl _, constantL13_con [110, 97, 116] _ _ ?_⟩
      intro hz1 hz2; clear hz1 hz2
      refine sem_le ⟨[(2, .g (.i k)), (3, .lp 3 0), (4, .lp 4 0), (7, .lp 7 0)], [(7, (enX (xE k 0 v)).cells), (4, (tmX a).cells), (3, (tmX v).cells)], H⟩ ⟨⟨Le.refl _, ⟨rfl, rfl⟩, ⟨rfl, rfl⟩, ⟨rfl, rfl⟩, trivial⟩, ⟨⟨rfl, ⟨Le.refl _, Le.refl _, Le.refl _, Le.refl _, Le.refl _, Le.refl _, Le.refl _, Le.refl _, Le.refl _, Le.refl _, Le.refl _, Le.refl _, Le.refl _, Le.refl _, Le.refl _, Le.refl _, Le.refl _, Le.refl _, Le.nil _ _, trivial⟩⟩, ⟨rfl, LeL.refl _⟩, ⟨rfl, LeL.refl _⟩, trivial⟩, List.Sublist.refl _⟩ ?_
      refine sem_join (esc := fun _ => false) tab_ok mixed (X := Tm) (fun w => ⟨[(2, .g (.i k)), (3, .lp 3 0), (4, .lp 4 0), (7, .lp 7 0)], [(7, (enX (xE k 0 w)).cells), (4, (tmX a).cells), (3, (tmX v).cells)], H⟩) (fun w => k = 2 → w = v) ?_ (fun w hwv => ?_)
      · refine ifB_dec (fun g3 => ?_) (fun g3 => ?_)
        · refine ⟨tm0, fun h => by omega, ?_⟩
          exact ⟨⟨Le.refl _, ⟨rfl, rfl⟩, ⟨rfl, rfl⟩, ⟨rfl, rfl⟩, trivial⟩, ⟨⟨rfl, ⟨Le.refl _, Le.refl _, Le.refl _, Le.refl _, Le.refl _, Le.refl _, Le.refl _, Le.refl _, Le.refl _, Le.refl _, Le.refl _, Le.nil _ _, Le.nil _ _, Le.refl _, Le.refl _, Le.refl _, Le.refl _, Le.refl _, Le.refl _, trivial⟩⟩, ⟨rfl, LeL.refl _⟩, ⟨rfl, LeL.refl _⟩, trivial⟩, List.Sublist.refl _⟩
        · exact ⟨v, fun _ => rfl, ⟨⟨Le.refl _, ⟨rfl, rfl⟩, ⟨rfl, rfl⟩, ⟨rfl, rfl⟩, trivial⟩, ⟨⟨rfl, LeL.refl _⟩, ⟨rfl, LeL.refl _⟩, ⟨rfl, LeL.refl _⟩, trivial⟩, List.Sublist.refl _⟩⟩
      refine sem_join (esc := fun _ => false) tab_ok mixed (X := Int) (fun h => ⟨[(2, .g (.i k)), (3, .lp 3 0), (4, .lp 4 0), (7, .lp 7 0)], [(7, (enX (xE k h w)).cells), (4, (tmX a).cells), (3, (tmX v).cells)], H⟩) (fun _ => True) ?_ (fun h _ => ?_)
      · refine ifB_dec (fun g3 => ?_) (fun g3 => ?_)
        · exact ⟨3, trivial, ⟨⟨Le.refl _, ⟨rfl, rfl⟩, ⟨rfl, rfl⟩, ⟨rfl, rfl⟩, trivial⟩, ⟨⟨rfl, LeL.refl _⟩, ⟨rfl, LeL.refl _⟩, ⟨rfl, LeL.refl _⟩, trivial⟩, List.Sublist.refl _⟩⟩
        · exact ⟨0, trivial, ⟨⟨Le.refl _, ⟨rfl, rfl⟩, ⟨rfl, rfl⟩, ⟨rfl, rfl⟩, trivial⟩, ⟨⟨rfl, LeL.refl _⟩, ⟨rfl, LeL.refl _⟩, ⟨rfl, LeL.refl _⟩, trivial⟩, List.Sublist.refl _⟩⟩
      obtain ⟨e, he⟩ : ∃ e, xE k h w = e := ⟨_, rfl⟩
      have hst := step_x (xE k h w) rfl rfl (by show k ≠ 7; omega) a
      have hev : (xE k h w).value = w := rfl
      have hek : (xE k h w).kind = k := rfl
      rw [hev, hek] at hst
      rw [he] at hst ⊢
      clear hev hek he
      refine sem_seq (esc := fun _ => false) tab_ok mixed ?_
      refine ⟨[1, 2, 0, 3, 4, 5], [], by kernel_rfl, by simp, ?_⟩
      refine ⟨_, LeL.refl _, lib_full_con _ _ ?_⟩
      intro hz1 hz2; clear hz1 hz2
      refine ⟨(by show (_ + 1) * (264 + 1) ≤ 140737488355328; decide), ?_⟩
      refine ifNil_or (fun h => absurd h (by simp)) fun _ => ?_
      intro c hc
      have hle : Le (.sl (.own c) 19 (libL.map enX ++ [enX e])) (ensX (libL ++ [e])) := Le.trans (Le.own _ _ _) (le_of_eq (by rw [ensX, List.map_append]; rfl))
      refine ⟨[ensX (libL ++ [e]), .i (10 : Nat)], ⟨hle, Le.refl _, trivial⟩, run13_con (libL ++ [e]) 10 (by decide) (by rw [List.length_append]; show 7 + 1 ≤ 100000; decide) (fun h0 rb H1 hH1 => ?_) (fun h0 => ?_)⟩
      rotate_left
      · intro hz1 hz2; clear hz1 hz2
        refine sem_seq (esc := fun _ => false) tab_ok mixed ?_
        exact ⟨_, _, Le.refl _, List.sublist_cons_self _ _, H, List.Perm.refl _, hq⟩
      obtain ⟨hp, ha⟩ := runs_ok h0
      obtain ⟨te, hte⟩ : ∃ te, treL (libL ++ [e]) = te := ⟨_, rfl⟩
      rw [hte] at hp hH1
      replace hH1 : HasW rb (envX te (libL ++ [e])) 0 (10 : Nat) ([(c.b, .cap c)] ++ H) H1 := hH1
      intro hz1 hz2; clear hz1 hz2
      refine sem_le ⟨[(2, .g (.i k)), (3, .lp 3 0), (4, .lp 4 0), (8, .g (.ptr rb 0))], [(4, (tmX a).cells), (3, (tmX v).cells)], H1⟩ ⟨⟨Le.refl _, ⟨rfl, rfl⟩, ⟨rfl, rfl⟩, Le.refl _, trivial⟩, ⟨⟨rfl, LeL.refl _⟩, ⟨rfl, LeL.refl _⟩, trivial⟩, List.Sublist.refl _⟩ ?_
      refine sem_seq (esc := fun _ => false) tab_ok mixed ?_
      refine sem_seq (esc := fun _ => false) tab_ok mixed ?_
      refine ⟨[1, 3, 0, 2, 4], [], by kernel_rfl, by simp, ?_⟩
      refine ⟨_, LeL.refl _, constantL13_con [120] _ _ ?_⟩
      intro hz1 hz2; clear hz1 hz2
      refine ⟨_, LeL.refl _, appL13_con xT a _ _ ?_⟩
      intro hz1 hz2; clear hz1 hz2
      obtain ⟨tt, htt⟩ : ∃ tt, Tm.mk 4 0 [] [] [xT, a] = tt := ⟨_, rfl⟩
      refine sem_le ⟨[(2, .g (.i k)), (3, .lp 3 0), (4, .lp 4 0), (8, .g (.ptr rb 0)), (9, .lp 9 0)], [(9, (tmX tt).cells), (4, (tmX a).cells), (3, (tmX v).cells)], H1⟩ ⟨⟨Le.refl _, ⟨rfl, rfl⟩, ⟨rfl, rfl⟩, Le.refl _, ⟨rfl, rfl⟩, trivial⟩, ⟨⟨rfl, by rw [← htt]; exact LeL.refl _⟩, ⟨rfl, LeL.refl _⟩, ⟨rfl, LeL.refl _⟩, trivial⟩, List.Sublist.refl _⟩ ?_
      rw [htt] at hst
      clear htt
      have fin : ∀ (u l : Int) (H2 : Heap), HasW rb (envX te (libL ++ [e])) u l ([(c.b, .cap c)] ++ H) H2 → ∃ r H', Le (.b true) r ∧ List.Sublist H' H2 ∧ ∃ H5 : Heap, H5.Perm H' ∧ Q r H5 := fun u l H2 hH2 => by
        obtain ⟨H5, s5, w5⟩ := HasW.all (G := [(c.b, .cap c)]) (X := H) hH2
        exact ⟨_, H5, Le.refl _, s5, H, w5, hq⟩
      refine sem_seq (esc := fun _ => false) tab_ok mixed ?_
      cases hpk : packOk tt with
      | false =>
        refine ⟨_, LeL.refl _, (ref08Right_con tt).as hpk _ _ ?_⟩
        intro hz1 hz2; clear hz1 hz2
        exact fin _ _ H1 hH1
      | true =>
        refine ⟨_, LeL.refl _, (ref08Right_con tt).as hpk _ _ ?_⟩
        intro hz1 hz2; clear hz1 hz2
        refine sem_seq (esc := fun _ => false) tab_ok mixed ?_
        have hs1 := fun (Q : AV → Heap → Prop) => wStep_con (Q := Q) hp ha tt (n := 10) (by decide) (by decide) hH1 (fun h => by rw [hpk] at h; cases h)
        by_cases hk2 : k = 2
        · have hwv := hwv hk2
          subst hwv
          rcases hst.2 hk2 with h1 | h1
          · rw [h1] at hs1
            refine ⟨_, LeL.refl _, hs1 _ fun _ H2 hH2 => ?_⟩
            replace hH2 : HasW rb (envX te (libL ++ [e])) 1 (9 : Nat) ([(c.b, .cap c)] ++ H) H2 := hH2.to rfl rfl
            intro hz1 hz2; clear hz1 hz2
            refine sem_seq (esc := fun _ => false) tab_ok mixed ?_
            refine ifB_t hk2 ?_
            refine sem_seq (esc := fun _ => false) tab_ok mixed ?_
            refine ⟨[0, 1, 2, 3, 4, 5, 6, 7, 8, 9, 10, 11, 12, 13, 14, 15, 16, 17, 18, 19, 20, 21, 22], [], ord_fast (by kernel_rfl), by simp, ?_⟩
            refine sem_of (esc := fun _ => false) tab_ok mixed ?_
            exact fin _ _ H2 hH2
          · rw [h1] at hs1
            refine ⟨_, LeL.refl _, hs1 _ fun _ H2 hH2 => ?_⟩
            replace hH2 : HasW rb (envX te (libL ++ [e])) 1 (9 : Nat) ([(c.b, .cap c)] ++ H) H2 := hH2.to rfl rfl
            intro hz1 hz2; clear hz1 hz2
            refine sem_seq (esc := fun _ => false) tab_ok mixed ?_
            refine ifB_t hk2 ?_
            refine sem_seq (esc := fun _ => false) tab_ok mixed ?_
            refine ⟨[0, 1, 2, 3, 4, 5, 6, 7, 8, 9, 10, 11, 12, 13, 14, 15, 16, 17, 18, 19, 20, 21, 22], [], ord_fast (by kernel_rfl), by simp, ?_⟩
            refine ⟨_, LeL.refl _, appL13_con w a _ _ ?_⟩
            intro hz1 hz2; clear hz1 hz2
            refine ⟨[tmX (.mk 4 0 [] [] [w, a]), tmX (.mk 4 0 [] [] [w, a])], LeL.refl _, (SameTerm_con _ _ _ (Nat.le_refl _)).as (sameT _) _ _ ?_⟩
            intro hz1 hz2; clear hz1 hz2
            refine ⟨_, LeL.refl _, wUsed_con hH2 ?_⟩
            intro hz1 hz2; clear hz1 hz2
            refine sem_of (esc := fun _ => false) tab_ok mixed ?_
            exact fin _ _ H2 hH2
        · rw [hst.1 hk2] at hs1
          refine ⟨_, LeL.refl _, hs1 _ fun _ H2 hH2 => ?_⟩
          replace hH2 : HasW rb (envX te (libL ++ [e])) 0 (10 : Nat) ([(c.b, .cap c)] ++ H) H2 := hH2.to rfl rfl
          intro hz1 hz2; clear hz1 hz2
          refine sem_seq (esc := fun _ => false) tab_ok mixed ?_
          refine ifB_f hk2 ?_
          refine ⟨[tmX tt, tmX tt], LeL.refl _, (SameTerm_con _ _ _ (Nat.le_refl _)).as (sameT tt) _ _ ?_⟩
          intro hz1 hz2; clear hz1 hz2
          refine ⟨_, LeL.refl _, wUsed_con hH2 ?_⟩
          intro hz1 hz2; clear hz1 hz2
          exact fin _ _ H2 hH2
end Go.Proofs.YtahdkhklngjmoaaGreatDoor

