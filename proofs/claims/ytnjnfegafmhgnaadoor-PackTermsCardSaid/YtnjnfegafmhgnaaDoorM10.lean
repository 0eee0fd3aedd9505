/-
  Texts put together: G13. No condition.
-/
import Derived.Test.YtnjnfegafmhgnaaDoorM9
/-
  PackTerms: the law's walk. No condition.
-/
namespace Go.Proofs.YtnjnfegafmhgnaaDoor
open Go.RowKit

set_option maxRecDepth 100000 in
theorem packTerm_no {l : Tm} {H : Heap} {Q : AV → Heap → Prop} (h : packOk l = false) (hq : Q (.tup [.sl .full 0 [], .b false]) H) : Con Tryd.prog 28 [tmX l] H Q :=
  packTerm_con l H Q (fun _ => hq) fun h0 => by rw [h] at h0; cases h0
set_option maxRecDepth 100000 in
theorem tmBig_at (most : Nat) (hm : most ≤ 1099511627776) (l : Tm) (H : Heap) (Q : AV → Heap → Prop) (hq : ∀ m : Int, (m ≤ most → l.big ≤ most) → Q (.i m) H) : Con Tryd.prog 35 [tmX l, .i most] H Q :=
  tmBig_con most hm _ l (Nat.le_refl _) H Q (hq _ (by omega))
theorem tmB_ne (t : Tm) : tmB t ≠ [] := fun h => by
  have h1 := enc_pos t.kind.toNat
  have h2 := congrArg List.length h
  rw [tmB_eq] at h2
  simp only [List.length_append, List.length_nil] at h2
  omega
theorem tmB_small {t : Tm} (h : packOk t = true) : (tmB t).length ≤ 128000 := by
  obtain ⟨h1, h2⟩ := packOk_pok h
  have := tmB_len t h1
  omega

set_option maxRecDepth 100000 in
set_option maxHeartbeats 1000000 in
theorem packTerms_con (a b : Tm) : Ans Tryd.prog 7 [tmX a, tmX b] (.b true) := by
  intro H Q hq
  have hna := big_nodes a
  have hnb := big_nodes b
  have hx : Le (.agg [.i 4, .i 0, .str [], .sl .full 0 [], .sl .full 5 [tmX a, tmX b]]) (tmX (tmApp a b)) :=
    Le.agg ⟨Le.refl _, Le.refl _, Le.refl _, Le.nil _ _, Le.trans (Le.own _ _ _) (le_of_eq (by simp [tmApp, Tm.args, tmA_eq])), trivial⟩
  refine con_of_awp (esc := fun _ => false) tab_ok mixed Tryd.func7 rfl (ent Tryd.func7 (by kernel_rfl) rfl) (by kernel_rfl) ?_
  intro hw hn
  have fin : ∃ r H', Le (.b true) r ∧ List.Sublist H' H ∧ Q r H' := ⟨_, H, Le.refl _, List.Sublist.refl _, hq⟩
  refine ⟨_, LeL.refl _, alive8_con _ _ ?_⟩
  intro hz1 hz2; clear hz1 hz2
  refine ⟨[tmX a, .i (600 : Nat)], LeL.refl _, tmBig_at 600 (by decide) a _ _ fun m1 hm1 => ?_⟩
  intro hz1 hz2; clear hz1 hz2
  refine ifB_dec (fun h1 => ?_) (fun h1 => ?_)
  · exact fin
  · refine ⟨[tmX b, .i (600 : Nat)], LeL.refl _, tmBig_at 600 (by decide) b _ _ fun m2 hm2 => ?_⟩
    intro hz1 hz2; clear hz1 hz2
    refine aText_at ⟨[(18, .g (.i m2)), (17, .g (tmX b)), (16, .g (.b false)), (15, .g (.b false)), (14, .g (.i m1)), (13, .g (tmX a)), (12, .g (.b false)), (11, .g (.b true)), (4, .g (.b false)), (3, .lp 3 0), (2, .lp 2 0), (0, .g (tmX a)), (1, .g (tmX b))], [(3, (tmX b).cells), (2, (tmX a).cells)], H⟩ (by kernel_rfl) ?_
    refine aText_cmp ((600 : Int) < m2) (fun _ _ h => h) rfl (fun K a b => ifB_dec a b) (fun h2 => ?_) (fun h2 => ?_)
    · exact fin
    · have happ := app_ok (a := a) (b := b) (by omega) (by omega)
      have hbytes := app_bytes a b
      by_cases ha : packOk a = true
      · have hla := tmB_small ha
        have hea := tmB_ne a
        refine ⟨_, LeL.refl _, packTerm_yes ha fun c1 hc1 => ?_⟩
        intro hz1 hz2; clear hz1 hz2
        by_cases hb : packOk b = true
        · have hlb := tmB_small hb
          have heb := tmB_ne b
          refine ⟨_, LeL.refl _, packTerm_yes hb fun c2 hc2 => ?_⟩
          intro hz1 hz2; clear hz1 hz2
          rw [ha, hb] at happ
          refine ⟨[tmX (tmApp a b)], ⟨hx, trivial⟩, packTerm_yes happ fun c3 hc3 => ?_⟩
          intro hz1 hz2; clear hz1 hz2
          refine ⟨?_, ifNil_or (fun h => absurd (by simpa using h) hea) (fun _ => fun c4 hc4 => ?_)⟩
          · simp only [List.length_map, List.length_cons, List.length_nil]
            show _ * (1 + 1) ≤ _
            omega
          refine ⟨?_, ifNil_or (fun h => absurd (by simpa using h) heb) (fun _ => ⟨_, Heap.Rem.here, fun c5 hc5 => ?_⟩)⟩
          · simp only [List.length_map, List.length_cons, List.length_nil, List.length_append]
            show _ * (1 + 1) ≤ _
            omega
          refine ⟨[.sl (.own c3) 1 ((tmB (tmApp a b)).map byteV), .sl (.own c5) 1 ((4 :: (tmB a ++ tmB b)).map byteV)], ⟨Le.refl _, le_of_eq ?_, trivial⟩, ?_⟩
          · show AV.sl _ _ _ = AV.sl _ _ _
            rw [show ((4 :: (tmB a ++ tmB b) : List UInt8).map byteV) = [AV.v (.int .u8 4)] ++ (tmB a).map byteV ++ (tmB b).map byteV by simp [byteV]]
            rfl
          refine (SameBytes_con (tmB (tmApp a b)) (4 :: (tmB a ++ tmB b))).as (decide_eq_true hbytes) _ _ ?_
          intro hz1 hz2; clear hz1 hz2
          exact ⟨_, H, Le.refl _, .cons _ (.cons _ (.cons _ (.cons _ (List.Sublist.refl _)))), hq⟩
        · rw [Bool.not_eq_true] at hb
          refine ⟨_, LeL.refl _, packTerm_no hb ?_⟩
          intro hz1 hz2; clear hz1 hz2
          rw [ha, hb] at happ
          refine ⟨[tmX (tmApp a b)], ⟨hx, trivial⟩, packTerm_no happ ?_⟩
          intro hz1 hz2; clear hz1 hz2
          exact ⟨_, H, Le.refl _, .cons _ (List.Sublist.refl _), hq⟩
      · rw [Bool.not_eq_true] at ha
        refine ⟨_, LeL.refl _, packTerm_no ha ?_⟩
        intro hz1 hz2; clear hz1 hz2
        rw [ha, Bool.false_and] at happ
        by_cases hb : packOk b = true
        · refine ⟨_, LeL.refl _, packTerm_yes hb fun c2 hc2 => ?_⟩
          intro hz1 hz2; clear hz1 hz2
          refine ⟨[tmX (tmApp a b)], ⟨hx, trivial⟩, packTerm_no happ ?_⟩
          intro hz1 hz2; clear hz1 hz2
          exact ⟨_, H, Le.refl _, .cons _ (List.Sublist.refl _), hq⟩
        · rw [Bool.not_eq_true] at hb
          refine ⟨_, LeL.refl _, packTerm_no hb ?_⟩
          intro hz1 hz2; clear hz1 hz2
          refine ⟨[tmX (tmApp a b)], ⟨hx, trivial⟩, packTerm_no happ ?_⟩
          intro hz1 hz2; clear hz1 hz2
          exact ⟨_, H, Le.refl _, List.Sublist.refl _, hq⟩
end Go.Proofs.YtnjnfegafmhgnaaDoor
