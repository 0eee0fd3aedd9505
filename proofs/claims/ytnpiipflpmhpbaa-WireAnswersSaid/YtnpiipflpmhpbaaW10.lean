import Derived.Test.YtnpiipflpmhpbaaOpen
namespace Go.Proofs.Ytnpiipflpmhpbaa
open Go.RowKit

theorem len_eq {α : Type} {a b : List α} (h : a = b) : a.length = b.length := by rw [h]
theorem sameL_refl {a b : List UInt8} (h : a = b) : sameL a b = true := by subst h; simp [sameL]
theorem bel_app {w0 w w' : World} {base e s : Nat} {v v' : Value} {n m : Nat} {xs ys : List Value} (hB : Below w0.heap.size w0 w) (h : App w w' base e s v v' m ys) (ho : w.ownsRow base e s v n xs) (hb : w0.heap.size ≤ base) : Below w0.heap.size w0 w' :=
  hB.trans (h.below ho hb hB.size)

/-- the last part of WireOne, from the world w on -/
theorem own.base {w0 w w' : World} {e s n : Nat} {v : Value} {xs : List Value} (h : w'.ownsRow (w.heap.size + 1) e s v n xs) (hB : Below w0.heap.size w0 w) : w'.ownsRow w0.heap.size e s v n xs :=
  own.mono h (by have := hB.size; omega)

set_option maxRecDepth 100000 in
set_option maxHeartbeats 8000000 in
theorem wone_any (w0 : World) (v : Value) (l : List UInt8) (hv : rdB w0.heap.size w0 v l) : Calls Try.prog 5 #[v] w0 (TruePost w0) := by
  have hv' := hv
  obtain ⟨a, cap, rfl, h2, h3, h4, h5⟩ := hv.cells
  clear h5 h4 hv
  by_cases hg : 3000 < l.length
  · go_enter Try.func5, Try.ntmps5
    go_wp2_with fail
    refine (alive_any _).mono ?_
    rintro e w1 ⟨rfl, hB1⟩
    go_wp2
    go_ret
    exact ⟨rfl, hB1⟩
  · go_enter Try.func5, Try.ntmps5
    go_wp2_with fail
    refine (alive_any _).mono ?_
    rintro e w1 ⟨rfl, hB1⟩
    go_wp2_with fail
    refine (Num_any w1 _ w1.heap.size _ l (rd.below hv' hB1) (Nat.le_refl _) (by omega)).mono ?_
    generalize hq : numR l = q
    have HQ := Lib.hid hq
    unfold NumRPost
    rw [hq]
    clear hq
    obtain ⟨n, r, ok⟩ := q
    cases ok
    case' false =>
      rintro e w4 ⟨v2, rfl, hN2, hB2⟩
      have hB4 := Below.next hB1 hB2 (Nat.le_refl _)
      clear hN2 hB2 hB1
      go_wp2_with fail
    case' true =>
      rintro e w2 ⟨v2, rfl, hN2, hB2⟩
      obtain ⟨hok, henc⟩ := numR_enc HQ.out
      have HOK := Lib.hid hok
      have hlen := len_eq henc
      rw [List.length_append] at hlen
      have HENC := Lib.hid henc
      have hB02 := Below.next hB1 hB2 (Nat.le_refl _)
      have hr2 := hN2.1
      clear hN2 hB2 hB1 hok henc
      go_wp2_with fail
      refine (Nums1 w2 n).mono ?_
      rintro e w3 ⟨v3, rfl, hO3, hB3⟩
      rw [nums1_ok HOK.out] at hO3 ⊢
      rw [Int.toNat_natCast] at hO3
      have hr3 := rd.below hr2 (Below.after hB3)
      have hB03 := Below.next hB02 (Below.after hB3) (Nat.le_refl _)
      have hO3 := own.base hO3 hB02
      clear hB3 hr2 hB02
      go_wp2_with (refine stp 30 ?_)
      intro _
      refine wpList_app rfl (.tmp 28) (.tmp 29) 24 rfl el24 rfl hO3 rfl hr3 (bvs_one r) (maxLen_ge (by omega)) (by omega) hB03.size fun v' w4 hA => ?_
      have hO4 := rdB.own (ownB.app hA)
      rw [HENC.out] at hO4
      have hB04 := bel_app hB03 hA hO3 (Nat.le_refl _)
      clear hA hO3 hr3 hB03
      go_wp2_with fail
      refine (sameB_bel _ _ _ _ _ _ _ hO4 (rd.below hv' hB04)).mono ?_
      rintro e w5 ⟨rfl, hB5⟩
      rw [sameL_refl rfl]
      have hB4 := Below.next hB04 hB5 (Nat.le_refl _)
      clear hB5 hB04 hO4 HQ HOK HENC hlen
      go_wp2_with fail
    all_goals
      refine (Text_any _ _ _ _ l (rd.below hv' hB4) (Nat.le_refl _) (by omega)).mono ?_
      generalize hq : textR l = q
      have HQ := Lib.hid hq
      unfold TextRPost
      rw [hq]
      clear hq
      obtain ⟨s, r, ok⟩ := q
      cases ok
      case' false =>
        rintro e w8 ⟨v6, rfl, hN6, hB6⟩
        have hB8 := Below.next hB4 hB6 (Nat.le_refl _)
        clear hN6 hB6 hB4
        go_wp2_with fail
      case' true =>
        rintro e w6 ⟨v6, rfl, hN6, hB6⟩
        have henc := textR_enc HQ.out
        have hlen := len_eq henc
        rw [List.length_append] at hlen
        have HENC := Lib.hid henc
        have hB06 := Below.next hB4 hB6 (Nat.le_refl _)
        have hr6 := hN6.1
        clear hN6 hB6 hB4 henc
        go_wp2_with fail
        refine (Texts_any _ (w6.heap.size + 1) _ [s] (by simp) (rdT.lit w6 [s] (by simp)) (by omega)).mono ?_
        rintro e w7 ⟨v7, rfl, hO7, hB7⟩
        have hr7 := rd.below hr6 (Below.after hB7)
        have hB07 := Below.next hB06 (Below.after hB7) (Nat.le_refl _)
        have hO7 := own.base hO7 hB06
        clear hB7 hr6 hB06
        go_wp2_with (refine stp 46 ?_)
        intro _
        refine wpList_app rfl (.tmp 44) (.tmp 45) 24 rfl el24 rfl hO7 rfl hr7 (bvs_one r) (maxLen_ge (by omega)) (by omega) hB07.size fun v' w9 hA => ?_
        have hO9 := rdB.own (ownB.app hA)
        rw [HENC.out] at hO9
        have hB09 := bel_app hB07 hA hO7 (Nat.le_refl _)
        clear hA hO7 hr7 hB07
        go_wp2_with fail
        refine (sameB_bel _ _ _ _ _ _ _ hO9 (rd.below hv' hB09)).mono ?_
        rintro e w10 ⟨rfl, hB10⟩
        rw [sameL_refl rfl]
        have hB8 := Below.next hB09 hB10 (Nat.le_refl _)
        clear hB10 hB09 hO9 HENC hlen
        go_wp2_with fail
      all_goals
        refine (Take_any _ _ _ _ l 3000 (rd.below hv' hB8) (Nat.le_refl _) (by omega)).mono ?_
        generalize hq' : takeR l 3000 = q'
        have HQ' := Lib.hid hq'
        unfold TakePost
        rw [hq']
        clear hq'
        obtain ⟨ss, r', ok⟩ := q'
        cases ok
        case' false =>
          rintro e w11 ⟨u11, v11, rfl, hT11, hN11, hB11⟩
          have hB := Below.next hB8 hB11 (Nat.le_refl _)
          clear hT11 hN11 hB11 hB8
          go_wp2
          go_ret
          exact ⟨rfl, hB⟩
        case' true =>
          rintro e w11 ⟨u11, v11, rfl, hT11, hN11, hB11⟩
          have henc := takeR_enc HQ'.out
          have hlen := len_eq henc
          rw [List.length_append, List.length_append] at hlen
          have HENC := Lib.hid henc
          have hB011 := Below.next hB8 hB11 (Nat.le_refl _)
          clear hB11 hB8 henc
          go_wp2_with fail
          refine (List_any _ _ _ ss (Nat.le_refl _) hT11 (by omega)).mono ?_
          rintro e w12 ⟨v12, rfl, hO12, hB12⟩
          have hr12 := rd.below hN11 hB12
          have hB012 := Below.next hB011 hB12 (Nat.le_refl _)
          have hO12 := own.mono hO12 hB011.size
          clear hB12 hN11 hB011 hT11
          go_wp2_with (refine stp 63 ?_)
          intro _
          refine wpList_app rfl (.tmp 61) (.tmp 62) 24 rfl el24 rfl hO12 rfl hr12 (bvs_one r') (maxLen_ge (by rw [List.length_append]; omega)) (by rw [List.length_append]; omega) hB012.size fun v' w13 hA => ?_
          have hO13 := rdB.own (ownB.app hA)
          rw [HENC.out] at hO13
          have hB013 := bel_app hB012 hA hO12 (Nat.le_refl _)
          clear hA hO12 hr12 hB012
          go_wp2_with fail
          refine (sameB_bel _ _ _ _ _ _ _ hO13 (rd.below hv' hB013)).mono ?_
          rintro e w14 ⟨rfl, hB14⟩
          rw [sameL_refl rfl]
          have hB := Below.next hB013 hB14 (Nat.le_refl _)
          go_wp2
          go_ret
          exact ⟨rfl, hB⟩
end Go.Proofs.Ytnpiipflpmhpbaa
