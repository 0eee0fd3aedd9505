import Derived.Test.YtnpiipflpmhpbaaW12
namespace Go.Proofs.Ytnpiipflpmhpbaa
open Go.RowKit

theorem hno (b : Bool) : ¬ (some undef = some (Value.bool b)) := by intro h; cases h

theorem refNums1 (w : World) (z : Int) : Calls Try.prog 12 #[.slice (some ⟨w.heap.size, 0, none⟩) 1 1] (w.alloc (.cells #[.int .i64 z] 3)) (NumsPost [z] (w.heap.size + 1) (w.alloc (.cells #[.int .i64 z] 3))) :=
  refNums_any _ (w.heap.size + 1) _ [z] (by simp) (rd.lit w [.int .i64 z] 3 1 1 rfl (maxLen_ge (by omega))) (by simp)

/-- so many readings at once -/
def allB (w : World) (L : List (Value × List UInt8)) : Prop := ∀ p ∈ L, rdB w.heap.size w p.1 p.2
theorem allB.step {w w' : World} {L : List (Value × List UInt8)} (h : allB w L) (hB : Below w.heap.size w w') : allB w' L := fun p hp => (h p hp).step hB
theorem allB.cons {w : World} {L : List (Value × List UInt8)} {v : Value} {l : List UInt8} (h : allB w L) (hr : rdB w.heap.size w v l) : allB w ((v, l) :: L) := fun p hp => by
  rcases List.mem_cons.1 hp with rfl | hp
  · exact hr
  · exact h p hp
theorem allB.nil (w : World) : allB w [] := fun p hp => by cases hp

set_option maxRecDepth 100000 in
set_option maxHeartbeats 16000000 in
theorem wans_any (w0 : World) (t u v : Value) (zs : List Int) (ss : List (List UInt8)) (l : List UInt8) (most n : Int) (ht : rdI w0.heap.size w0 t zs) (hu : rdT w0.heap.size w0 u ss) (hv : rdB w0.heap.size w0 v l)
    (hss : ∀ s ∈ ss, s.length ≤ 1125899906842624) : Calls Try.prog 3 #[t, u, v, .int .i64 most, .int .i64 n] w0 (TruePost w0) := by
  have ht' := ht
  have hu' := hu
  have hv' := hv
  obtain ⟨a, cap, rfl, h2, h3, _⟩ := hu.cells
  obtain ⟨a', cap', rfl, h2', h3', _⟩ := hv.cells
  obtain ⟨a'', cap'', rfl, h2'', h3'', _⟩ := ht.cells
  clear hu hv ht
  go_enter Try.func3, Try.ntmps3
  go_wp2_with fail
  refine (alive_any _).mono ?_
  rintro e w1 ⟨rfl, hB1⟩
  go_wp2_with fail
  refine (great_any w1 _ _ _ _ ss l (rd.below hu' hB1) (rd.below hv' hB1) hss).mono ?_
  rintro e w2 ⟨g, rfl, rfl, hg⟩
  cases g with
  | true =>
    go_wp2
    go_ret
    exact ⟨rfl, hB1⟩
  | false =>
    obtain ⟨hg1, hg2, hg3⟩ := hg rfl
    clear hg
    by_cases hz1 : 200 < zs.length
    · go_wp2
      go_ret
      exact ⟨rfl, hB1⟩
    · have henc2 : (encT ss).length ≤ 18000 := by
        have := encT_lens ss fun s hs => by have := hss s hs; omega
        omega
      have henc3 := enc_le6 ss.length (by omega)
      clear hss
      go_wp2_with fail
      refine (copy_any w1 _ w0.heap.size _ _ (rd.below hv' hB1) hB1.size (by omega)).mono ?_
      rintro e w3 ⟨v3, rfl, hO3, hB3⟩
      have hB := hB1.trans hB3
      have hL := (allB.nil w3).cons (rdB.own hO3)
      clear hO3 hB3 hB1
      generalize hq1 : numsR zs = q1
      obtain ⟨x1, b1⟩ := q1
      have H1 := Lib.hid hq1
      generalize hq2 : numR l = q2
      obtain ⟨n2, x2, b2⟩ := q2
      have H2 := Lib.hid hq2
      generalize hq3 : textR l = q3
      obtain ⟨s3, x3, b3⟩ := q3
      have H3 := Lib.hid hq3
      generalize hq4 : takeR l most = q4
      obtain ⟨s4, x4, b4⟩ := q4
      have H4 := Lib.hid hq4
      clear hq1 hq2 hq3 hq4
      go_wp2_with fail
      refine (Nums_any w3 w3.heap.size _ zs (Nat.le_refl _) ((rd.below ht' hB).mono hB.size) (by omega)).mono ?_
      unfold NumsPost
      rw [H1.out]
      rintro e w4 ⟨v4, rfl, hO, hb⟩
      have hL := (hL.step hb).cons (rdB.own hO)
      have hB := Below.next hB hb (Nat.le_refl _)
      clear hO hb
      go_wp2_with fail
      refine (refNums_any w4 w4.heap.size _ zs (Nat.le_refl _) ((rd.below ht' hB).mono hB.size) (by omega)).mono ?_
      unfold NumsPost
      rw [H1.out]
      rintro e w5 ⟨v5, rfl, hO, hb⟩
      have hL := (hL.step hb).cons (rdB.own hO)
      have hB := Below.next hB hb (Nat.le_refl _)
      clear hO hb
      go_wp2_with fail
      refine (Num_any w5 _ w5.heap.size _ l (hL (_, l) (by simp)) (Nat.le_refl _) (by omega)).mono ?_
      unfold NumRPost
      rw [H2.out]
      rintro e w6 ⟨v6, rfl, hN, hb⟩
      have hL := (hL.step hb).cons hN.1
      have hB := Below.next hB hb (Nat.le_refl _)
      clear hN hb
      go_wp2_with fail
      refine (refNum_any w6 _ w6.heap.size _ l (rd.below hv' hB) (Nat.le_refl _) (by omega)).mono ?_
      unfold NumRPost
      rw [H2.out]
      rintro e w7 ⟨v7, rfl, hN, hb⟩
      have hL := (hL.step hb).cons hN.1
      have hB := Below.next hB hb (Nat.le_refl _)
      clear hN hb
      go_wp2_with fail
      refine (Text_any w7 _ w7.heap.size _ l (hL (_, l) (by simp)) (Nat.le_refl _) (by omega)).mono ?_
      unfold TextRPost
      rw [H3.out]
      rintro e w8 ⟨v8, rfl, hN, hb⟩
      have hL := (hL.step hb).cons hN.1
      have hB := Below.next hB hb (Nat.le_refl _)
      clear hN hb
      go_wp2_with fail
      refine (refText_any w8 _ w8.heap.size _ l (rd.below hv' hB) (Nat.le_refl _) (by omega)).mono ?_
      unfold TextRPost
      rw [H3.out]
      rintro e w9 ⟨v9, rfl, hN, hb⟩
      have hL := (hL.step hb).cons hN.1
      have hB := Below.next hB hb (Nat.le_refl _)
      clear hN hb
      go_wp2_with fail
      refine (Take_any w9 _ w9.heap.size _ l most (hL (_, l) (by simp)) (Nat.le_refl _) (by omega)).mono ?_
      unfold TakePost
      rw [H4.out]
      rintro e w10 ⟨u10, v10, rfl, hT10, hN, hb⟩
      have hL := (hL.step hb).cons hN
      have hB := Below.next hB hb (Nat.le_refl _)
      clear hN hb
      go_wp2_with fail
      refine (refTake_any w10 _ w10.heap.size _ l most (rd.below hv' hB) (Nat.le_refl _) (by omega)).mono ?_
      unfold TakePost
      rw [H4.out]
      rintro e w11 ⟨u11, v11, rfl, hT11, hN, hb⟩
      have hL := (hL.step hb).cons hN
      have hB := Below.next hB hb (Nat.le_refl _)
      have hT10 := rdT.step hT10 hb
      clear hN hb
      generalize hqn : numsR [n] = qn
      obtain ⟨xn, bn⟩ := qn
      have HN := Lib.hid hqn
      generalize hsn : sizeN n = zn
      have HS := Lib.hid hsn
      have hrel : (bn = true ∧ zn = xn.length) ∨ (bn = false ∧ zn = 0) := by
        cases hok : okN n with
        | true => rw [nums1_ok hok] at hqn; rw [sizeN_ok hok] at hsn; simp only [Prod.mk.injEq] at hqn; left; exact ⟨hqn.2.symm, by rw [← hsn, ← hqn.1]⟩
        | false => rw [nums1_no hok] at hqn; rw [sizeN_no hok] at hsn; simp only [Prod.mk.injEq] at hqn; right; exact ⟨hqn.2.symm, hsn.symm⟩
      clear hqn hsn
      go_wp2_with fail
      refine (refNums1 w11 n).mono ?_
      unfold NumsPost
      rw [HN.out]
      rintro e w12 ⟨vz, rfl, hO, hb⟩
      have hb := Below.after hb
      have hL := (hL.step hb).cons (rdB.own hO)
      have hT10 := rdT.step hT10 hb
      have hT11 := rdT.step hT11 hb
      obtain ⟨az, cz, rfl, hz2, hz3, _⟩ := (rdB.own hO).cells
      have hB := Below.next hB hb (Nat.le_refl _)
      clear hO hb
      go_wp2_with fail
      refine (Size_any w12 w12.heap.size n (Nat.le_refl _)).mono ?_
      rintro e w13 ⟨he, hb⟩
      rw [HS.out] at he
      subst he
      have hL := hL.step hb
      have hT10 := rdT.step hT10 hb
      have hT11 := rdT.step hT11 hb
      have hB := Below.next hB hb (Nat.le_refl _)
      clear hb
      go_wp2_with fail
      refine (sameB_bel _ _ _ _ _ x1 x1 (hL (_, x1) (by simp)) (hL (_, x1) (by simp))).mono ?_
      rintro e w14 ⟨rfl, hb⟩
      rw [sameL_refl rfl]
      have hL := hL.step hb
      have hT10 := rdT.step hT10 hb
      have hT11 := rdT.step hT11 hb
      have hB := Below.next hB hb (Nat.le_refl _)
      clear hb
      go_wp2_with fail
      refine (Texts_any w14 w14.heap.size _ ss (Nat.le_refl _) ((rd.below hu' hB).mono hB.size) (by omega)).mono ?_
      rintro e w15 ⟨v15, rfl, hO, hb⟩
      have hL := (hL.step hb).cons (rdB.own hO)
      have hT10 := rdT.step hT10 hb
      have hT11 := rdT.step hT11 hb
      have hB := Below.next hB hb (Nat.le_refl _)
      clear hb hO
      go_wp2_with fail
      refine (refTexts_any w15 w15.heap.size _ ss (Nat.le_refl _) ((rd.below hu' hB).mono hB.size) (by omega)).mono ?_
      rintro e w16 ⟨v16, rfl, hO, hb⟩
      have hL := (hL.step hb).cons (rdB.own hO)
      have hT10 := rdT.step hT10 hb
      have hT11 := rdT.step hT11 hb
      have hB := Below.next hB hb (Nat.le_refl _)
      clear hb hO
      go_wp2_with fail
      refine (sameB_bel _ _ _ _ _ (encT ss) (encT ss) (hL (_, (encT ss)) (by simp)) (hL (_, (encT ss)) (by simp))).mono ?_
      rintro e w17 ⟨rfl, hb⟩
      rw [sameL_refl rfl]
      have hL := hL.step hb
      have hT10 := rdT.step hT10 hb
      have hT11 := rdT.step hT11 hb
      have hB := Below.next hB hb (Nat.le_refl _)
      clear hb
      go_wp2_with fail
      refine (List_any w17 w17.heap.size _ ss (Nat.le_refl _) ((rd.below hu' hB).mono hB.size) (by omega)).mono ?_
      rintro e w18 ⟨v18, rfl, hO, hb⟩
      have hL := (hL.step hb).cons (rdB.own hO)
      have hT10 := rdT.step hT10 hb
      have hT11 := rdT.step hT11 hb
      have hB := Below.next hB hb (Nat.le_refl _)
      clear hb hO
      go_wp2_with fail
      refine (refList_any w18 w18.heap.size _ ss (Nat.le_refl _) ((rd.below hu' hB).mono hB.size) (by omega)).mono ?_
      rintro e w19 ⟨v19, rfl, hO, hb⟩
      have hL := (hL.step hb).cons (rdB.own hO)
      have hT10 := rdT.step hT10 hb
      have hT11 := rdT.step hT11 hb
      have hB := Below.next hB hb (Nat.le_refl _)
      clear hb hO
      go_wp2_with fail
      refine (sameB_bel _ _ _ _ _ (enc ss.length ++ encT ss) (enc ss.length ++ encT ss) (hL (_, (enc ss.length ++ encT ss)) (by simp)) (hL (_, (enc ss.length ++ encT ss)) (by simp))).mono ?_
      rintro e w20 ⟨rfl, hb⟩
      rw [sameL_refl rfl]
      have hL := hL.step hb
      have hT10 := rdT.step hT10 hb
      have hT11 := rdT.step hT11 hb
      have hB := Below.next hB hb (Nat.le_refl _)
      clear hb
      go_wp2_with fail
      refine (sameB_bel _ _ _ _ _ x2 x2 (hL (_, x2) (by simp)) (hL (_, x2) (by simp))).mono ?_
      rintro e w21 ⟨rfl, hb⟩
      rw [sameL_refl rfl]
      have hL := hL.step hb
      have hT10 := rdT.step hT10 hb
      have hT11 := rdT.step hT11 hb
      have hB := Below.next hB hb (Nat.le_refl _)
      clear hb
      go_wp2_with fail
      refine (sameB_bel _ _ _ _ _ x3 x3 (hL (_, x3) (by simp)) (hL (_, x3) (by simp))).mono ?_
      rintro e w22 ⟨rfl, hb⟩
      rw [sameL_refl rfl]
      have hL := hL.step hb
      have hT10 := rdT.step hT10 hb
      have hT11 := rdT.step hT11 hb
      have hB := Below.next hB hb (Nat.le_refl _)
      clear hb
      go_wp2_with fail
      refine (sameT_bel _ _ _ _ _ s4 s4 hT10 hT11).mono ?_
      rintro e w23 ⟨rfl, hb⟩
      rw [sameT_refl]
      have hL := hL.step hb
      have hT10 := rdT.step hT10 hb
      have hT11 := rdT.step hT11 hb
      have hB := Below.next hB hb (Nat.le_refl _)
      clear hb
      go_wp2_with fail
      refine (sameB_bel _ _ _ _ _ x4 x4 (hL (_, x4) (by simp)) (hL (_, x4) (by simp))).mono ?_
      rintro e w24 ⟨rfl, hb⟩
      rw [sameL_refl rfl]
      have hL := hL.step hb
      have hT10 := rdT.step hT10 hb
      have hT11 := rdT.step hT11 hb
      have hB := Below.next hB hb (Nat.le_refl _)
      clear hb
      rcases hrel with ⟨rfl, rfl⟩ | ⟨rfl, rfl⟩
      all_goals
        go_wp2_with fail
        all_goals try exact absurd (by assumption) (hno _)
        all_goals
          refine (sameB_bel _ _ _ _ _ l l (hL (_, l) (by simp)) (rd.below hv' hB)).mono ?_
          rintro e w25 ⟨rfl, hb⟩
          rw [sameL_refl rfl]
          have hB := Below.next hB hb (Nat.le_refl _)
          clear hb
          go_wp2
          go_ret
          exact ⟨rfl, hB⟩
end Go.Proofs.Ytnpiipflpmhpbaa
