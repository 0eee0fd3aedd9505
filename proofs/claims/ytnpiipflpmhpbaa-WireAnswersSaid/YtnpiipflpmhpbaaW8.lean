import Derived.Test.YtnpiipflpmhpbaaW7
namespace Go.Proofs.Ytnpiipflpmhpbaa
open Go.RowKit

theorem enc300 : enc 300 = [172, 2] := by rw [enc_ge (by decide), enc_lt (by decide)]; decide
theorem enc1 : enc 1 = [1] := by rw [enc_lt (by decide)]; decide
theorem enc2 : enc 2 = [2] := by rw [enc_lt (by decide)]; decide
theorem enc0 : enc 0 = [0] := by rw [enc_lt (by decide)]; decide
theorem al_nums : numsR [300, 1] = ([172, 2, 1], true) := by
  have h : allOk [300, 1] = true := by decide
  unfold numsR
  rw [h]
  simp only [if_true, encN, List.flatMap_cons, List.flatMap_nil]
  rw [show (300 : Int).toNat = 300 from rfl, show (1 : Int).toNat = 1 from rfl, enc300, enc1]
  rfl
theorem al_num : numR [172, 2, 1] = (300, [1], true) := by decide +kernel
theorem al_texts : encT [[97, 98], [99]] = [2, 97, 98, 1, 99] := by
  simp only [encT, List.flatMap_cons, List.flatMap_nil, List.length_cons, List.length_nil]
  rw [enc2, enc1]; rfl
theorem al_text : textR [2, 97, 98, 1, 99] = ([97, 98], [1, 99], true) := by decide +kernel
theorem al_list : enc [[120], ([] : List UInt8)].length ++ encT [[120], []] = [2, 1, 120, 0] := by
  simp only [encT, List.flatMap_cons, List.flatMap_nil, List.length_cons, List.length_nil]
  rw [enc2, enc1, enc0]; rfl
theorem al_take : takeR [2, 1, 120, 0] 2 = ([[120], []], [], true) := by decide +kernel
theorem al_size : sizeN 300 = 2 := by
  unfold sizeN
  rw [show okN 300 = true by decide, if_pos rfl, show (300 : Int).toNat = 300 from rfl, enc300]; rfl

def TruePost (w : World) (e : Ending) (w' : World) : Prop := e = .returned (.bool true) ∧ Below w.heap.size w w'

theorem rdB.step {w w' : World} {v : Value} {l : List UInt8} (h : rdB w.heap.size w v l) (hB : Below w.heap.size w w') : rdB w'.heap.size w' v l := (rd.below h hB).mono hB.size
theorem rdT.step {w w' : World} {v : Value} {l : List (List UInt8)} (h : rdT w.heap.size w v l) (hB : Below w.heap.size w w') : rdT w'.heap.size w' v l := (rd.below h hB).mono hB.size
theorem Below.lit (w : World) (o : Obj) : Below w.heap.size w (w.alloc o) := (Below.refl _ _).alloc (Nat.le_refl _) _
theorem Below.next {B : Nat} {w w1 w2 : World} (h : Below B w w1) (k : Below w1.heap.size w1 w2) (hB : B ≤ w.heap.size) : Below B w w2 := h.trans (k.mono (Nat.le_trans hB h.size))
theorem Below.draw (w : World) (n : Nat) : Below w.heap.size w (w.drewN n) := below_drewN (Below.refl _ _) n
theorem rdB.lit (w : World) (l : List UInt8) (hl : l.length ≤ 1000) : rdB (w.heap.size + 1) (w.alloc (.cells (bvs l).toArray 5)) (.slice (some ⟨w.heap.size, 0, none⟩) l.length l.length) l :=
  rd.lit w (bvs l) 5 1 l.length (by simp [bvs]) (maxLen_ge (by omega))
theorem rdT.lit (w : World) (l : List (List UInt8)) (hl : l.length ≤ 1000) : rdT (w.heap.size + 1) (w.alloc (.cells (l.map strOf).toArray 9)) (.slice (some ⟨w.heap.size, 0, none⟩) l.length l.length) l :=
  rd.lit w (l.map strOf) 9 1 l.length (by simp) (maxLen_ge (by omega))

def BoolPost (b : Bool) (w : World) (e : Ending) (w' : World) : Prop := e = .returned (.bool b) ∧ Below w.heap.size w w'
theorem sameB_bel (w0 : World) (B C : Nat) (u v : Value) (l m : List UInt8) (hu : rdB B w0 u l) (hv : rdB C w0 v m) : Calls Try.prog 20 #[u, v] w0 (BoolPost (sameL l m) w0) :=
  (sameB_any w0 B C u v l m hu hv).mono fun _ _ ⟨h, n, hw⟩ => ⟨h, hw ▸ Below.draw w0 n⟩
theorem sameT_bel (w0 : World) (B C : Nat) (u v : Value) (l m : List (List UInt8)) (hu : rdT B w0 u l) (hv : rdT C w0 v m) : Calls Try.prog 25 #[u, v] w0 (BoolPost (sameT l m) w0) :=
  (sameT_any w0 B C u v l m hu hv).mono fun _ _ ⟨h, n, hw⟩ => ⟨h, hw ▸ Below.draw w0 n⟩

set_option maxRecDepth 100000 in
set_option maxHeartbeats 4000000 in
theorem alive_any (w0 : World) : Calls Try.prog 8 #[] w0 (TruePost w0) := by
  go_enter Try.func8, Try.ntmps8
  go_wp2_with fail
  refine (Nums_any _ (w0.heap.size + 1) _ [300, 1] (by simp) (rd.lit w0 [.int .i64 300, .int .i64 1] 3 1 2 rfl (maxLen_ge (by omega))) (by decide)).mono ?_
  rintro e w1 ⟨v1, rfl, hO1, hB1⟩
  rw [al_nums] at hO1 ⊢
  have hB01 : Below w0.heap.size w0 w1 := (Below.lit w0 _).trans (hB1.mono (by omega))
  have hb1 := rdB.own hO1
  clear hB1 hO1
  go_wp2_with fail
  refine (Num_any w1 _ w1.heap.size _ _ hb1 (Nat.le_refl _) (by decide)).mono ?_
  rintro e w2 ⟨v2, rfl, hN2, hB2⟩
  rw [al_num] at hN2 ⊢
  have hb2 := hN2.1
  have hb1 := hb1.step hB2
  have hB02 := Below.next hB01 hB2 (Nat.le_refl _)
  clear hN2 hB2 hB01
  go_wp2_with fail
  refine (Texts_any _ (w2.heap.size + 1) _ [[97, 98], [99]] (by simp) (rdT.lit w2 [[97, 98], [99]] (by decide)) (by rw [al_texts]; decide)).mono ?_
  rintro e w3 ⟨v3, rfl, hO3, hB3⟩
  rw [al_texts] at hO3
  have hB23 : Below w2.heap.size w2 w3 := (Below.lit w2 _).trans (hB3.mono (by omega))
  have hb3 := rdB.own hO3
  have hb1 := hb1.step hB23
  have hb2 := hb2.step hB23
  have hB03 := Below.next hB02 hB23 (Nat.le_refl _)
  clear hO3 hB3 hB23 hB02
  go_wp2_with fail
  refine (Text_any w3 _ w3.heap.size _ _ hb3 (Nat.le_refl _) (by decide)).mono ?_
  rintro e w4 ⟨v4, rfl, hN4, hB4⟩
  rw [al_text] at hN4 ⊢
  have hb4 := hN4.1
  have hb1 := hb1.step hB4
  have hb2 := hb2.step hB4
  have hB04 := Below.next hB03 hB4 (Nat.le_refl _)
  clear hN4 hB4 hB03 hb3
  go_wp2_with fail
  refine (List_any _ (w4.heap.size + 1) _ [[120], []] (by simp) (rdT.lit w4 [[120], []] (by decide)) (by decide +kernel)).mono ?_
  rintro e w5 ⟨v5, rfl, hO5, hB5⟩
  rw [al_list] at hO5
  have hB45 : Below w4.heap.size w4 w5 := (Below.lit w4 _).trans (hB5.mono (by omega))
  have hb5 := rdB.own hO5
  have hb1 := hb1.step hB45
  have hb2 := hb2.step hB45
  have hb4 := hb4.step hB45
  have hB05 := Below.next hB04 hB45 (Nat.le_refl _)
  clear hO5 hB5 hB45 hB04
  go_wp2_with fail
  refine (Take_any w5 _ w5.heap.size _ _ 2 hb5 (Nat.le_refl _) (by decide)).mono ?_
  rintro e w6 ⟨v6, v7, rfl, hb6, hb7, hB6⟩
  rw [al_take] at hb6 hb7 ⊢
  have hb1 := hb1.step hB6
  have hb2 := hb2.step hB6
  have hb4 := hb4.step hB6
  have hB06 := Below.next hB05 hB6 (Nat.le_refl _)
  clear hB6 hB05 hb5
  go_wp2_with fail
  refine (sameB_bel _ _ _ _ _ [172, 2, 1] [172, 2, 1] (hb1.step (Below.lit w6 _)) (rdB.lit w6 [172, 2, 1] (by decide))).mono ?_
  rintro e w7 ⟨rfl, hB7⟩
  rw [show sameL [172, 2, 1] [172, 2, 1] = true by decide]
  have hX : Below w6.heap.size w6 w7 := (Below.lit w6 _).trans (hB7.mono (by simp))
  have hb2 := hb2.step hX
  have hb4 := hb4.step hX
  have hb6 := hb6.step hX
  have hb7 := hb7.step hX
  have hB07 := Below.next hB06 hX (Nat.le_refl _)
  clear hX hB7 hB06 hb1
  go_wp2_with fail
  refine (sameB_bel _ _ _ _ _ [1] [1] (hb2.step (Below.lit w7 _)) (rdB.lit w7 [1] (by decide))).mono ?_
  rintro e w8 ⟨rfl, hB8⟩
  rw [show sameL [1] [1] = true by decide]
  have hX : Below w7.heap.size w7 w8 := (Below.lit w7 _).trans (hB8.mono (by simp))
  have hb4 := hb4.step hX
  have hb6 := hb6.step hX
  have hb7 := hb7.step hX
  have hB08 := Below.next hB07 hX (Nat.le_refl _)
  clear hX hB8 hB07 hb2
  go_wp2_with fail
  refine (sameB_bel _ _ _ _ _ [1, 99] [1, 99] (hb4.step (Below.lit w8 _)) (rdB.lit w8 [1, 99] (by decide))).mono ?_
  rintro e w9 ⟨rfl, hB9⟩
  rw [show sameL [1, 99] [1, 99] = true by decide]
  have hX : Below w8.heap.size w8 w9 := (Below.lit w8 _).trans (hB9.mono (by simp))
  have hb6 := hb6.step hX
  have hb7 := hb7.step hX
  have hB09 := Below.next hB08 hX (Nat.le_refl _)
  clear hX hB9 hB08 hb4
  go_wp2_with fail
  refine (sameT_bel _ _ _ _ _ [[120], []] [[120], []] (hb6.step (Below.lit w9 _)) (rdT.lit w9 [[120], []] (by decide))).mono ?_
  rintro e w10 ⟨rfl, hB10⟩
  rw [show sameT [[120], []] [[120], []] = true by decide]
  have hX : Below w9.heap.size w9 w10 := (Below.lit w9 _).trans (hB10.mono (by simp))
  have hb7 := hb7.step hX
  have hB010 := Below.next hB09 hX (Nat.le_refl _)
  clear hX hB10 hB09 hb6
  obtain ⟨a7, cap7, rfl, _⟩ := hb7.cells
  go_wp2_with fail
  refine (Size_any _ w10.heap.size 300 (by simp)).mono ?_
  rintro e w11 ⟨rfl, hB11⟩
  rw [al_size]
  have hB011 := Below.next hB010 hB11 (Nat.le_refl _)
  clear hB11 hB010 hb7
  go_wp2
  go_ret
  exact ⟨rfl, hB011⟩
end Go.Proofs.Ytnpiipflpmhpbaa
