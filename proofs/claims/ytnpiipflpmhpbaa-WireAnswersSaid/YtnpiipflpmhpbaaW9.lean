import Derived.Test.YtnpiipflpmhpbaaW8
namespace Go.Proofs.Ytnpiipflpmhpbaa
open Go.RowKit

theorem nums1_ok {z : Int} (h : okN z = true) : numsR [z] = (enc z.toNat, true) := by
  unfold numsR allOk
  simp [h, encN]
theorem nums1_no {z : Int} (h : okN z = false) : numsR [z] = ([], false) := by
  unfold numsR allOk
  simp [h]

theorem enc_mono : ∀ (n m : Nat), m ≤ n → (enc m).length ≤ (enc n).length := by
  intro n
  induction n using Nat.strongRecOn with
  | _ n ih =>
    intro m hm
    by_cases h1 : m < 128
    · rw [enc_lt h1]; exact enc_pos n
    · rw [enc_ge (by omega), enc_ge (show 128 ≤ n by omega)]
      have := ih (n / 128) (by omega) (m / 128) (by omega)
      simpa using this

theorem enc_prefix {m n : Nat} (hm : m ≤ 1099511627776) (hn : n ≤ 1099511627776) (h : enc m = (enc n).take (enc m).length) : m = n := by
  have h1 := enc_dec hm ((enc n).drop (enc m).length)
  have h2 := enc_dec hn []
  rw [List.append_nil] at h2
  have e : enc m ++ (enc n).drop (enc m).length = enc n := by
    conv => lhs; lhs; rw [h]
    exact List.take_append_drop _ _
  rw [e, h2] at h1
  simp only [Prod.mk.injEq] at h1
  exact h1.1.symm

theorem Nums1 (w : World) (z : Int) : Calls Try.prog 11 #[.slice (some ⟨w.heap.size, 0, none⟩) 1 1] (w.alloc (.cells #[.int .i64 z] 3)) (NumsPost [z] (w.heap.size + 1) (w.alloc (.cells #[.int .i64 z] 3))) :=
  Nums_any _ (w.heap.size + 1) _ [z] (by simp) (rd.lit w [.int .i64 z] 3 1 1 rfl (maxLen_ge (by omega))) (by simp)

theorem Below.after {w w1 : World} {o : Obj} (h : Below (w.heap.size + 1) (w.alloc o) w1) : Below w.heap.size w w1 := (Below.lit w o).trans (h.mono (by omega))

set_option maxRecDepth 100000 in
set_option maxHeartbeats 4000000 in
theorem order_any (w0 : World) (a b : Int) : Calls Try.prog 6 #[.int .i64 a, .int .i64 b] w0 (TruePost w0) := by
  cases hA : okN a with
  | false =>
    have HA := Lib.hid hA
    clear hA
    go_enter Try.func6, Try.ntmps6
    go_wp2_with fail
    refine (alive_any _).mono ?_
    rintro e w1 ⟨rfl, hB1⟩
    go_wp2_with fail
    refine (Nums1 w1 a).mono ?_
    rintro e w2 ⟨v2, rfl, hO2, hB2⟩
    rw [nums1_no HA.out]
    have hB02 := Below.next hB1 (Below.after hB2) (Nat.le_refl _)
    clear hO2 hB2 hB1
    go_wp2_with fail
    refine (Nums1 w2 b).mono ?_
    rintro e w3 ⟨v3, rfl, hO3, hB3⟩
    have hB03 := Below.next hB02 (Below.after hB3) (Nat.le_refl _)
    clear hO3 hB3 hB02
    go_wp2_with fail
    refine (Size_any _ w3.heap.size a (Nat.le_refl _)).mono ?_
    rintro e w4 ⟨rfl, hB4⟩
    have hB04 := Below.next hB03 hB4 (Nat.le_refl _)
    rw [show sizeN a = 0 by unfold sizeN; rw [HA.out]; rfl]
    clear hB4 hB03
    go_wp2
    go_ret
    exact ⟨rfl, hB04⟩
  | true =>
    have HA := Lib.hid hA
    obtain ⟨ha0, ha1⟩ := (okN_iff a).1 hA
    obtain ⟨m, rfl⟩ := Int.eq_ofNat_of_zero_le ha0
    clear hA
    cases hB : okN b with
    | false =>
      have HB := Lib.hid hB
      clear hB
      go_enter Try.func6, Try.ntmps6
      go_wp2_with fail
      refine (alive_any _).mono ?_
      rintro e w1 ⟨rfl, hB1⟩
      go_wp2_with fail
      refine (Nums1 w1 m).mono ?_
      rintro e w2 ⟨v2, rfl, hO2, hB2⟩
      rw [nums1_ok HA.out]
      have hB02 := Below.next hB1 (Below.after hB2) (Nat.le_refl _)
      clear hO2 hB2 hB1
      go_wp2_with fail
      refine (Nums1 w2 b).mono ?_
      rintro e w3 ⟨v3, rfl, hO3, hB3⟩
      rw [nums1_no HB.out]
      have hB03 := Below.next hB02 (Below.after hB3) (Nat.le_refl _)
      clear hO3 hB3 hB02
      go_wp2
      go_ret
      exact ⟨rfl, hB03⟩
    | true =>
      have HB := Lib.hid hB
      obtain ⟨hb0, hb1⟩ := (okN_iff b).1 hB
      obtain ⟨n, rfl⟩ := Int.eq_ofNat_of_zero_le hb0
      clear hB
      have hmono : m < n → (enc m).length ≤ (enc n).length := fun h => enc_mono n m (by omega)
      have hpre := fun h => enc_prefix (m := m) (n := n) (by omega) (by omega) h
      have el1 := enc_le m (by omega)
      have el2 := enc_le n (by omega)
      have e1 : ((m : Int)).toNat = m := by simp
      have e2 : ((n : Int)).toNat = n := by simp
      have HN1 := Lib.hid (nums1_ok HA.out)
      have HN2 := Lib.hid (nums1_ok HB.out)
      rw [e1] at HN1
      rw [e2] at HN2
      generalize enc m = X at *
      generalize enc n = Y at *
      have HPRE := Lib.hid hpre
      have HMONO := Lib.hid hmono
      clear e1 e2 hpre hmono
      by_cases hmn : m = n
      · subst hmn
        have hne : ((m : Int) == (m : Int)) = true := by simp
        go_enter Try.func6, Try.ntmps6
        go_wp2_with fail
        refine (alive_any _).mono ?_
        rintro e w1 ⟨rfl, hB1⟩
        go_wp2_with fail
        refine (Nums1 w1 m).mono ?_
        rintro e w2 ⟨v2, rfl, hO2, hB2⟩
        rw [HN1.out]
        have hB02 := Below.next hB1 (Below.after hB2) (Nat.le_refl _)
        clear hO2 hB2 hB1
        go_wp2_with fail
        refine (Nums1 w2 m).mono ?_
        rintro e w3 ⟨v3, rfl, hO3, hB3⟩
        rw [HN1.out]
        have hB03 := Below.next hB02 (Below.after hB3) (Nat.le_refl _)
        clear hO3 hB3 hB02
        go_wp2
        go_ret
        exact ⟨rfl, hB03⟩
      · have hne : ((m : Int) == (n : Int)) = false := by rw [beq_eq_false_iff_ne]; omega
        by_cases hle : X.length ≤ Y.length
        · have hsame : sameL X (Y.take X.length) = false := by
            simp only [sameL, decide_eq_false_iff_not]
            intro h; exact hmn (HPRE.out h)
          have HSAME := Lib.hid hsame
          clear hsame
          have hd1 : decide (Y.length < X.length) = false := by simp; omega
          by_cases hlt : m < n
          all_goals
            go_enter Try.func6, Try.ntmps6
            go_wp2_with fail
            refine (alive_any _).mono ?_
            rintro e w1 ⟨rfl, hB1⟩
            go_wp2_with fail
            refine (Nums1 w1 m).mono ?_
            rintro e w2 ⟨v2, rfl, hO2, hB2⟩
            rw [HN1.out] at hO2 ⊢
            have hB02 := Below.next hB1 (Below.after hB2) (Nat.le_refl _)
            have hx := rdB.own hO2
            clear hO2 hB2 hB1
            go_wp2_with fail
            refine (Nums1 w2 n).mono ?_
            rintro e w3 ⟨v3, rfl, hO3, hB3⟩
            rw [HN2.out] at hO3 ⊢
            have hB23 := Below.after hB3
            have hB03 := Below.next hB02 hB23 (Nat.le_refl _)
            have hy := rdB.own hO3
            have hx := hx.step hB23
            clear hO3 hB3 hB02 hB23
            obtain ⟨ax, cx, rfl, hx2, hx3, _⟩ := hx.cells
            obtain ⟨ay, cy, rfl, hy2, hy3, _⟩ := hy.cells
            go_wp2_with (refine stp 60 ?_)
            intro _
            refine wpList_slice rfl 24 (.tmp 57) none (some (.tmp 59)) rfl el24 rfl hy 0 X.length (Or.inl ⟨rfl, rfl⟩) (Or.inr rfl) (by omega) hle fun v' hv' => ?_
            have hy' := rdB.take_of hle hv'
            go_wp2_with fail
            refine (sameB_bel _ _ _ _ _ _ _ hx hy').mono ?_
            rintro e w4 ⟨rfl, hB4⟩
            rw [HSAME.out]
            have hB04 := Below.next hB03 hB4 (Nat.le_refl _)
            clear hB4 hB03 hx hy hy' hv'
            go_wp2
            go_ret
            exact ⟨rfl, hB04⟩
        · have hlt : ¬ m < n := fun h => hle (HMONO.out h)
          go_enter Try.func6, Try.ntmps6
          go_wp2_with fail
          refine (alive_any _).mono ?_
          rintro e w1 ⟨rfl, hB1⟩
          go_wp2_with fail
          refine (Nums1 w1 m).mono ?_
          rintro e w2 ⟨v2, rfl, hO2, hB2⟩
          rw [HN1.out] at hO2 ⊢
          have hB02 := Below.next hB1 (Below.after hB2) (Nat.le_refl _)
          have hx := rdB.own hO2
          clear hO2 hB2 hB1
          go_wp2_with fail
          refine (Nums1 w2 n).mono ?_
          rintro e w3 ⟨v3, rfl, hO3, hB3⟩
          rw [HN2.out] at hO3 ⊢
          have hB23 := Below.after hB3
          have hB03 := Below.next hB02 hB23 (Nat.le_refl _)
          have hy := rdB.own hO3
          have hx := hx.step hB23
          clear hO3 hB3 hB02 hB23
          obtain ⟨ax, cx, rfl, hx2, hx3, _⟩ := hx.cells
          obtain ⟨ay, cy, rfl, hy2, hy3, _⟩ := hy.cells
          go_wp2
          go_ret
          exact ⟨rfl, hB03⟩

/-! WireOne -/
theorem numR_enc {l : List UInt8} {n : Nat} {r : List UInt8} (h : numR l = (n, r, true)) : okN (n : Int) = true ∧ enc n ++ r = l := by
  have hd := dec_le l
  unfold numR at h
  split at h
  · simp at h
  · rename_i h0
    simp only [Prod.mk.injEq] at h
    obtain ⟨rfl, rfl, _⟩ := h
    refine ⟨(okN_iff _).2 ⟨by omega, by omega⟩, ?_⟩
    rw [dec_enc h0]
    exact List.take_append_drop _ _

theorem textR_enc {l s r : List UInt8} (h : textR l = (s, r, true)) : encT [s] ++ r = l := by
  have hd := dec_le l
  unfold textR at h
  split at h
  · simp at h
  · rename_i h0
    simp only [Prod.mk.injEq] at h
    obtain ⟨rfl, rfl, _⟩ := h
    unfold textD at h0 ⊢
    split at h0
    · exact absurd rfl h0
    · rename_i h1
      rw [if_neg h1]
      have h2 : (dec l).2 ≠ 0 := fun h => h1 (Or.inl h)
      simp only [encT, List.flatMap_cons, List.flatMap_nil, List.append_nil]
      have e1 : ((l.drop (dec l).2).take (dec l).1).length = (dec l).1 := by
        rw [List.length_take, List.length_drop]; omega
      rw [e1, dec_enc h2, ← List.drop_drop, List.append_assoc, List.take_append_drop, List.take_append_drop]

theorem textD_enc {r : List UInt8} (h : (textD r).2 ≠ 0) : enc (textD r).1.length ++ (textD r).1 ++ r.drop (textD r).2 = r := by
  have := textR_enc (l := r) (s := (textD r).1) (r := r.drop (textD r).2) (by unfold textR; rw [if_neg h])
  simpa [encT] using this

theorem textsR_enc : ∀ (n : Nat) (r : List UInt8) (ss : List (List UInt8)) (t : List UInt8), textsR n r = some (ss, t) → ss.length = n ∧ encT ss ++ t = r
  | 0, r, ss, t, h => by
    simp [textsR] at h
    obtain ⟨rfl, rfl⟩ := h
    simp [encT]
  | n + 1, r, ss, t, h => by
    rw [textsR] at h
    split at h
    · cases h
    · rename_i h0
      rw [Option.map_eq_some_iff] at h
      obtain ⟨⟨ss', t'⟩, h1, h2⟩ := h
      simp only [Prod.mk.injEq] at h2
      obtain ⟨rfl, rfl⟩ := h2
      obtain ⟨i1, i2⟩ := textsR_enc n _ _ _ h1
      refine ⟨by simp [i1], ?_⟩
      have := textD_enc h0
      rw [← i2] at this
      simpa [encT, List.append_assoc] using this

theorem takeR_enc {l : List UInt8} {lim : Int} {ss : List (List UInt8)} {r : List UInt8} (h : takeR l lim = (ss, r, true)) : enc ss.length ++ encT ss ++ r = l := by
  unfold takeR at h
  split at h
  · simp at h
  · rename_i h0
    have h2 : (dec l).2 ≠ 0 := fun h => h0 (Or.inl h)
    cases hq : textsR (dec l).1 (l.drop (dec l).2) with
    | none => rw [hq] at h; simp [ansOf] at h
    | some p =>
      rw [hq] at h
      obtain ⟨ss', r'⟩ := p
      simp only [ansOf, Prod.mk.injEq] at h
      obtain ⟨rfl, rfl, _⟩ := h
      obtain ⟨i1, i2⟩ := textsR_enc _ _ _ _ hq
      rw [i1, dec_enc h2, List.append_assoc, i2, List.take_append_drop]

/-- append(x, rest...) of a fresh row -/
theorem ownB.app {w w' : World} {v' v : Value} {base : Nat} {l r : List UInt8} (h : App w w' base 5 1 v v' (l.length + r.length) (bvs l ++ bvs r)) : w'.ownsRow base 5 1 v' (l ++ r).length (bvs (l ++ r)) := by
  rw [bvs_app, List.length_append]; exact h.own
end Go.Proofs.Ytnpiipflpmhpbaa
