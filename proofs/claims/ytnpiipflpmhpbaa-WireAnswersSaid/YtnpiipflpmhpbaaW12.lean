import Derived.Test.YtnpiipflpmhpbaaW11
namespace Go.Proofs.Ytnpiipflpmhpbaa
open Go.RowKit

theorem textD_app {s r : List UInt8} (hs : s.length ≤ 1099511627776) : textD (enc s.length ++ s ++ r) = (s, (enc s.length).length + s.length) := by
  have hd := enc_dec hs (s ++ r)
  have hp := enc_pos s.length
  rw [List.append_assoc]
  unfold textD
  rw [hd]
  rw [if_neg (by simp only [List.length_append]; omega)]
  simp

theorem textR_app {s r : List UInt8} (hs : s.length ≤ 1099511627776) : textR (encT [s] ++ r) = (s, r, true) := by
  have hd := textD_app (r := r) hs
  have hp := enc_pos s.length
  have e : encT [s] = enc s.length ++ s := by simp [encT]
  rw [e]
  unfold textR
  rw [hd]
  rw [if_neg (by simp only; omega)]
  simp only [Prod.mk.injEq, and_true, true_and]
  rw [← List.length_append, List.drop_left]

theorem textsR_app (r : List UInt8) : ∀ (ss : List (List UInt8)), (∀ s ∈ ss, s.length ≤ 1099511627776) → textsR ss.length (encT ss ++ r) = some (ss, r)
  | [], _ => by simp [textsR, encT]
  | s :: ss, h => by
    have hs := h s (List.mem_cons_self ..)
    have e : encT (s :: ss) ++ r = enc s.length ++ s ++ (encT ss ++ r) := by simp [encT]
    have hd := textD_app (r := encT ss ++ r) hs
    have hp := enc_pos s.length
    rw [List.length_cons, textsR, e, hd, if_neg (by simp only; omega)]
    simp only
    rw [← List.length_append, List.drop_left, textsR_app r ss fun x hx => h x (List.mem_cons_of_mem _ hx)]
    rfl

theorem takeR_app {ss : List (List UInt8)} {r : List UInt8} {lim : Int} (hl : (ss.length : Int) ≤ lim) (hn : ss.length ≤ 1099511627776) (hs : ∀ s ∈ ss, s.length ≤ 1099511627776) :
    takeR (enc ss.length ++ encT ss ++ r) lim = (ss, r, true) := by
  have hd := enc_dec hn (encT ss ++ r)
  have hp := enc_pos ss.length
  rw [List.append_assoc]
  rw [takeR_pos (n := ss.length) (k := (enc ss.length).length) (by rw [hd]) (by rw [hd]) (by omega) hl (some (ss, r)) (by rw [List.drop_left]; exact textsR_app r ss hs)]
  rfl

theorem takeR_few {ss : List (List UInt8)} {lim : Int} (hl : lim < (ss.length : Int)) (hn : ss.length ≤ 1099511627776) : takeR (enc ss.length ++ encT ss) lim = ([], [], false) :=
  takeR_neg (Or.inr (by rw [enc_dec hn]; exact hl))

theorem lens_mem : ∀ {ss : List (List UInt8)} {s : List UInt8}, s ∈ ss → s.length ≤ lens ss
  | t :: ss, s, h => by
    have e : lens (t :: ss) = t.length + 1 + lens ss := by simp [lens]
    rcases List.mem_cons.1 h with rfl | h
    · omega
    · have := lens_mem h; omega

theorem encT_lens : ∀ (ss : List (List UInt8)), (∀ s ∈ ss, s.length ≤ 9223372036854775807) → (encT ss).length ≤ 9 * lens ss
  | [], _ => by simp [encT]
  | t :: ss, h => by
    have e : lens (t :: ss) = t.length + 1 + lens ss := by simp [lens]
    have e2 : encT (t :: ss) = enc t.length ++ t ++ encT ss := by simp [encT]
    have h1 := enc_le t.length (h t (List.mem_cons_self ..))
    have h2 := encT_lens ss fun x hx => h x (List.mem_cons_of_mem _ hx)
    rw [e2, e, List.length_append, List.length_append]
    omega

theorem sameT_refl (a : List (List UInt8)) : sameT a a = true := by simp [sameT]

set_option maxRecDepth 100000 in
set_option maxHeartbeats 8000000 in
theorem wback_any (w0 : World) (n : Int) (s : List UInt8) (u v : Value) (ss : List (List UInt8)) (l : List UInt8) (hu : rdT w0.heap.size w0 u ss) (hv : rdB w0.heap.size w0 v l)
    (hs0 : s.length ≤ 1125899906842624) (hss : ∀ s ∈ ss, s.length ≤ 1125899906842624) : Calls Try.prog 4 #[.int .i64 n, strOf s, u, v] w0 (TruePost w0) := by
  have hu' := hu
  have hv' := hv
  obtain ⟨a, cap, rfl, h2, h3, _⟩ := hu.cells
  obtain ⟨a', cap', rfl, h2', h3', _⟩ := hv.cells
  clear hu hv
  go_enter Try.func4, Try.ntmps4
  go_wp2_with fail
  refine (alive_any _).mono ?_
  rintro e w1 ⟨rfl, hB1⟩
  go_wp2_with fail
  refine (great_any w1 _ _ _ _ ss l (rd.below hu' hB1) (rd.below hv' hB1) hss).mono ?_
  rintro e w2 ⟨g, rfl, rfl, hg⟩
  cases g with
  | true =>
    go_wp2
    go_ret
    exact ⟨rfl, hB1⟩
  | false =>
    obtain ⟨hg1, hg2, hg3⟩ := hg rfl
    clear hg
    have hsz := szB s
    by_cases hs1 : 1000 < s.length
    · go_wp2
      go_ret
      exact ⟨rfl, hB1⟩
    · have henc1 : (encT [s]).length ≤ 1009 := by
        have := enc_le s.length (by omega)
        simp only [encT, List.flatMap_cons, List.flatMap_nil, List.append_nil, List.length_append]
        omega
      have henc2 : (encT ss).length ≤ 18000 := by
        have := encT_lens ss fun s hs => by have := hss s hs; omega
        omega
      have henc3 := enc_le6 ss.length (by omega)
      have HT := Lib.hid (textR_app (s := s) (r := l) (by omega))
      have hm := fun s hs => Nat.le_trans (lens_mem (ss := ss) (s := s) hs) (by omega : lens ss ≤ 1099511627776)
      have HL := Lib.hid (takeR_app (r := l) (lim := ss.length) (by omega) (by omega) hm)
      have HF := Lib.hid (takeR_few (ss := ss) (lim := (ss.length : Int) - 1) (by omega) (by omega))
      clear hm hss
      go_wp2_with fail
      refine (Nums1 w1 n).mono ?_
      rintro e w3 ⟨v3, rfl, hO3, hB3⟩
      have hB03 := Below.next hB1 (Below.after hB3) (Nat.le_refl _)
      have hO3 := own.base hO3 hB1
      clear hB3 hB1
      cases hok : okN n
      case' true =>
        have hz := (okN_iff n).1 hok
        obtain ⟨m, rfl⟩ := Int.eq_ofNat_of_zero_le hz.1
        have HOK := Lib.hid hok
        have HN := Lib.hid (numR_app (n := m) (by omega) l)
        have HS := Lib.hid (sizeN_ok hok)
        have hl6 := enc_le6 m (by omega)
        rw [Int.toNat_natCast] at HS
        rw [nums1_ok hok] at hO3 ⊢
        rw [Int.toNat_natCast] at hO3
        clear hok
        have hrx := rdB.own hO3
        obtain ⟨ax, cx, rfl, hx2, hx3, _⟩ := hrx.cells
        clear hO3
        go_wp2_with fail
        refine (copy_any w3 _ w0.heap.size _ _ hrx hB03.size (by omega)).mono ?_
        rintro e w4 ⟨v4, rfl, hO4, hB4⟩
        have hB04 := hB03.trans hB4
        have hr4 := rd.below hv' hB04
        clear hrx hB4 hB03
        go_wp2_with (refine stp 42 ?_)
        intro _
        refine wpList_app rfl (.tmp 40) (.tmp 41) 24 rfl el24 rfl hO4 rfl hr4 (bvs_one l) (maxLen_ge (by omega)) (by omega) hB04.size fun v5 w5 hA => ?_
        have hO5 := rdB.own (ownB.app hA)
        have hB05 := bel_app hB04 hA hO4 (Nat.le_refl _)
        clear hA hO4 hr4 hB04
        go_wp2_with fail
        refine (Num_any w5 _ w0.heap.size _ _ hO5 hB05.size (by rw [List.length_append]; omega)).mono ?_
        unfold NumRPost
        rw [HN.out]
        rintro e w6 ⟨v6, rfl, hN6, hB6⟩
        have hB06 := hB05.trans hB6
        have hr6 := hN6.1
        clear hN6 hB6 hB05 hO5
        go_wp2_with fail
        refine (sameB_bel _ _ _ _ _ _ _ hr6 (rd.below hv' hB06)).mono ?_
        rintro e w7 ⟨rfl, hB7⟩
        rw [sameL_refl rfl]
        have hB07 := Below.next hB06 hB7 (Nat.le_refl _)
        clear hB7 hB06 hr6
        go_wp2_with fail
        refine (Size_any w7 w0.heap.size m hB07.size).mono ?_
        rintro e w3 ⟨rfl, hB8⟩
        rw [HS.out]
        have hB8' := hB07.trans hB8
        clear hB8 hB07 HS HN
        go_wp2_with fail
      case' false =>
        rw [nums1_no hok] at hO3 ⊢
        have hneg : ¬ 0 ≤ n ∨ ¬ n ≤ 1099511627776 := by
          by_cases h1 : 0 ≤ n
          · by_cases h2 : n ≤ 1099511627776
            · rw [(okN_iff n).2 ⟨h1, h2⟩] at hok; cases hok
            · exact Or.inr h2
          · exact Or.inl h1
        have HNEG := Lib.hid hneg
        have hrx := rdB.own hO3
        obtain ⟨ax, cx, rfl, hx2, hx3, _⟩ := hrx.cells
        have hB8' := hB03
        clear hO3 hrx hB03 hok hneg
        go_wp2_with fail
      all_goals
        refine (Texts_any _ (w3.heap.size + 1) _ [s] (by simp) (rdT.lit w3 [s] (by simp)) (by omega)).mono ?_
        rintro e w10 ⟨v10, rfl, hO10, hB10⟩
        have hB010 := Below.next hB8' (Below.after hB10) (Nat.le_refl _)
        have hO10 := own.base hO10 hB8'
        have hr10 := rd.below hv' hB010
        clear hB10 hB8'
        go_wp2_with (refine stp 72 ?_)
        intro _
        refine wpList_app rfl (.tmp 70) (.tmp 71) 24 rfl el24 rfl hO10 rfl hr10 (bvs_one l) (maxLen_ge (by omega)) (by omega) hB010.size fun v11 w11 hA => ?_
        have hO11 := rdB.own (ownB.app hA)
        have hB011 := bel_app hB010 hA hO10 (Nat.le_refl _)
        clear hA hO10 hr10 hB010
        go_wp2_with fail
        refine (Text_any w11 _ w0.heap.size _ _ hO11 hB011.size (by rw [List.length_append]; omega)).mono ?_
        unfold TextRPost
        rw [HT.out]
        rintro e w12 ⟨v12, rfl, hN12, hB12⟩
        have hB012 := hB011.trans hB12
        have hr12 := hN12.1
        clear hN12 hB12 hB011 hO11
        go_wp2_with fail
        refine (sameB_bel _ _ _ _ _ _ _ hr12 (rd.below hv' hB012)).mono ?_
        rintro e w13 ⟨rfl, hB13⟩
        rw [sameL_refl rfl]
        have hB013 := Below.next hB012 hB13 (Nat.le_refl _)
        clear hB13 hB012 hr12
        go_wp2_with fail
        refine (List_any w13 w0.heap.size _ ss hB013.size (rd.below hu' hB013) (by omega)).mono ?_
        rintro e w14 ⟨v14, rfl, hO14, hB14⟩
        have hB014 := hB013.trans hB14
        have hr14 := rd.below hv' hB014
        clear hB14 hB013
        go_wp2_with (refine stp 94 ?_)
        intro _
        refine wpList_app rfl (.tmp 92) (.tmp 93) 24 rfl el24 rfl hO14 rfl hr14 (bvs_one l) (maxLen_ge (by rw [List.length_append]; omega)) (by rw [List.length_append]; omega) hB014.size fun v15 w15 hA => ?_
        have hO15 := rdB.own (ownB.app hA)
        have hB015 := bel_app hB014 hA hO14 (Nat.le_refl _)
        clear hA hO14 hr14 hB014
        go_wp2_with fail
        refine (Take_any w15 _ w0.heap.size _ _ _ hO15 hB015.size (by rw [List.length_append, List.length_append]; omega)).mono ?_
        unfold TakePost
        rw [HL.out]
        rintro e w16 ⟨u16, v16, rfl, hT16, hN16, hB16⟩
        have hB016 := hB015.trans hB16
        clear hB16 hB015 hO15
        go_wp2_with fail
        refine (sameT_bel _ _ _ _ _ _ _ hT16 (rd.below hu' hB016)).mono ?_
        rintro e w17 ⟨rfl, hB17⟩
        rw [sameT_refl]
        have hB017 := Below.next hB016 hB17 (Nat.le_refl _)
        have hr17 := rd.below hN16 hB17
        clear hB17 hB016 hT16 hN16
        go_wp2_with fail
        refine (sameB_bel _ _ _ _ _ _ _ hr17 (rd.below hv' hB017)).mono ?_
        rintro e w18 ⟨rfl, hB18⟩
        rw [sameL_refl rfl]
        have hB018 := Below.next hB017 hB18 (Nat.le_refl _)
        clear hB18 hB017 hr17
        go_wp2_with fail
        refine (List_any w18 w0.heap.size _ ss hB018.size (rd.below hu' hB018) (by omega)).mono ?_
        rintro e w19 ⟨v19, rfl, hO19, hB19⟩
        have hB019 := hB018.trans hB19
        have hr19 := rdB.own hO19
        clear hB19 hB018 hO19
        go_wp2_with fail
        refine (Take_any w19 _ w0.heap.size _ _ _ hr19 hB019.size (by rw [List.length_append]; omega)).mono ?_
        unfold TakePost
        rw [HF.out]
        rintro e w20 ⟨u20, v20, rfl, hT20, hN20, hB20⟩
        have hB020 := hB019.trans hB20
        clear hB20 hB019 hT20 hN20 hr19 HF HL HT
      · have hneg := HNEG.out
        by_cases hn0 : 0 ≤ n
        · have hn1 : decide (n ≤ 1099511627776) = false := by simp; omega
          go_wp2
          go_ret
          exact ⟨rfl, hB020⟩
        · go_wp2
          go_ret
          exact ⟨rfl, hB020⟩
      · go_wp2
        go_ret
        exact ⟨rfl, hB020⟩

theorem wback_str (w0 : World) (n : Int) (s : ByteArray) (u v : Value) (ss : List (List UInt8)) (l : List UInt8) (hu : rdT w0.heap.size w0 u ss) (hv : rdB w0.heap.size w0 v l)
    (hs0 : s.size ≤ 1125899906842624) (hss : ∀ s ∈ ss, s.length ≤ 1125899906842624) : Calls Try.prog 4 #[.int .i64 n, .string s, u, v] w0 (TruePost w0) := by
  have e : (Value.string s) = strOf s.data.toList := by simp [strOf]
  rw [e]
  exact wback_any w0 n _ u v ss l hu hv (by simpa using hs0) hss
end Go.Proofs.Ytnpiipflpmhpbaa
