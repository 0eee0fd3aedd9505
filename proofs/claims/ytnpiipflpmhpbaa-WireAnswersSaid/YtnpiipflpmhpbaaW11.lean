import Derived.Test.YtnpiipflpmhpbaaW10
namespace Go.Proofs.Ytnpiipflpmhpbaa
open Go.RowKit

theorem numR_app {n : Nat} (hn : n ≤ 1099511627776) (r : List UInt8) : numR (enc n ++ r) = (n, r, true) := by
  have h := enc_dec hn r
  have hp := enc_pos n
  unfold numR
  rw [h]
  rw [if_neg (by simp only; omega)]
  simp

theorem encN_cut {zs : List Int} {k : Nat} (hk : k < zs.length) : encN (zs.drop k) = enc (zs.getD k 0).toNat ++ encN (zs.drop (k + 1)) := by
  have e : zs.getD k 0 = zs[k] := by simp [List.getD_eq_getElem?_getD, hk]
  rw [e, encN, List.drop_eq_getElem_cons hk, List.flatMap_cons, encN]

theorem encN_drop_le (zs : List Int) (k : Nat) : (encN (zs.drop k)).length ≤ (encN zs).length := by
  conv => rhs; rw [← List.take_append_drop k zs]
  simp only [encN, List.flatMap_append, List.length_append]
  omega

theorem allOk_at {zs : List Int} (h : allOk zs = true) {k : Nat} (hk : k < zs.length) : okN (zs.getD k 0) = true := by
  unfold allOk at h
  rw [List.all_eq_true] at h
  have e : zs.getD k 0 = zs[k] := by simp [List.getD_eq_getElem?_getD, hk]
  rw [e]; exact h _ (List.getElem_mem hk)

theorem allOk_of {zs : List Int} (h : ∀ j, j < zs.length → okN (zs.getD j 0) = true) : allOk zs = true := by
  unfold allOk
  rw [List.all_eq_true]
  intro x hx
  obtain ⟨j, hj, rfl⟩ := List.getElem_of_mem hx
  have := h j hj
  simpa [List.getD_eq_getElem?_getD, hj] using this

theorem sizeN_ok {z : Int} (h : okN z = true) : sizeN z = (enc z.toNat).length := by unfold sizeN; rw [if_pos h]
theorem sizeN_no {z : Int} (h : okN z = false) : sizeN z = 0 := by unfold sizeN; rw [if_neg (by simp [h])]

theorem numsR_ok {zs : List Int} (h : allOk zs = true) : numsR zs = (encN zs, true) := by unfold numsR; rw [if_pos h]
theorem numsR_no {zs : List Int} (h : allOk zs = false) : numsR zs = ([], false) := by unfold numsR; rw [if_neg (by simp [h])]

theorem encN_len_snoc {zs : List Int} {k : Nat} (hk : k < zs.length) : (encN (zs.take (k + 1))).length = (encN (zs.take k)).length + (enc (zs.getD k 0).toNat).length := by
  rw [encN_snoc hk, List.length_append]

set_option maxRecDepth 100000 in
set_option maxHeartbeats 8000000 in
theorem wrows_any (w0 : World) (v : Value) (zs : List Int) (hv : rdI w0.heap.size w0 v zs) : Calls Try.prog 7 #[v] w0 (TruePost w0) := by
  have hv' := hv
  obtain ⟨a, cap, rfl, h2, h3, h4, h5⟩ := hv.cells
  clear h4 hv
  by_cases hg : 200 < zs.length
  · go_enter Try.func7, Try.ntmps7
    go_wp2_with fail
    refine (alive_any _).mono ?_
    rintro e w1 ⟨rfl, hB1⟩
    go_wp2
    go_ret
    exact ⟨rfl, hB1⟩
  · cases hall : allOk zs with
    | false =>
      have HQ := Lib.hid (numsR_no hall)
      have HALL := Lib.hid hall
      clear hall
      go_enter Try.func7, Try.ntmps7
      go_wp2_with fail
      refine (alive_any _).mono ?_
      rintro e w1 ⟨rfl, hB1⟩
      go_wp2_with fail
      refine (Nums_any w1 w1.heap.size _ zs (Nat.le_refl _) ((rd.below hv' hB1).mono hB1.size) (by omega)).mono ?_
      rintro e w2 ⟨v2, rfl, hO2, hB2⟩
      rw [HQ.out] at hO2 ⊢
      have hB02 := Below.next hB1 hB2 (Nat.le_refl _)
      obtain ⟨ax, cx, rfl, hx2, hx3, _⟩ := (rdB.own hO2).cells
      clear hO2 hB2 hB1
      go_wp2
      go_loopw [5, 6] (fun s i wr => ∃ k m : Nat, k ≤ zs.length ∧ m ≤ 6 * k ∧ s = .int .i64 m ∧ i = .int .i64 k ∧ Below w0.heap.size w0 wr ∧ ∀ j, j < k → okN (zs.getD j 0) = true)
        (fun _ i _ => zs.length - (intOf i).toNat)
      case atStart => exact ⟨0, 0, Nat.zero_le _, Nat.zero_le _, rfl, rfl, hB02, fun j hj => absurd hj (by omega)⟩
      case round =>
        obtain ⟨k, m, hk, hm, rfl, rfl, hB, hok⟩ := hrel
        have HOK := Lib.hid hok
        clear hok hB02
        by_cases hlt : k < zs.length
        · obtain ⟨b, off, rfl, hbb, hc⟩ := h5 (by omega)
          have c1 : wr.cell? ⟨b, off + k, none⟩ = some (.int .i64 (zs.getD k 0)) := (hB.cell (p := ⟨b, off + k, none⟩) hbb).trans (hc k (by omega))
          generalize hs : zs.getD k 0 = z at c1
          have HS := Lib.hid hs
          clear hc h5 hs
          cases ho : okN z with
          | false =>
            have HO := Lib.hid ho
            clear ho
            go_wp2_with fail
            refine (Size_any wr wr.heap.size z (Nat.le_refl _)).mono ?_
            rintro e w' ⟨rfl, hB'⟩
            rw [sizeN_no HO.out]
            have hB'' := Below.next hB hB' (Nat.le_refl _)
            clear hB' hB
            go_wp2
            go_ret
            exact ⟨rfl, hB''⟩
          | true =>
            have hz := (okN_iff z).1 ho
            have hp := enc_pos z.toNat
            have hp6 := enc_le6 z.toNat (by omega)
            have HO := Lib.hid ho
            clear ho
            go_wp2_with fail
            refine (Size_any wr wr.heap.size z (Nat.le_refl _)).mono ?_
            rintro e w' ⟨rfl, hB'⟩
            rw [sizeN_ok HO.out]
            generalize (enc z.toNat).length = c at *
            have hB'' := Below.next hB hB' (Nat.le_refl _)
            clear hB' hB
            go_wp2
            go_roundw
            case rel =>
              refine ⟨k + 1, m + c, by omega, by omega, by go_num, by go_num, hB'', fun j hj => ?_⟩
              by_cases hjk : j < k
              · exact HOK.out j hjk
              · have : j = k := by omega
                subst this
                rw [HS.out]; exact HO.out
            case measure => simp [intOf]; omega
        · exfalso
          have : allOk zs = true := allOk_of fun j hj => HOK.out j (by omega)
          rw [HALL.out] at this
          cases this
    | true =>
      have HQ := Lib.hid (numsR_ok hall)
      have hpre : ∀ k, k ≤ zs.length → (encN (zs.take k)).length ≤ 6 * k := fun k hk => encN_pre hk fun j hj => allOk_at hall (by omega)
      have hlen := hpre zs.length (Nat.le_refl _)
      rw [List.take_length] at hlen
      have HPRE := Lib.hid hpre
      have HALL := Lib.hid hall
      clear hall hpre
      go_enter Try.func7, Try.ntmps7
      go_wp2_with fail
      refine (alive_any _).mono ?_
      rintro e w1 ⟨rfl, hB1⟩
      go_wp2_with fail
      refine (Nums_any w1 w1.heap.size _ zs (Nat.le_refl _) ((rd.below hv' hB1).mono hB1.size) (by omega)).mono ?_
      rintro e w2 ⟨v2, rfl, hO2, hB2⟩
      rw [HQ.out] at hO2 ⊢
      have hB02 := Below.next hB1 hB2 (Nat.le_refl _)
      have hr2 := rdB.own hO2
      clear hO2 hB2 hB1
      go_wp2
      go_loopw [5, 6] (fun s i wr => ∃ k : Nat, k ≤ zs.length ∧ s = .int .i64 ((encN (zs.take k)).length : Nat) ∧ i = .int .i64 k ∧ Below w2.heap.size w2 wr)
        (fun _ i _ => zs.length - (intOf i).toNat)
      case atStart => exact ⟨0, Nat.zero_le _, rfl, rfl, Below.refl _ _⟩
      case round =>
        obtain ⟨k, hk, rfl, rfl, hB2⟩ := hrel
        have hB := Below.next hB02 hB2 (Nat.le_refl _)
        by_cases hlt : k < zs.length
        · obtain ⟨b, off, rfl, hbb, hc⟩ := h5 (by omega)
          have c1 : wr.cell? ⟨b, off + k, none⟩ = some (.int .i64 (zs.getD k 0)) := (hB.cell (p := ⟨b, off + k, none⟩) hbb).trans (hc k (by omega))
          have ho := allOk_at HALL.out hlt
          have hl1 := encN_len_snoc hlt
          have hl2 := HPRE.out (k + 1) (by omega)
          have hz := (okN_iff _).1 ho
          have hp := enc_pos (zs.getD k 0).toNat
          generalize hs : zs.getD k 0 = z at c1 ho hl1 hz hp
          have HO := Lib.hid ho
          have HL := Lib.hid hl1
          clear hc h5 hs ho
          go_wp2_with fail
          refine (Size_any wr wr.heap.size z (Nat.le_refl _)).mono ?_
          rintro e w' ⟨rfl, hB'⟩
          rw [sizeN_ok HO.out]
          rw [hl1] at hl2
          generalize (enc z.toNat).length = c at *
          generalize (encN (zs.take k)).length = m at *
          have hB'' := Below.next hB2 hB' (Nat.le_refl _)
          clear hB' hB hB2 hl1
          go_wp2
          go_roundw
          case rel => exact ⟨k + 1, by omega, by rw [HL.out]; go_num, by go_num, hB''⟩
          case measure => simp [intOf]; omega
        · have hkk : k = zs.length := by omega
          subst hkk
          rw [List.take_length]
          have hr3 := rd.below hr2 hB2
          obtain ⟨ax, cx, rfl, hx2, hx3, _⟩ := rdB.cells hr3
          have hr4 := hr3.mono hB2.size
          clear hr2 hB2 hB02 HPRE hlt hk hr3
          go_wp2
          go_loopw [3, 8] (fun c i wq => ∃ k : Nat, k ≤ zs.length ∧ i = .int .i64 k ∧ rdB wq.heap.size wq c (encN (zs.drop k)) ∧ Below w0.heap.size w0 wq)
            (fun _ i _ => zs.length - (intOf i).toNat)
          case atStart => exact ⟨0, Nat.zero_le _, rfl, hr4, hB⟩
          case round =>
            obtain ⟨k, hk, rfl, hr, hB5⟩ := hrel
            by_cases hlt : k < zs.length
            · obtain ⟨b, off, rfl, hbb, hc⟩ := h5 (by omega)
              have ho := allOk_at HALL.out hlt
              have hcut := encN_cut hlt
              have hz := (okN_iff _).1 ho
              have hl := encN_drop_le zs k
              have hc := hc k (by omega)
              obtain ⟨m, hm⟩ := Int.eq_ofNat_of_zero_le hz.1
              rw [hm] at hc hcut hz
              rw [Int.toNat_natCast] at hcut
              have HN := Lib.hid (numR_app (n := m) (by omega) (encN (zs.drop (k + 1))))
              rw [← hcut] at HN
              clear hcut h5 hm ho
              go_wp2_with fail
              refine (Num_any _ _ w0.heap.size _ (encN (zs.drop k)) hr hB5.size (by omega)).mono ?_
              unfold NumRPost
              rw [HN.out]
              rintro e w' ⟨v7, rfl, hN7, hB7⟩
              have c1 : w'.cell? ⟨b, off + k, none⟩ = some (.int .i64 m) := ((hB5.trans hB7).cell (p := ⟨b, off + k, none⟩) hbb).trans hc
              have hr7 := hN7.1
              have hB8 := hB5.trans hB7
              clear hN7 hB7 hc hB5 hr
              go_wp2
              go_roundw
              case rel => exact ⟨k + 1, by omega, by go_num, hr7, hB8⟩
              case measure => simp [intOf]; omega
            · have hkk : k = zs.length := by omega
              subst hkk
              rw [List.drop_length] at hr
              obtain ⟨ay, cy, rfl, hy2, hy3, _⟩ := rdB.cells hr
              go_wp2
              go_ret
              exact ⟨rfl, hB5⟩
end Go.Proofs.Ytnpiipflpmhpbaa
