import Derived.Test.YtnpiipflpmhpbaaW4
namespace Go.Proofs.Ytnpiipflpmhpbaa
open Go.RowKit

/-- what Nums hands back -/
def OwnPost2 (base : Nat) (l : List UInt8) (b : Bool) (w : World) (e : Ending) (w' : World) : Prop :=
  ∃ v', e = .returned (.tuple #[v', .bool b]) ∧ w'.ownsRow base 5 1 v' l.length (bvs l) ∧ Below base w w'

def allOk (zs : List Int) : Bool := zs.all okN
def numsR (zs : List Int) : List UInt8 × Bool := if allOk zs then (encN zs, true) else ([], false)
def NumsPost (zs : List Int) (base : Nat) : World → Ending → World → Prop := OwnPost2 base (numsR zs).1 (numsR zs).2

theorem okN_iff (z : Int) : okN z = true ↔ 0 ≤ z ∧ z ≤ 1099511627776 := by simp [okN]

theorem NumsPost.bad {zs : List Int} {base : Nat} {w w' : World} {k : Nat} (hk : k < zs.length) (h : okN (zs.getD k 0) = false) (hB : Below base w w') : NumsPost zs base w (.returned (.tuple #[.slice none 0 0, .bool false])) w' := by
  have : allOk zs = false := by
    unfold allOk
    rw [List.all_eq_false]
    refine ⟨zs[k], List.getElem_mem hk, ?_⟩
    have e : zs.getD k 0 = zs[k] := by simp [List.getD_eq_getElem?_getD, hk]
    rw [e] at h
    simp [h]
  unfold NumsPost numsR
  rw [this]
  exact ⟨_, rfl, World.ownsRow_nil _ _ _ _, hB⟩

theorem NumsPost.good {zs : List Int} {base : Nat} {w w' : World} {v : Value} (h : ∀ j, j < zs.length → okN (zs.getD j 0) = true) (ho : w'.ownsRow base 5 1 v (encN zs).length (bvs (encN zs))) (hB : Below base w w') :
    NumsPost zs base w (.returned (.tuple #[v, .bool true])) w' := by
  have : allOk zs = true := by
    unfold allOk
    rw [List.all_eq_true]
    intro x hx
    obtain ⟨j, hj, rfl⟩ := List.getElem_of_mem hx
    have := h j hj
    simpa [List.getD_eq_getElem?_getD, hj] using this
  unfold NumsPost numsR
  rw [this]
  exact ⟨_, rfl, ho, hB⟩

theorem encN_pre {zs : List Int} {k : Nat} (hk : k ≤ zs.length) (h : ∀ j, j < k → okN (zs.getD j 0) = true) : (encN (zs.take k)).length ≤ 6 * k := by
  have := encN_le (zs.take k) fun z hz => by
    obtain ⟨j, hj, rfl⟩ := List.getElem_of_mem hz
    rw [List.length_take] at hj
    have h1 := h j (by omega)
    have hj2 : j < zs.length := by omega
    have e : zs.getD j 0 = zs[j] := by simp [List.getD_eq_getElem?_getD, hj2]
    rw [e, okN_iff] at h1
    rw [List.getElem_take]
    omega
  rw [List.length_take] at this
  omega

set_option maxRecDepth 100000 in
set_option maxHeartbeats 1000000 in
theorem Nums_any (w0 : World) (base : Nat) (u : Value) (zs : List Int) (hb : base ≤ w0.heap.size) (hu : rdI base w0 u zs) (hx : zs.length ≤ 1000000000) :
    Calls Try.prog 11 #[u] w0 (NumsPost zs base w0) := by
  obtain ⟨a, cap, rfl, h2, h3, h4, h5⟩ := hu.cells
  go_enter Try.func11, Try.ntmps11
  go_wp2
  go_loopw [4, 9] (fun b i wr => ∃ k : Nat, k ≤ zs.length ∧ i = .int .i64 k ∧ wr.ownsRow base 5 1 b (encN (zs.take k)).length (bvs (encN (zs.take k))) ∧ Below base w0 wr ∧ ∀ j, j < k → okN (zs.getD j 0) = true)
    (fun _ i _ => zs.length - (intOf i).toNat)
  case atStart => exact ⟨0, Nat.zero_le _, rfl, World.ownsRow_nil _ _ _ _, Below.refl _ _, fun j hj => absurd hj (by omega)⟩
  case round =>
    obtain ⟨k, hk, rfl, hA, hB, hok⟩ := hrel
    have hsz := hB.size
    have hle := encN_pre hk hok
    have HOK := Lib.hid hok
    clear hok
    by_cases hlt : k < zs.length
    · obtain ⟨b, off, rfl, hbb, hc⟩ := h5 (by omega)
      have c1 : wr.cell? ⟨b, off + k, none⟩ = some (.int .i64 (zs.getD k 0)) := (hB.cell (p := ⟨b, off + k, none⟩) hbb).trans (hc k (by omega))
      have hsn := encN_snoc hlt
      generalize hs : zs.getD k 0 = z at c1 hsn
      have HSN := Lib.hid hsn
      have HS := Lib.hid hs
      clear hc h5 hsn hs
      cases ho : okN z with
      | false =>
        have HO := Lib.hid ho
        clear ho
        go_wp2_with fail
        refine (right_any _ _).mono ?_
        rintro e w' ⟨rfl, rfl⟩
        rw [HO.out]
        go_wp2
        go_ret2
        exact NumsPost.bad hlt (by rw [HS.out]; exact HO.out) hB
      | true =>
        have hz := (okN_iff z).1 ho
        obtain ⟨m, rfl⟩ := Int.eq_ofNat_of_zero_le hz.1
        have HO := Lib.hid ho
        clear ho
        go_wp2_with fail
        refine (right_any _ _).mono ?_
        rintro e w' ⟨rfl, rfl⟩
        rw [HO.out]
        go_wp2_with fail
        refine (put_any wr base _ (encN (zs.take k)) m hA (by omega) (by omega) (by omega)).mono ?_
        rintro e w1 ⟨v1, rfl, hA1⟩
        have hA2 : w1.ownsRow base 5 1 v1 (encN (zs.take (k + 1))).length (bvs (encN (zs.take (k + 1)))) := by rw [HSN.out]; exact hA1.own
        have hB2 : Below base w0 w1 := hB.trans (hA1.below hA (Nat.le_refl _) (by omega))
        clear hA1 hA hB
        go_wp2
        go_roundw
        case rel =>
          refine ⟨k + 1, by omega, by go_num, hA2, hB2, fun j hj => ?_⟩
          by_cases hjk : j < k
          · exact HOK.out j hjk
          · have : j = k := by omega
            subst this
            rw [HS.out]; exact HO.out
        case measure => simp [intOf]; omega
    · have hkk : k = zs.length := by omega
      have hA2 : wr.ownsRow base 5 1 u4 (encN zs).length (bvs (encN zs)) := by rw [hkk, List.take_length] at hA; exact hA
      have HOK2 : Hid (∀ j, j < zs.length → okN (zs.getD j 0) = true) := fun j hj => HOK.out j (by omega)
      clear hA h5 hkk HOK
      go_wp2
      go_ret2
      exact NumsPost.good HOK2.out hA2 hB

set_option maxRecDepth 100000 in
set_option maxHeartbeats 1000000 in
theorem refNums_any (w0 : World) (base : Nat) (u : Value) (zs : List Int) (hb : base ≤ w0.heap.size) (hu : rdI base w0 u zs) (hx : zs.length ≤ 1000000000) :
    Calls Try.prog 12 #[u] w0 (NumsPost zs base w0) := by
  obtain ⟨a, cap, rfl, h2, h3, h4, h5⟩ := hu.cells
  go_enter Try.func12, Try.ntmps12
  go_wp2
  go_loopw [4, 5] (fun b i wr => ∃ k : Nat, k ≤ zs.length ∧ i = .int .i64 k ∧ wr.ownsRow base 5 1 b (encN (zs.take k)).length (bvs (encN (zs.take k))) ∧ Below base w0 wr ∧ ∀ j, j < k → okN (zs.getD j 0) = true)
    (fun _ i _ => zs.length - (intOf i).toNat)
  case atStart => exact ⟨0, Nat.zero_le _, rfl, own.lit w0 [] 5 1 0 base rfl (Nat.zero_le _) hb, (Below.refl _ _).alloc hb _, fun j hj => absurd hj (by omega)⟩
  case round =>
    obtain ⟨k, hk, rfl, hA, hB, hok⟩ := hrel
    have hsz := hB.size
    have hle := encN_pre hk hok
    have HOK := Lib.hid hok
    clear hok
    by_cases hlt : k < zs.length
    · obtain ⟨b, off, rfl, hbb, hc⟩ := h5 (by omega)
      have c1 : wr.cell? ⟨b, off + k, none⟩ = some (.int .i64 (zs.getD k 0)) := (hB.cell (p := ⟨b, off + k, none⟩) hbb).trans (hc k (by omega))
      have hsn := encN_snoc hlt
      generalize hs : zs.getD k 0 = z at c1 hsn
      have HSN := Lib.hid hsn
      have HS := Lib.hid hs
      clear hc h5 hsn hs
      by_cases h0 : 0 ≤ z
      · by_cases h1 : z ≤ 1099511627776
        · have HO := Lib.hid ((okN_iff z).2 ⟨h0, h1⟩)
          obtain ⟨m, rfl⟩ := Int.eq_ofNat_of_zero_le h0
          go_wp2_with fail
          refine (one_any wr wr.heap.size m (Nat.le_refl _) (by omega)).mono ?_
          rintro e w1 ⟨v1, rfl, hO1, hB1⟩
          have hA1 := own.below hA hB1
          have hz1 := hB1.size
          have hn9 := enc_le m (by omega)
          go_wp2_with (refine stp 31 ?_)
          intro _
          refine wpList_app rfl (.tmp 25) (.tmp 30) 24 rfl el24 rfl hA1 rfl (rd.of_own hO1) (bvs_one _) (maxLen_ge (by omega)) (by omega) (by omega) fun v' w' hA' => ?_
          have hA2 : w'.ownsRow base 5 1 v' (encN (zs.take (k + 1))).length (bvs (encN (zs.take (k + 1)))) := by
            have := hA'.own
            rw [HSN.out, bvs_app, List.length_append]; exact this
          have hB2 : Below base w0 w' := (hB.trans (hB1.mono (by omega))).trans (hA'.below hA1 (Nat.le_refl _) (by omega))
          clear hA1 hA hB hA' hO1 hB1
          go_wp2
          go_roundw
          case rel =>
            refine ⟨k + 1, by omega, by go_num, hA2, hB2, fun j hj => ?_⟩
            by_cases hjk : j < k
            · exact HOK.out j hjk
            · have : j = k := by omega
              subst this
              rw [HS.out]; exact HO.out
          case measure => simp [intOf]; omega
        · have HO : Hid (okN z = false) := by
            show okN z = false
            rw [← Bool.not_eq_true, okN_iff]; omega
          go_wp2
          go_ret2
          exact NumsPost.bad hlt (by rw [HS.out]; exact HO.out) hB
      · have HO : Hid (okN z = false) := by
          show okN z = false
          rw [← Bool.not_eq_true, okN_iff]; omega
        go_wp2
        go_ret2
        exact NumsPost.bad hlt (by rw [HS.out]; exact HO.out) hB
    · have hkk : k = zs.length := by omega
      have hA2 : wr.ownsRow base 5 1 u4 (encN zs).length (bvs (encN zs)) := by rw [hkk, List.take_length] at hA; exact hA
      have HOK2 : Hid (∀ j, j < zs.length → okN (zs.getD j 0) = true) := fun j hj => HOK.out j (by omega)
      clear hA h5 hkk HOK
      go_wp2
      go_ret2
      exact NumsPost.good HOK2.out hA2 hB

set_option maxRecDepth 100000 in
set_option maxHeartbeats 1000000 in
theorem refTexts_any (w0 : World) (base : Nat) (u : Value) (ss : List (List UInt8)) (hb : base ≤ w0.heap.size) (hu : rdT base w0 u ss) (hx : (encT ss).length ≤ 1099511627776) :
    Calls Try.prog 22 #[u] w0 (NewB base w0 (encT ss)) := by
  obtain ⟨a, cap, rfl, h2, h3, h4, h5⟩ := hu.cells
  go_enter Try.func22, Try.ntmps22
  go_wp2
  go_loopw [3, 4] (fun b i wr => ∃ k : Nat, k ≤ ss.length ∧ i = .int .i64 k ∧ wr.ownsRow base 5 1 b (encT (ss.take k)).length (bvs (encT (ss.take k))) ∧ Below base w0 wr)
    (fun _ i _ => ss.length - (intOf i).toNat)
  case atStart => exact ⟨0, Nat.zero_le _, rfl, own.lit w0 [] 5 1 0 base rfl (Nat.zero_le _) hb, (Below.refl _ _).alloc hb _⟩
  case round =>
    obtain ⟨k, hk, rfl, hA, hB⟩ := hrel
    have hsz := hB.size
    have hle := encT_le ss k
    by_cases hlt : k < ss.length
    · obtain ⟨b, off, rfl, hbb, hc⟩ := h5 (by omega)
      have c1 : wr.cell? ⟨b, off + k, none⟩ = some (.string ⟨(ss.getD k []).toArray⟩) := (hB.cell (p := ⟨b, off + k, none⟩) hbb).trans (hc k (by omega))
      have hle2 := encT_le ss (k + 1)
      have hsn := encT_snoc hlt
      have hsl : (encT (ss.take (k + 1))).length = (encT (ss.take k)).length + (enc (ss.getD k []).length).length + (ss.getD k []).length := by rw [hsn]; simp; omega
      generalize hs : ss.getD k [] = s at c1 hsn hsl
      have HSN := Lib.hid hsn
      have HS := Lib.hid hs
      clear hc h5 hsn hs
      go_wp2_with fail
      refine (one_any wr wr.heap.size s.length (Nat.le_refl _) (by omega)).mono ?_
      rintro e w1 ⟨v1, rfl, hO1, hB1⟩
      have hA1 := own.below hA hB1
      have hz1 := hB1.size
      have c2 : w1.cell? ⟨b, off + k, none⟩ = some (.string ⟨s.toArray⟩) := (hB1.cell (p := ⟨b, off + k, none⟩) (by show b < _; omega)).trans c1
      go_wp2_with (refine stp 19 ?_)
      intro _
      refine wpList_app rfl (.tmp 12) (.tmp 18) 24 rfl el24 rfl hA1 rfl (rd.of_own hO1) (bvs_one _) (maxLen_ge (by omega)) (by omega) (by omega) fun v2 w2 hA2 => ?_
      have hB2 := hA2.below hA1 (Nat.le_refl _) (by omega)
      have hz2 := hA2.grown.size
      have hO2 := hA2.own
      have c3 : w2.cell? ⟨b, off + k, none⟩ = some (.string ⟨s.toArray⟩) := (hB2.cell (p := ⟨b, off + k, none⟩) hbb).trans c2
      go_wp2_with (refine stp 25 ?_)
      intro _
      refine wpList_appStr rfl (.tmp 20) (.tmp 24) 24 9 rfl el24 Try.underlying9 rfl hO2 ⟨s.toArray⟩ rfl (maxLen_ge (by rw [szB]; omega)) (by rw [szB]; omega) (by omega) fun v' w' hA' => ?_
      have hA3 : w'.ownsRow base 5 1 v' (encT (ss.take (k + 1))).length (bvs (encT (ss.take (k + 1)))) := by
        have h := hA'.own
        rw [szB] at h
        have e1 : (encT (ss.take (k + 1))).length = (encT (ss.take k)).length + (enc s.length).length + s.length := by omega
        have e2 : bvs (encT (ss.take (k + 1))) = bvs (encT (ss.take k)) ++ bvs (enc s.length) ++ List.map (fun b => Value.int .u8 b.toNat) s := by rw [HSN.out, bvs_app, bvs_app]; rfl
        rw [e1, e2]; simpa using h
      have hB3 : Below base w0 w' := ((hB.trans (hB1.mono (by omega))).trans hB2).trans (hA'.below hO2 (Nat.le_refl _) (by omega))
      clear hA hA1 hA2 hA' hB hB1 hB2 hO1 hO2 c1 c2 c3
      go_wp2
      go_roundw
      case rel => exact ⟨k + 1, by omega, by go_num, hA3, hB3⟩
      case measure => simp [intOf]; omega
    · have hkk : k = ss.length := by omega
      have hA3 : wr.ownsRow base 5 1 u3 (encT ss).length (bvs (encT ss)) := by rw [hkk, List.take_length] at hA; exact hA
      clear hA h5 hkk
      go_wp2
      go_ret
      exact ⟨_, rfl, hA3, hB⟩

set_option maxRecDepth 100000 in
theorem refList_any (w0 : World) (base : Nat) (u : Value) (ss : List (List UInt8)) (hb : base ≤ w0.heap.size) (hu : rdT base w0 u ss) (hx : (encT ss).length + 9 ≤ 1099511627776) :
    Calls Try.prog 24 #[u] w0 (NewB base w0 (enc ss.length ++ encT ss)) := by
  have hu' := hu
  obtain ⟨a, cap, rfl, h2, h3, h4, h5⟩ := hu.cells
  clear h5 h4
  have hn9 := enc_le ss.length (by omega)
  go_enter Try.func24, Try.ntmps24
  go_wp2_with fail
  refine (one_any w0 base ss.length hb (by omega)).mono ?_
  rintro e w1 ⟨v1, rfl, hO1, hB1⟩
  have hz1 := hB1.size
  go_wp2_with fail
  refine (refTexts_any w1 w1.heap.size _ ss (Nat.le_refl _) ((hu'.below hB1).mono (by omega)) (by omega)).mono ?_
  rintro e w2 ⟨v2, rfl, hO2, hB2⟩
  have hz2 := hB2.size
  have hO3 := own.below hO1 hB2
  go_wp2_with (refine stp 8 ?_)
  intro _
  refine wpList_app rfl (.tmp 5) (.tmp 7) 24 rfl el24 rfl hO3 rfl (rd.of_own hO2) (bvs_one _) (maxLen_ge (by omega)) (by omega) (by omega) fun v' w' hA' => ?_
  have hA3 : w'.ownsRow base 5 1 v' (enc ss.length ++ encT ss).length (bvs (enc ss.length ++ encT ss)) := by
    have h := hA'.own
    rw [bvs_app, List.length_append]; exact h
  have hB3 : Below base w0 w' := (hB1.trans (hB2.mono (by omega))).trans (hA'.below hO3 (Nat.le_refl _) (by omega))
  clear hO1 hO2 hO3 hA'
  go_wp2
  go_ret
  exact ⟨_, rfl, hA3, hB3⟩
end Go.Proofs.Ytnpiipflpmhpbaa
