import Derived.Test.YtnpiipflpmhpbaaW3
namespace Go.Proofs.Ytnpiipflpmhpbaa
open Go.RowKit

/-- a readable row of texts; of numbers -/
def rdT (B : Nat) (w : World) (v : Value) (ss : List (List UInt8)) : Prop := rd B w 1 v ss.length (ss.map strOf)
def rdI (B : Nat) (w : World) (v : Value) (zs : List Int) : Prop := rd B w 1 v zs.length (zs.map (Value.int .i64))

theorem rd.cells {B : Nat} {w : World} {v : Value} {n : Nat} {xs : List Value} (h : rd B w 1 v n xs) : ∃ a cap, v = .slice a n cap ∧ n ≤ cap ∧ cap ≤ 9223372036854775807 ∧ (a = none → cap = 0) ∧
    (0 < n → ∃ b off, a = some ⟨b, off, none⟩ ∧ b < B ∧ ∀ j, j < n → w.cell? ⟨b, off + j, none⟩ = xs[j]?) := by
  obtain ⟨h0, a, cap, h1, h2, h3, h4, h5⟩ := h
  refine ⟨a, cap, h1, h2, by simpa [maxLen] using h3, h4, fun hn => ?_⟩
  obtain ⟨b, off, e1, e2, e3⟩ := h5 hn
  refine ⟨b, off, e1, e2, fun j hj => ?_⟩
  have hj2 : j < xs.length := by omega
  rw [e3 j xs[j] (by simp [hj2])]
  simp [hj2]

theorem rdT.cells {B : Nat} {w : World} {v : Value} {ss : List (List UInt8)} (h : rdT B w v ss) : ∃ a cap, v = .slice a ss.length cap ∧ ss.length ≤ cap ∧ cap ≤ 9223372036854775807 ∧ (a = none → cap = 0) ∧
    (0 < ss.length → ∃ b off, a = some ⟨b, off, none⟩ ∧ b < B ∧ ∀ j, j < ss.length → w.cell? ⟨b, off + j, none⟩ = some (.string ⟨(ss.getD j []).toArray⟩)) := by
  obtain ⟨a, cap, h1, h2, h3, h4, h5⟩ := rd.cells h
  refine ⟨a, cap, h1, h2, h3, h4, fun hn => ?_⟩
  obtain ⟨b, off, e1, e2, e3⟩ := h5 hn
  refine ⟨b, off, e1, e2, fun j hj => ?_⟩
  rw [e3 j hj]
  simp [List.getD_eq_getElem?_getD, hj, strOf]

theorem rdI.cells {B : Nat} {w : World} {v : Value} {zs : List Int} (h : rdI B w v zs) : ∃ a cap, v = .slice a zs.length cap ∧ zs.length ≤ cap ∧ cap ≤ 9223372036854775807 ∧ (a = none → cap = 0) ∧
    (0 < zs.length → ∃ b off, a = some ⟨b, off, none⟩ ∧ b < B ∧ ∀ j, j < zs.length → w.cell? ⟨b, off + j, none⟩ = some (.int .i64 (zs.getD j 0))) := by
  obtain ⟨a, cap, h1, h2, h3, h4, h5⟩ := rd.cells h
  refine ⟨a, cap, h1, h2, h3, h4, fun hn => ?_⟩
  obtain ⟨b, off, e1, e2, e3⟩ := h5 hn
  refine ⟨b, off, e1, e2, fun j hj => ?_⟩
  rw [e3 j hj]
  simp [List.getD_eq_getElem?_getD, hj]

theorem szB (l : List UInt8) : ByteArray.size ⟨l.toArray⟩ = l.length := by simp [ByteArray.size]

/-- texts' bytes -/
def encT (ss : List (List UInt8)) : List UInt8 := ss.flatMap fun s => enc s.length ++ s
theorem encT_snoc {ss : List (List UInt8)} {k : Nat} (hk : k < ss.length) : encT (ss.take (k + 1)) = encT (ss.take k) ++ enc (ss.getD k []).length ++ ss.getD k [] := by
  unfold encT
  rw [List.take_succ_eq_append_getElem hk, List.flatMap_append]
  simp [List.getD_eq_getElem?_getD, hk]
theorem encT_le (ss : List (List UInt8)) (k : Nat) : (encT (ss.take k)).length ≤ (encT ss).length := by
  have h : encT ss = encT (ss.take k) ++ encT (ss.drop k) := by
    conv => lhs; rw [← List.take_append_drop k ss]
    simp only [encT, List.flatMap_append]
  rw [h, List.length_append]; omega
/-- numbers' bytes -/
def encN (zs : List Int) : List UInt8 := zs.flatMap fun z => enc z.toNat
theorem encN_snoc {zs : List Int} {k : Nat} (hk : k < zs.length) : encN (zs.take (k + 1)) = encN (zs.take k) ++ enc (zs.getD k 0).toNat := by
  unfold encN
  rw [List.take_succ_eq_append_getElem hk, List.flatMap_append]
  simp [List.getD_eq_getElem?_getD, hk]
theorem encN_le : ∀ (zs : List Int), (∀ z ∈ zs, z.toNat ≤ 1099511627776) → (encN zs).length ≤ 6 * zs.length
  | [], _ => by simp [encN]
  | z :: zs, h => by
    have h1 := encN_le zs fun x hx => h x (List.mem_cons_of_mem _ hx)
    have h2 := enc_le6 z.toNat (h z (List.mem_cons_self ..))
    simp only [encN, List.flatMap_cons, List.length_append, List.length_cons] at h1 ⊢
    omega

set_option maxRecDepth 100000 in
set_option maxHeartbeats 1000000 in
theorem texts_any (w0 : World) (base : Nat) (v u : Value) (xs : List UInt8) (ss : List (List UInt8)) (hown : w0.ownsRow base 5 1 v xs.length (bvs xs)) (hb : base ≤ w0.heap.size)
    (hu : rdT base w0 u ss) (hx : xs.length + (encT ss).length ≤ 1099511627776) :
    Calls Try.prog 33 #[v, u] w0 (GiveB base w0 v (xs ++ encT ss)) := by
  have hu' := hu
  obtain ⟨a, cap, rfl, h2, h3, h4, h5⟩ := hu.cells
  go_enter Try.func33, Try.ntmps33
  go_wp2
  go_loopw [0, 9] (fun b i wr => ∃ k : Nat, k ≤ ss.length ∧ i = .int .i64 k ∧ App w0 wr base 5 1 v b (xs ++ encT (ss.take k)).length (bvs (xs ++ encT (ss.take k))))
    (fun _ i _ => ss.length - (intOf i).toNat)
  case atStart => exact ⟨0, Nat.zero_le _, rfl, app_len (App.refl hown) (by simp [encT]) (by simp [encT])⟩
  case round =>
    obtain ⟨k, hk, rfl, hA⟩ := hrel
    have hB := hA.below hown (Nat.le_refl _) hb
    have hsz := hB.size
    have hle := encT_le ss k
    by_cases hlt : k < ss.length
    · obtain ⟨b, off, rfl, hbb, hc⟩ := h5 (by omega)
      have c1 : wr.cell? ⟨b, off + k, none⟩ = some (.string ⟨(ss.getD k []).toArray⟩) := (hB.cell (p := ⟨b, off + k, none⟩) hbb).trans (hc k (by omega))
      have hle2 := encT_le ss (k + 1)
      have hsn := encT_snoc hlt
      have hsl : (encT (ss.take (k + 1))).length = (encT (ss.take k)).length + (enc (ss.getD k []).length).length + (ss.getD k []).length := by rw [hsn]; simp; omega
      generalize hs : ss.getD k [] = s at c1 hsn hsl
      have HSN := Lib.hid hsn
      have HS := Lib.hid hs
      have HU := Lib.hid hu'
      clear hc h5 hsn hs hu'
      go_wp2_with fail
      refine (put_any wr base _ (xs ++ encT (ss.take k)) s.length hA.own (by omega) (by simp; omega) (by omega)).mono ?_
      rintro e w1 ⟨v1, rfl, hA1⟩
      have hz1 := hA1.grown.size
      go_wp2_with (refine stp 18 ?_)
      intro _
      refine wpList_appStr rfl (.tmp 16) (.tmp 17) 24 9 rfl el24 Try.underlying9 rfl hA1.own ⟨s.toArray⟩ rfl (maxLen_ge (by rw [szB]; simp; omega)) (by rw [szB]; simp; omega) (by omega) fun v' w' hA2 => ?_
      have hA3 : App w0 w' base 5 1 v v' (xs ++ encT (ss.take (k + 1))).length (bvs (xs ++ encT (ss.take (k + 1)))) :=
        app_len ((hA.trans hA1).trans hA2) (by rw [HSN.out, szB]; simp; omega) (by rw [HSN.out]; simp [bvs, Bv])
      clear hA hA1 hA2
      go_wp2
      go_roundw
      case rel => exact ⟨k + 1, by omega, by go_num, hA3⟩
      case measure => simp [intOf]; omega
    · have hkk : k = ss.length := by omega
      have hA3 : App w0 wr base 5 1 v u0 (xs ++ encT ss).length (bvs (xs ++ encT ss)) := app_len hA (by rw [hkk, List.take_length]) (by rw [hkk, List.take_length])
      clear hA h5 hkk
      go_wp2
      go_ret
      exact ⟨_, rfl, hA3⟩

set_option maxRecDepth 100000 in
theorem Texts_any (w0 : World) (base : Nat) (u : Value) (ss : List (List UInt8)) (hb : base ≤ w0.heap.size) (hu : rdT base w0 u ss) (hx : (encT ss).length ≤ 1099511627776) :
    Calls Try.prog 21 #[u] w0 (NewB base w0 (encT ss)) := by
  go_enter Try.func21, Try.ntmps21
  go_wp2_with fail
  refine (texts_any w0 base _ _ [] ss (World.ownsRow_nil _ _ _ _) hb hu (by simpa using hx)).mono ?_
  rintro e w1 ⟨v1, rfl, hA⟩
  rw [List.nil_append] at hA
  go_wp2
  go_ret
  exact ⟨_, rfl, hA.own, hA.below (World.ownsRow_nil _ _ _ _) (Nat.le_refl _) hb⟩

set_option maxRecDepth 100000 in
theorem List_any (w0 : World) (base : Nat) (u : Value) (ss : List (List UInt8)) (hb : base ≤ w0.heap.size) (hu : rdT base w0 u ss) (hx : (encT ss).length + 9 ≤ 1099511627776) :
    Calls Try.prog 23 #[u] w0 (NewB base w0 (enc ss.length ++ encT ss)) := by
  have hu' := hu
  obtain ⟨a, cap, rfl, h2, h3, h4, h5⟩ := hu.cells
  clear h5 h4
  have hn9 := enc_le ss.length (by omega)
  go_enter Try.func23, Try.ntmps23
  go_wp2_with fail
  refine (put_any w0 base _ [] ss.length (World.ownsRow_nil _ _ _ _) hb (by simp) (by omega)).mono ?_
  rintro e w1 ⟨v1, rfl, hA⟩
  have hB1 : Below base w0 w1 := hA.below (World.ownsRow_nil _ _ _ _) (Nat.le_refl _) hb
  have hz := hA.grown.size
  go_wp2_with fail
  refine (texts_any w1 base _ _ _ ss hA.own (by omega) (hu'.below hB1) (by simp; omega)).mono ?_
  rintro e w2 ⟨v2, rfl, hA2⟩
  rw [List.nil_append] at hA2
  go_wp2
  go_ret
  exact ⟨_, rfl, hA2.own, hB1.trans (hA2.below hA.own (Nat.le_refl _) (by omega))⟩
end Go.Proofs.Ytnpiipflpmhpbaa
