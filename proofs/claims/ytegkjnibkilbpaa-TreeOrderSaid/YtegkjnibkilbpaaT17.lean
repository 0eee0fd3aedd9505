import Derived.Test.YtegkjnibkilbpaaT16
namespace Go.Proofs.Ytegkjnibkilbpaa
open Go.RowKit

abbrev strOf (l : List UInt8) : Value := .string ⟨l.toArray⟩
def rdT (B : Nat) (w : World) (v : Value) (ss : List (List UInt8)) : Prop := rd B w 1 v ss.length (ss.map strOf)
def rdI (B : Nat) (w : World) (v : Value) (zs : List Int) : Prop := rd B w 1 v zs.length (zs.map (Value.int .i64))

theorem rd.cells {B : Nat} {w : World} {v : Value} {n : Nat} {xs : List Value} (h : rd B w 1 v n xs) : ∃ a cap, v = .slice a n cap ∧ n ≤ cap ∧ cap ≤ 9223372036854775807 ∧ (a = none → cap = 0) ∧
    (0 < n → ∃ b off, a = some ⟨b, off, none⟩ ∧ b < B ∧ ∀ j, j < n → w.cell? ⟨b, off + j, none⟩ = xs[j]?) := by
  obtain ⟨h0, a, cap, h1, h2, h3, h4, h5⟩ := h
  refine ⟨a, cap, h1, h2, by simpa [maxLen] using h3, h4, fun hn => ?_⟩
  obtain ⟨b, off, e1, e2, e3⟩ := h5 hn
  refine ⟨b, off, e1, e2, fun j hj => ?_⟩
  have hj2 : j < xs.length := by omega
  rw [e3 j xs[j] (by simp [hj2])]
  simp [hj2]

theorem rdT.cells {B : Nat} {w : World} {v : Value} {ss : List (List UInt8)} (h : rdT B w v ss) : ∃ a cap, v = .slice a ss.length cap ∧ ss.length ≤ cap ∧ cap ≤ 9223372036854775807 ∧ (a = none → cap = 0) ∧
    (0 < ss.length → ∃ b off, a = some ⟨b, off, none⟩ ∧ b < B ∧ ∀ j, j < ss.length → w.cell? ⟨b, off + j, none⟩ = some (.string ⟨(ss.getD j []).toArray⟩)) := by
  obtain ⟨a, cap, h1, h2, h3, h4, h5⟩ := rd.cells h
  refine ⟨a, cap, h1, h2, h3, h4, fun hn => ?_⟩
  obtain ⟨b, off, e1, e2, e3⟩ := h5 hn
  refine ⟨b, off, e1, e2, fun j hj => ?_⟩
  rw [e3 j hj]
  simp [List.getD_eq_getElem?_getD, hj, strOf]

def sameT (a b : List (List UInt8)) : Bool := decide (a = b)

theorem getDT_eq_of {a b : List (List UInt8)} (h : a.length = b.length) (hj : ∀ j, j < a.length → a.getD j [] = b.getD j []) : a = b := by
  apply List.ext_getElem h
  intro j h1 h2
  have := hj j h1
  simpa [List.getD_eq_getElem?_getD, h1, h2] using this

set_option maxRecDepth 100000 in
set_option maxHeartbeats 400000 in
theorem sameT_any (w0 : World) (B C : Nat) (u v : Value) (l m : List (List UInt8)) (hu : rdT B w0 u l) (hv : rdT C w0 v m) :
    Calls Try.prog 14 #[u, v] w0 fun e w' => e = .returned (.bool (sameT l m)) ∧ ∃ n, w' = w0.drewN n := by
  obtain ⟨a, cap, rfl, h2, h3, h4, h5⟩ := hu.cells
  obtain ⟨a', cap', rfl, h2', h3', h4', h5'⟩ := hv.cells
  by_cases hlen : l.length = m.length
  · have hne : ((l.length : Int) != (m.length : Int)) = false := by simp [hlen]
    go_enter Try.func14, Try.ntmps14
    go_wp2
    go_loopw [5] (fun i wr => ∃ k : Nat, k ≤ l.length ∧ i = .int .i64 k ∧ (∃ n, wr = w0.drewN n) ∧ ∀ j, j < k → l.getD j [] = m.getD j [])
      (fun i _ => l.length - (intOf i).toNat)
    case atStart => exact ⟨0, Nat.zero_le _, rfl, ⟨0, rfl⟩, fun j hj => absurd hj (by omega)⟩
    case round =>
      obtain ⟨k, hk, rfl, ⟨n, rfl⟩, hsame⟩ := hrel
      by_cases hlt : k < l.length
      · obtain ⟨b, off, rfl, _, hc⟩ := h5 (by omega)
        obtain ⟨b', off', rfl, _, hc'⟩ := h5' (by omega)
        have c1 : w0.cell? ⟨b, off + k, none⟩ = some (.string ⟨(l.getD k []).toArray⟩) := hc k hlt
        have c2 : w0.cell? ⟨b', off' + k, none⟩ = some (.string ⟨(m.getD k []).toArray⟩) := hc' k (by omega)
        have HS := Lib.hid hsame
        have i1 : ((k : Int) < (l.length : Int)) := by omega
        have i2 : ((k : Int) < (m.length : Int)) := by omega
        clear hc hc' h5 h5' hsame hne
        generalize hx : l.getD k [] = x at c1
        generalize hy : m.getD k [] = y at c2
        have HX := Lib.hid hx
        have HY := Lib.hid hy
        have HL := Lib.hid hlen
        clear hx hy hlen
        by_cases hxy : x = y
        · subst hxy
          go_wp2
          go_quiet (fail)
          go_wp2
          go_roundw
          case rel =>
            refine ⟨k + 1, by omega, by go_num, ⟨_, rfl⟩, fun j hj => ?_⟩
            by_cases hjk : j < k
            · exact HS.out j hjk
            · have : j = k := by omega
              subst this
              rw [HX.out, HY.out]
          case measure => simp [intOf]; omega
        · have hb : (x == y) = false := by rw [beq_eq_false_iff_ne]; exact hxy
          go_wp2
          go_quiet (fail)
          go_wp2
          go_ret
          refine ⟨?_, _, World.drewN_drewN ..⟩
          have : sameT l m = false := by
            simp [sameT]
            rintro rfl
            exact hxy (HX.out.symm.trans HY.out)
          rw [this]
          rfl
      · have HS := Lib.hid hsame
        have HL := Lib.hid hlen
        clear hsame hlen hne h5 h5'
        go_wp2
        go_ret
        refine ⟨?_, _, rfl⟩
        have : sameT l m = true := by
          simp only [sameT, decide_eq_true_eq]
          exact getDT_eq_of HL.out fun j hj => HS.out j (by omega)
        rw [this]
        rfl
  · have hne : ((l.length : Int) != (m.length : Int)) = true := by simp; omega
    have hs : Hid (sameT l m = false) := by
      show sameT l m = false
      simp [sameT]; intro h; exact hlen (by rw [h])
    go_enter Try.func14, Try.ntmps14
    go_wp2
    go_ret
    rw [hs.out]
    exact ⟨rfl, 0, rfl⟩


end Go.Proofs.Ytegkjnibkilbpaa
