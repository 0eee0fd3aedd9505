import Derived.Test.YtnpiipflpmhpbaaW1
import Derived.BigQuiet
import Derived.Deep.QuietTactic
import Derived.WalkSpells
import Derived.WalkLawsBesides
namespace Go.Proofs.Ytnpiipflpmhpbaa
open Go.RowKit

def rdB (B : Nat) (w : World) (v : Value) (l : List UInt8) : Prop := rd B w 1 v l.length (bvs l)

/-- a readable row's cells, where there is one -/
theorem rdB.cells {B : Nat} {w : World} {v : Value} {l : List UInt8} (h : rdB B w v l) : ∃ a cap, v = .slice a l.length cap ∧ l.length ≤ cap ∧ cap ≤ 9223372036854775807 ∧ (a = none → cap = 0) ∧
    (0 < l.length → ∃ b off, a = some ⟨b, off, none⟩ ∧ b < B ∧ ∀ j, j < l.length → w.cell? ⟨b, off + j, none⟩ = some (Bv (l.getD j 0))) := by
  obtain ⟨h0, a, cap, h1, h2, h3, h4, h5⟩ := h
  refine ⟨a, cap, h1, h2, by simpa [maxLen] using h3, h4, fun hn => ?_⟩
  obtain ⟨b, off, e1, e2, e3⟩ := h5 hn
  refine ⟨b, off, e1, e2, fun j hj => e3 j _ ?_⟩
  simp [bvs, List.getD_eq_getElem?_getD, hj]

set_option maxRecDepth 100000 in
set_option maxHeartbeats 400000 in
theorem clone_any (w0 : World) (B base : Nat) (v : Value) (l : List UInt8) (hv : rdB B w0 v l) (hb : base ≤ w0.heap.size) (hl : l.length ≤ 1099511627776) :
    Calls Try.prog 31 #[v] w0 (NewB base w0 l) := by
  have hv' := hv
  obtain ⟨a, cap, rfl, h2, h3, h4, h5⟩ := hv.cells
  cases a with
  | none =>
    have h0 : l = [] := List.eq_nil_of_length_eq_zero (by have := h4 rfl; omega)
    subst h0
    have hc : cap = 0 := h4 rfl
    subst hc
    go_enter Try.func31, Try.ntmps31
    go_wp2
    go_ret
    exact ⟨_, rfl, World.ownsRow_nil _ _ _ _, Below.refl _ _⟩
  | some ad =>
    go_enter Try.func31, Try.ntmps31
    go_wp2_with (refine stp 7 ?_)
    intro _
    refine wpList_app rfl (.tmp 5) (.tmp 6) 24 rfl el24 rfl (own.lit w0 [] 5 1 0 base rfl (Nat.zero_le _) hb) rfl (hv'.alloc (by decide) _) (bvs_one l) (maxLen_ge (by omega)) (by omega) (by simp; omega) fun v' w' hA => ?_
    rw [Nat.zero_add, List.nil_append] at hA
    have hB : Below base w0 w' := ((Below.refl _ _).alloc hb _).trans (hA.below (own.lit w0 [] 5 1 0 base rfl (Nat.zero_le _) hb) (Nat.le_refl _) (by simp; omega))
    have hO := hA.own
    clear hA
    go_wp2
    go_ret
    exact ⟨_, rfl, hO, hB⟩

set_option maxRecDepth 100000 in
set_option maxHeartbeats 400000 in
theorem copy_any (w0 : World) (B base : Nat) (v : Value) (l : List UInt8) (hv : rdB B w0 v l) (hb : base ≤ w0.heap.size) (hl : l.length ≤ 1099511627776) :
    Calls Try.prog 10 #[v] w0 (NewB base w0 l) := by
  go_enter Try.func10, Try.ntmps10
  go_wp2_with (refine stp 7 ?_)
  intro _
  refine wpList_app rfl (.tmp 5) (.tmp 6) 24 rfl el24 rfl (own.lit w0 [] 5 1 0 base rfl (Nat.zero_le _) hb) rfl (hv.alloc (by decide) _) (bvs_one l) (maxLen_ge (by omega)) (by omega) (by simp; omega) fun v' w' hA => ?_
  rw [Nat.zero_add, List.nil_append] at hA
  have hB : Below base w0 w' := ((Below.refl _ _).alloc hb _).trans (hA.below (own.lit w0 [] 5 1 0 base rfl (Nat.zero_le _) hb) (Nat.le_refl _) (by simp; omega))
  have hO := hA.own
  clear hA
  go_wp2
  go_ret
  exact ⟨_, rfl, hO, hB⟩

def sameL (a b : List UInt8) : Bool := decide (a = b)

theorem getD_eq_of {a b : List UInt8} (h : a.length = b.length) (hj : ∀ j, j < a.length → a.getD j 0 = b.getD j 0) : a = b := by
  apply List.ext_getElem h
  intro j h1 h2
  have := hj j h1
  simpa [List.getD_eq_getElem?_getD, h1, h2] using this

set_option maxRecDepth 100000 in
set_option maxHeartbeats 400000 in
theorem sameB_any (w0 : World) (B C : Nat) (u v : Value) (l m : List UInt8) (hu : rdB B w0 u l) (hv : rdB C w0 v m) :
    Calls Try.prog 20 #[u, v] w0 fun e w' => e = .returned (.bool (sameL l m)) ∧ ∃ n, w' = w0.drewN n := by
  obtain ⟨a, cap, rfl, h2, h3, h4, h5⟩ := hu.cells
  obtain ⟨a', cap', rfl, h2', h3', h4', h5'⟩ := hv.cells
  by_cases hlen : l.length = m.length
  · have hne : ((l.length : Int) != (m.length : Int)) = false := by simp [hlen]
    go_enter Try.func20, Try.ntmps20
    go_wp2
    go_loopw [5] (fun i wr => ∃ k : Nat, k ≤ l.length ∧ i = .int .i64 k ∧ (∃ n, wr = w0.drewN n) ∧ ∀ j, j < k → l.getD j 0 = m.getD j 0)
      (fun i _ => l.length - (intOf i).toNat)
    case atStart => exact ⟨0, Nat.zero_le _, rfl, ⟨0, rfl⟩, fun j hj => absurd hj (by omega)⟩
    case round =>
      obtain ⟨k, hk, rfl, ⟨n, rfl⟩, hsame⟩ := hrel
      by_cases hlt : k < l.length
      · obtain ⟨b, off, rfl, _, hc⟩ := h5 (by omega)
        obtain ⟨b', off', rfl, _, hc'⟩ := h5' (by omega)
        have c1 : w0.cell? ⟨b, off + k, none⟩ = some (.int .u8 ((l.getD k 0).toNat : Int)) := hc k hlt
        have c2 : w0.cell? ⟨b', off' + k, none⟩ = some (.int .u8 ((m.getD k 0).toNat : Int)) := hc' k (by omega)
        have HS := Lib.hid hsame
        have i1 : ((k : Int) < (l.length : Int)) := by omega
        have i2 : ((k : Int) < (m.length : Int)) := by omega
        clear hc hc' h5 h5' hsame hne
        generalize hx : l.getD k 0 = x at c1
        generalize hy : m.getD k 0 = y at c2
        have HX := Lib.hid hx
        have HY := Lib.hid hy
        have HL := Lib.hid hlen
        clear hx hy hlen
        by_cases hxy : x = y
        · subst hxy
          go_wp2
          go_quiet (fail)
          go_wp2
          go_roundw
          case rel =>
            refine ⟨k + 1, by omega, by go_num, ⟨_, rfl⟩, fun j hj => ?_⟩
            by_cases hjk : j < k
            · exact HS.out j hjk
            · have : j = k := by omega
              subst this
              rw [HX.out, HY.out]
          case measure => simp [intOf]; omega
        · have hb : (((x.toNat : Int) != (y.toNat : Int)) = true) := by
            rw [bne_iff_ne]; intro h; exact hxy (UInt8.toNat_inj.1 (by omega))
          go_wp2
          go_quiet (fail)
          go_wp2
          go_ret
          refine ⟨?_, _, World.drewN_drewN ..⟩
          have : sameL l m = false := by
            simp [sameL]
            rintro rfl
            exact hxy (HX.out.symm.trans HY.out)
          rw [this]
          rfl
      · have HS := Lib.hid hsame
        have HL := Lib.hid hlen
        clear hsame hlen hne h5 h5'
        go_wp2
        go_ret
        refine ⟨?_, _, rfl⟩
        have : sameL l m = true := by
          simp only [sameL, decide_eq_true_eq]
          exact getD_eq_of HL.out fun j hj => HS.out j (by omega)
        rw [this]
        rfl
  · have hne : ((l.length : Int) != (m.length : Int)) = true := by simp; omega
    have hs : Hid (sameL l m = false) := by
      show sameL l m = false
      simp [sameL]; intro h; exact hlen (by rw [h])
    go_enter Try.func20, Try.ntmps20
    go_wp2
    go_ret
    rw [hs.out]
    exact ⟨rfl, 0, rfl⟩

theorem num_val {l : List UInt8} {k : Nat} {x : UInt8} (hk : k < l.length) (h6 : k < 6) (hx : l.getD k 0 = x) :
    bits BinOp.or IntKind.i64 ((val (l.take k) : Nat) : Int) (wrap64 (wrap64 (bits BinOp.and IntKind.u8 ((x.toNat : Nat) : Int) 127) * 2 ^ (7 * k))) = ((val (l.take (k + 1)) : Nat) : Int) := by
  have hx2 := x.toNat_lt
  have e1 : bits BinOp.and IntKind.u8 ((x.toNat : Nat) : Int) 127 = ((x.toNat % 128 : Nat) : Int) := by
    have := bits_mask .u8 8 (by decide) wraps_u8 7 (by decide) (x.toNat : Int) (by omega) (by omega)
    simpa using this
  have hp : 2 ^ (7 * k) ≤ 34359738368 := by
    have : 7 * k ≤ 35 := by omega
    exact Nat.le_trans (Nat.pow_le_pow_right (by decide) this) (by decide)
  have hv : val (l.take k) < 2 ^ (7 * k) := by
    have := val_lt (l.take k)
    rw [List.length_take, Nat.min_eq_left (by omega)] at this
    rwa [Nat.pow_mul]
  have hm : x.toNat % 128 * 2 ^ (7 * k) ≤ 127 * 34359738368 := Nat.mul_le_mul (by omega) hp
  rw [e1, IntWalk.wrap64_in ((x.toNat % 128 : Nat) : Int) (by omega)]
  have e2 : (((x.toNat % 128 : Nat) : Int) * 2 ^ (7 * k)) = ((x.toNat % 128 * 2 ^ (7 * k) : Nat) : Int) := by
    rw [Int.natCast_mul, Int.natCast_pow]; rfl
  rw [e2, IntWalk.wrap64_in _ (by omega)]
  rw [(bits_nat .i64 63 (by decide) wraps_i64 (val (l.take k)) (x.toNat % 128 * 2 ^ (7 * k)) (by omega) (by omega)).2]
  congr 1
  rw [val_take hk, hx, Nat.or_comm, Nat.mul_comm (x.toNat % 128), ← Nat.two_pow_add_eq_or_of_lt hv, Nat.pow_mul 2 7 k, Nat.mul_comm (x.toNat % 128), show (2 : Nat) ^ 7 = 128 from rfl]
  omega

/-- what num hands back -/
def NumPost (l : List UInt8) (w : World) (e : Ending) (w' : World) : Prop :=
  e = .returned (.tuple #[.int .i64 ((dec l).1 : Int), .int .i64 ((dec l).2 : Int)]) ∧ w = w'

theorem NumPost.mk {l : List UInt8} {w : World} {a b : Int} (n : Nat × Nat) (h : dec l = n) (ha : a = (n.1 : Int)) (hb : b = (n.2 : Int)) : NumPost l w (.returned (.tuple #[.int .i64 a, .int .i64 b])) w := by
  subst h ha hb; exact ⟨rfl, rfl⟩

set_option maxRecDepth 100000 in
set_option maxHeartbeats 1000000 in
theorem num_any (w0 : World) (B : Nat) (v : Value) (l : List UInt8) (hv : rdB B w0 v l) :
    Calls Try.prog 30 #[v] w0 (NumPost l w0) := by
  obtain ⟨a, cap, rfl, h2, h3, h4, h5⟩ := hv.cells
  obtain ⟨T, hT⟩ : ∃ T, T = min l.length 6 := ⟨_, rfl⟩
  have hT1 : T ≤ l.length := by omega
  have hT2 : T ≤ 6 := by omega
  have hT3 : T = l.length ∨ T = 6 := by omega
  by_cases h6 : 6 < l.length
  all_goals
    go_enter Try.func30, Try.ntmps30
    go_wp2
    go_loop [4, 13] (fun n i => ∃ k : Nat, k ≤ T ∧ i = .int .i64 k ∧ n = .int .i64 ((val (l.take k) : Nat) : Int) ∧ ∀ j, j < k → 128 ≤ (l.getD j 0).toNat)
      (fun _ i => T - (intOf i).toNat)
    case atStart => exact ⟨0, Nat.zero_le _, rfl, rfl, fun j hj => absurd hj (by omega)⟩
    case round =>
      obtain ⟨k, hk, rfl, rfl, hcont⟩ := hrel
      by_cases hlt : k < T
      · obtain ⟨b, off, rfl, _, hc⟩ := h5 (by omega)
        have c1 : w0.cell? ⟨b, off + k, none⟩ = some (.int .u8 ((l.getD k 0).toNat : Int)) := hc k (by omega)
        generalize hx : l.getD k 0 = x at c1
        have hx2 : (x.toNat : Int) < 256 := by have := x.toNat_lt; omega
        have hx0 : (0 : Int) ≤ (x.toNat : Int) := by omega
        have HV := Lib.hid (num_val (x := x) (k := k) (l := l) (by omega) (by omega) hx)
        have HX := Lib.hid hx
        have HC := Lib.hid hcont
        have HT := Lib.hid hT
        clear hx hcont hT hc h5
        by_cases hxc : 128 ≤ x.toNat
        · go_wp2
          go_roundw
          case rel =>
            rw [HV.out]
            refine ⟨k + 1, by omega, by go_num, rfl, fun j hj => ?_⟩
            by_cases hjk : j < k
            · exact HC.out j hjk
            · have : j = k := by omega
              subst this
              rw [HX.out]; exact hxc
          case measure => simp [intOf]; omega
        · go_wp2_with fail
          rw [HV.out]
          refine (right_any _ _).mono ?_
          rintro e w' ⟨rfl, rfl⟩
          have HD := dec_found (bs := l) (k := k) (by omega) (by omega) HC.out (by rw [HX.out]; omega)
          by_cases hok : val (l.take (k + 1)) ≤ 1099511627776
          · have HB : okN ((val (l.take (k + 1)) : Nat) : Int) = true := by simp [okN]; omega
            rw [HB]
            by_cases hz : x = 0 ∧ 0 < k
            · rw [if_neg (by rw [HX.out]; intro h; exact h.2 hz)] at HD
              have HD' := Lib.hid HD
              obtain ⟨rfl, hz2⟩ := hz
              have hz3 : (((0 : UInt8).toNat : Int) == 0) = true := rfl
              clear HD HB
              go_wp2
              go_ret2
              exact NumPost.mk _ HD'.out rfl rfl
            · rw [if_pos ⟨hok, by rw [HX.out]; exact hz⟩] at HD
              have HD' := Lib.hid HD
              clear HD HB
              by_cases hz2 : x = 0
              · have hk0 : ¬ 0 < k := fun h => hz ⟨hz2, h⟩
                subst hz2
                have hz3 : (((0 : UInt8).toNat : Int) == 0) = true := rfl
                go_wp2
                go_ret2
                exact NumPost.mk _ HD'.out rfl (by simp)
              · have hz3 : ((x.toNat : Int) == 0) = false := by
                  rw [beq_eq_false_iff_ne]; intro h; exact hz2 (UInt8.toNat_inj.1 (by simpa using h))
                clear hz
                go_wp2
                go_ret2
                exact NumPost.mk _ HD'.out rfl (by simp)
          · have HB : okN ((val (l.take (k + 1)) : Nat) : Int) = false := by simp [okN]; omega
            rw [HB]
            rw [if_neg (fun h => hok h.1)] at HD
            have HD' := Lib.hid HD
            clear HD HB
            go_wp2
            go_ret2
            exact NumPost.mk _ HD'.out rfl rfl
      · have HC := Lib.hid (dec_none (bs := l) fun j hj => hcont j (by omega))
        clear hcont h5
        go_wp2
        go_ret2
        exact NumPost.mk _ HC.out rfl rfl
end Go.Proofs.Ytnpiipflpmhpbaa
