import Derived.Test.YtnpiipflpmhpbaaBase
import Derived.Test.YtnpiipflpmhpbaaPlain
import Derived.Outline
namespace Go.Proofs.Ytnpiipflpmhpbaa
open Go.RowKit

theorem el24 : ElemT Try.prog 24 5 1 1 := ElemT.mk' (z := .int .u8 0) Try.underlying24 (by kernel_rfl) rfl (by decide)
theorem el22 : ElemT Try.prog 22 3 1 8 := ElemT.mk' (z := .int .i64 0) Try.underlying22 (by kernel_rfl) rfl (by decide)
theorem el23 : ElemT Try.prog 23 9 1 16 := ElemT.mk' (z := .string ByteArray.empty) Try.underlying23 (by kernel_rfl) rfl (by decide)

/-- a byte's cell -/
def Bv (c : UInt8) : Value := .int .u8 (c.toNat : Int)
def bvs (l : List UInt8) : List Value := l.map Bv
theorem bvs_one (l : List UInt8) : ∀ u ∈ bvs l, u.oneCell' = true := by
  intro u hu; obtain ⟨_, _, rfl⟩ := List.mem_map.1 hu; rfl

/-- what a call leaves that hands back an owned row with so many bytes -/
def GiveB (base : Nat) (w : World) (v : Value) (l : List UInt8) (e : Ending) (w' : World) : Prop :=
  ∃ v', e = .returned v' ∧ App w w' base 5 1 v v' l.length (bvs l)

/-- what a call leaves that hands back a new row with so many bytes -/
def NewB (base : Nat) (w : World) (l : List UInt8) (e : Ending) (w' : World) : Prop :=
  ∃ v', e = .returned v' ∧ w'.ownsRow base 5 1 v' l.length (bvs l) ∧ Below base w w'

def okN (n : Int) : Bool := decide (0 ≤ n ∧ n ≤ 1099511627776)

theorem right_any (n : Int) (w : World) :
    Calls Try.prog 27 #[.int .i64 n] w fun e w' => e = .returned (.bool (okN n)) ∧ w = w' := by
  have H : ∀ b, okN n = b → Hid (okN n = b) := fun _ h => h
  by_cases h1 : 0 ≤ n
  · by_cases h2 : n ≤ 1099511627776
    · have H1 := H true (by simp [okN, h1, h2])
      clear H
      go_enter Try.func27, Try.ntmps27
      go_wp2
      go_ret
      rw [H1.out]
      exact ⟨rfl, rfl⟩
    · have H1 := H false (by simp [okN]; omega)
      clear H
      go_enter Try.func27, Try.ntmps27
      go_wp2
      go_ret
      rw [H1.out]
      exact ⟨rfl, rfl⟩
  · have H1 := H false (by simp [okN]; omega)
    clear H
    go_enter Try.func27, Try.ntmps27
    go_wp2
    go_ret
    rw [H1.out]
    exact ⟨rfl, rfl⟩

theorem wraps_i64 (n : Int) (h₀ : 0 ≤ n) (h₁ : n < 2 ^ 63) : IntKind.i64.wrap n = n := by rw [IntKind.wrap_i64]; omega
theorem i64_and127 (k : Nat) (h : k ≤ 9223372036854775807) : bits .and .i64 (k : Int) 127 = ((k % 128 : Nat) : Int) := by
  have := bits_mask .i64 63 (by decide) wraps_i64 7 (by decide) (k : Int) (by omega) (by omega)
  simpa using this
theorem i64_or128 (y : Nat) (h : y < 128) : bits .or .i64 (y : Int) 128 = ((y + 128 : Nat) : Int) := by
  have := (bits_nat .i64 63 (by decide) wraps_i64 y 128 (by omega) (by omega)).2
  rw [show ((128 : Nat) : Int) = 128 from rfl] at this
  rw [this]
  congr 1
  have h2 := Nat.two_pow_add_eq_or_of_lt (i := 7) (b := y) (by omega) 1
  simp only [Nat.reducePow, Nat.mul_one] at h2
  rw [Nat.or_comm, ← h2, Nat.add_comm]

theorem bvs_len (l : List UInt8) : (bvs l).length = l.length := by simp [bvs]
theorem bvs_app (l m : List UInt8) : bvs (l ++ m) = bvs l ++ bvs m := by simp [bvs]
theorem bvs_cons (c : UInt8) (m : List UInt8) : bvs (c :: m) = Bv c :: bvs m := rfl

/-- a contract's end, in one line -/
theorem app_len {w w' : World} {base e s : Nat} {v v' : Value} {n m : Nat} {xs ys : List Value} (h : App w w' base e s v v' n xs) (h1 : n = m) (h2 : xs = ys) : App w w' base e s v v' m ys := by
  subst h1 h2; exact h

theorem maxLen_ge {n : Nat} (h : n ≤ 9223372036854775807) : n ≤ maxLen := by simpa [maxLen] using h

theorem put_val (k : Nat) (h : k ≤ 9223372036854775807) : bits .or .i64 (bits .and .i64 (k : Int) 127) 128 % 256 = (((UInt8.ofNat (k % 128 + 128)).toNat : Nat) : Int) := by
  rw [i64_and127 k h, i64_or128 _ (by omega)]
  simp

set_option maxRecDepth 100000 in
set_option maxHeartbeats 400000 in
theorem put_any (w0 : World) (base : Nat) (v : Value) (xs : List UInt8) (n : Nat) (hown : w0.ownsRow base 5 1 v xs.length (bvs xs)) (hb : base ≤ w0.heap.size)
    (hx : xs.length ≤ 1099511627776) (hn : n ≤ 9223372036854775807) :
    Calls Try.prog 28 #[v, .int .i64 n] w0 (GiveB base w0 v (xs ++ enc n)) := by
  go_enter Try.func28, Try.ntmps28
  go_wp2
  go_loopw [0, 1] (fun b q wr => ∃ (k : Nat) (ys : List UInt8), q = .int .i64 k ∧ App w0 wr base 5 1 v b ys.length (bvs ys) ∧ ys ++ enc k = xs ++ enc n ∧ k ≤ n)
    (fun _ q _ => (intOf q).toNat)
  case atStart => exact ⟨n, xs, rfl, App.refl hown, rfl, Nat.le_refl _⟩
  case round =>
    obtain ⟨k, ys, rfl, hA, he, hk⟩ := hrel
    have hlen : ys.length + (enc k).length = xs.length + (enc n).length := by rw [← List.length_append, he, List.length_append]
    have hn9 := enc_le n hn
    have hsz := hA.grown.size
    by_cases hlt : 128 ≤ k
    · have HE := Lib.hid he
      clear he
      go_wp2_with (refine stp 14 ?_)
      intro _
      refine wpList_app1c rfl rfl (.tmp 9) (.tmp 13) 24 14 rfl rfl rfl rfl el24 rfl hA.own (Bv (UInt8.ofNat (k % 128 + 128))) ?_ rfl rfl (maxLen_ge (by omega)) (by omega) (by omega) fun v' w' hA' => ?_
      · exact congrArg (Value.int .u8) (put_val k (by omega))
      have hA2 : App w0 w' base 5 1 v v' (ys ++ [UInt8.ofNat (k % 128 + 128)]).length (bvs (ys ++ [UInt8.ofNat (k % 128 + 128)])) := app_len (hA.trans hA') (by simp) (by rw [bvs_app]; rfl)
      clear hA'
      go_wp2
      go_roundw
      case rel => exact ⟨k / 128, _, by go_num, hA2, by rw [← HE.out, enc_ge hlt]; simp, by omega⟩
      case measure => simp [intOf]; omega
    · have HE := Lib.hid he
      clear he
      go_wp2_with (refine stp 19 ?_)
      intro _
      refine wpList_app1c rfl rfl (.tmp 16) (.tmp 18) 24 19 rfl rfl rfl rfl el24 rfl hA.own (Bv (UInt8.ofNat k)) ?_ rfl rfl (maxLen_ge (by omega)) (by omega) (by omega) fun v' w' hA' => ?_
      · exact congrArg (Value.int .u8) (by simp; omega)
      have hA2 : App w0 w' base 5 1 v v' (xs ++ enc n).length (bvs (xs ++ enc n)) := app_len (hA.trans hA') (by rw [← HE.out, enc_lt (by omega)]; simp) (by rw [← HE.out, enc_lt (by omega), bvs_app]; rfl)
      clear hA' HE
      go_wp2
      go_ret
      exact ⟨_, rfl, hA2⟩

set_option maxRecDepth 100000 in
set_option maxHeartbeats 400000 in
theorem one_any (w0 : World) (base : Nat) (n : Nat) (hb : base ≤ w0.heap.size) (hn : n ≤ 9223372036854775807) :
    Calls Try.prog 29 #[.int .i64 n] w0 (NewB base w0 (enc n)) := by
  go_enter Try.func29, Try.ntmps29
  go_wp2
  go_loopw [0, 3] (fun q b wr => ∃ (k : Nat) (ys : List UInt8), q = .int .i64 k ∧ wr.ownsRow base 5 1 b ys.length (bvs ys) ∧ ys ++ enc k = enc n ∧ k ≤ n ∧ Below base w0 wr)
    (fun q _ _ => (intOf q).toNat)
  case atStart => exact ⟨n, [], rfl, own.lit w0 [] 5 1 0 base rfl (Nat.zero_le _) hb, rfl, Nat.le_refl _, (Below.refl _ _).alloc hb _⟩
  case round =>
    obtain ⟨k, ys, rfl, hA, he, hk, hB⟩ := hrel
    have hlen : ys.length + (enc k).length = (enc n).length := by rw [← List.length_append, he]
    have hn9 := enc_le n hn
    have hsz := hB.size
    have HE := Lib.hid he
    clear he
    by_cases hlt : 128 ≤ k
    · go_wp2_with (refine stp 12 ?_)
      intro _
      refine wpList_app1c rfl rfl (.tmp 7) (.tmp 11) 24 12 rfl rfl rfl rfl el24 rfl hA (Bv (UInt8.ofNat (k % 128 + 128))) ?_ rfl rfl (maxLen_ge (by omega)) (by omega) (by omega) fun v' w' hA' => ?_
      · exact congrArg (Value.int .u8) (by simp; omega)
      have hA2 : w'.ownsRow base 5 1 v' (ys ++ [UInt8.ofNat (k % 128 + 128)]).length (bvs (ys ++ [UInt8.ofNat (k % 128 + 128)])) := by
        have := hA'.own
        rw [bvs_app, List.length_append]; exact this
      have hB2 : Below base w0 w' := hB.trans (hA'.below hA (Nat.le_refl _) (by omega))
      clear hA'
      go_wp2
      go_roundw
      case rel => exact ⟨k / 128, _, by go_num, hA2, by rw [← HE.out, enc_ge hlt]; simp, by omega, hB2⟩
      case measure => simp [intOf]; omega
    · go_wp2_with (refine stp 19 ?_)
      intro _
      refine wpList_app1c rfl rfl (.tmp 16) (.tmp 18) 24 19 rfl rfl rfl rfl el24 rfl hA (Bv (UInt8.ofNat k)) ?_ rfl rfl (maxLen_ge (by omega)) (by omega) (by omega) fun v' w' hA' => ?_
      · exact congrArg (Value.int .u8) (by simp; omega)
      have hA2 : w'.ownsRow base 5 1 v' (enc n).length (bvs (enc n)) := by
        have := hA'.own
        rw [← HE.out, enc_lt (by omega), bvs_app, List.length_append]; exact this
      have hB2 : Below base w0 w' := hB.trans (hA'.below hA (Nat.le_refl _) (by omega))
      clear hA' HE
      go_wp2
      go_ret
      exact ⟨_, rfl, hA2, hB2⟩
end Go.Proofs.Ytnpiipflpmhpbaa
