/-
  Texts put together: F3, F4. No condition.
-/
import Derived.Test.YtnjnfegafmhgnaaGreatDoorM8
import Derived.Test.YtnjnfegafmhgnaaGreatDoorM7
import Derived.Test.YtnjnfegafmhgnaaGreatDoorM13
/-
  Declarations and bytes as a law's arguments. No condition.
-/
namespace Go.Proofs.YtnjnfegafmhgnaaGreatDoor
open Go.ChangeShapes Go.WideShapes Go.ChangeAt Go.RowKit

section
variable {H : Type} {enc : TypeId × Value → H} {W : World}
theorem op_ct : ∀ n, Op enc Tryz.prog W n 93 fun xs => ∃ c : Ct, xs = (ctX c).cells
  | 0 => Op.zero
  | n + 1 => by
    refine (Op.struct (As := [fun xs => ∃ s, xs = [AV.str s], fun xs => ∃ t : Tm, xs = (tmX t).cells]) Tryz.underlying93 (by kernel_rfl) ⟨?_, ?_, trivial⟩).mono fun xs hx => ?_
    · exact (Op.str (by kernel_rfl)).mono fun xs ⟨z, _, h⟩ => ⟨z, h⟩
    · exact op_tm n
    · obtain ⟨_, _, ⟨s, rfl⟩, ⟨_, _, ⟨t, rfl⟩, rfl, rfl⟩, rfl⟩ := hx
      exact ⟨⟨s, t⟩, by simp [ctX, tmX, AV.cells]⟩
theorem op_cts (n : Nat) : Op enc Tryz.prog W n 29 fun xs => ∃ ls : List Ct, xs = [.sl .no 6 (ls.map ctX)] := by
  cases n with
  | zero => exact Op.zero
  | succ n =>
    refine (Op.slice (C := 6) (e := 93) (B := fun y => ∃ l, y = ctX l) (by kernel_rfl) (by kernel_rfl) (by decide) ((op_ct n).mono fun xs hx => ?_)).mono fun xs hx => ?_
    · obtain ⟨l, rfl⟩ := hx
      exact ⟨ctX l, ⟨l, rfl⟩, rfl⟩
    · obtain ⟨ys, hy, rfl⟩ := hx
      obtain ⟨zs, rfl⟩ := map_of hy
      exact ⟨zs, rfl⟩
theorem op_dc : ∀ n, Op enc Tryz.prog W n 31 fun xs => ∃ d : Dc, xs = (dcX d).cells
  | 0 => Op.zero
  | n + 1 => by
    refine (Op.struct (As := [fun xs => ∃ z, xs = [AV.i z], fun xs => ∃ z, xs = [AV.i z], fun xs => ∃ s, xs = [AV.str s], fun xs => ∃ t : Tm, xs = (tmX t).cells, fun xs => ∃ t : Tm, xs = (tmX t).cells, fun xs => ∃ z, xs = [AV.i z], fun xs => ∃ ls : List Ct, xs = [.sl .no 6 (ls.map ctX)]]) Tryz.underlying31 (by kernel_rfl) ⟨?_, ?_, ?_, ?_, ?_, ?_, ?_, trivial⟩).mono fun xs hx => ?_
    · exact (Op.int (k := .i64) (by kernel_rfl)).mono fun xs ⟨z, _, h⟩ => ⟨z, h⟩
    · exact (Op.int (k := .i64) (by kernel_rfl)).mono fun xs ⟨z, _, h⟩ => ⟨z, h⟩
    · exact (Op.str (by kernel_rfl)).mono fun xs ⟨z, _, h⟩ => ⟨z, h⟩
    · exact op_tm n
    · exact op_tm n
    · exact (Op.int (k := .i64) (by kernel_rfl)).mono fun xs ⟨z, _, h⟩ => ⟨z, h⟩
    · exact op_cts n
    · obtain ⟨_, _, ⟨k, rfl⟩, ⟨_, _, ⟨p, rfl⟩, ⟨_, _, ⟨s, rfl⟩, ⟨_, _, ⟨t, rfl⟩, ⟨_, _, ⟨v, rfl⟩, ⟨_, _, ⟨f, rfl⟩, ⟨_, _, ⟨cs, rfl⟩, rfl, rfl⟩, rfl⟩, rfl⟩, rfl⟩, rfl⟩, rfl⟩, rfl⟩ := hx
      exact ⟨⟨k, p, s, t, v, f, cs⟩, by simp [dcX, tmX, AV.cells]⟩
theorem byte_of {z : Int} (h : (Lit.int IntKind.u8 z).wf = true) : ∃ c : UInt8, AV.v (.int .u8 z) = byteV c := by
  have h2 : 0 ≤ z ∧ z < 256 := by
    have h3 : (decide ((0 : Int) ≤ z) && decide (z ≤ 255)) = true := h
    rw [Bool.and_eq_true, decide_eq_true_eq, decide_eq_true_eq] at h3
    omega
  refine ⟨UInt8.ofNat z.toNat, ?_⟩
  unfold byteV
  have : (UInt8.ofNat z.toNat).toNat = z.toNat := by simp; omega
  rw [this]
  congr 2
  omega
theorem op_by (n : Nat) : Op enc Tryz.prog W n 51 fun xs => ∃ bs : List UInt8, xs = [byX bs] := by
  cases n with
  | zero => exact Op.zero
  | succ n =>
    refine (Op.slice (C := 1) (e := 5) (B := fun y => ∃ c, y = byteV c) (by kernel_rfl) (by kernel_rfl) (by decide) ((Op.int (k := .u8) (by kernel_rfl)).mono fun xs hx => ?_)).mono fun xs hx => ?_
    · obtain ⟨z, hw, rfl⟩ := hx
      obtain ⟨c, hc⟩ := byte_of hw
      exact ⟨byteV c, ⟨c, rfl⟩, by rw [← hc]; rfl⟩
    · obtain ⟨ys, hy, rfl⟩ := hx
      obtain ⟨zs, rfl⟩ := map_of hy
      exact ⟨zs, rfl⟩
end
end Go.Proofs.YtnjnfegafmhgnaaGreatDoor

/-
  Entries, rows of levels, of terms and of texts, numbers and texts as a law's arguments. No condition.
-/
namespace Go.Proofs.YtnjnfegafmhgnaaGreatDoor
open Go.ChangeShapes Go.WideShapes Go.ChangeAt Go.RowKit

def iX (z : Int) : AV := .i z
def stX (s : List UInt8) : AV := .str s
def lvsX (ls : List Lv) : AV := .sl .no 3 (ls.map lvA)
def tmsX (ts : List Tm) : AV := .sl .no 5 (ts.map tmA)
section
variable {H : Type} {enc : TypeId × Value → H} {W : World}
theorem op_int (n : Nat) : Op enc Tryz.prog W n 3 fun xs => ∃ z : Int, xs = [iX z] := (Op.int (k := .i64) (by kernel_rfl)).mono fun _ ⟨z, _, h⟩ => ⟨z, h⟩
theorem op_st (n : Nat) : Op enc Tryz.prog W n 9 fun xs => ∃ z : List UInt8, xs = [stX z] := (Op.str (by kernel_rfl)).mono fun _ ⟨z, _, h⟩ => ⟨z, h⟩
theorem op_sts (n : Nat) : Op enc Tryz.prog W n 26 fun xs => ∃ ss : List (List UInt8), xs = [stsX ss] := by
  cases n with
  | zero => exact Op.zero
  | succ n =>
    refine (Op.slice (C := 1) (e := 9) (B := fun y => ∃ s, y = AV.str s) (by kernel_rfl) (by kernel_rfl) (by decide) ((op_st n).mono fun xs hx => ?_)).mono fun xs hx => ?_
    · obtain ⟨s, rfl⟩ := hx
      exact ⟨.str s, ⟨s, rfl⟩, rfl⟩
    · obtain ⟨ys, hy, rfl⟩ := hx
      obtain ⟨zs, rfl⟩ := map_of hy
      exact ⟨zs, rfl⟩
theorem op_lvsA : ∀ n, Op enc Tryz.prog W n 22 fun xs => ∃ ls : List Lv, xs = [lvsX ls]
  | 0 => Op.zero
  | n + 1 => op_lvs (op_lv n)
theorem op_tmsA : ∀ n, Op enc Tryz.prog W n 23 fun xs => ∃ ls : List Tm, xs = [tmsX ls]
  | 0 => Op.zero
  | n + 1 => op_tms (op_tm n)
theorem op_en : ∀ n, Op enc Tryz.prog W n 28 fun xs => ∃ d : En, xs = (enX d).cells
  | 0 => Op.zero
  | n + 1 => by
    refine (Op.struct (As := [fun xs => ∃ z, xs = [iX z], fun xs => ∃ z, xs = [iX z], fun xs => ∃ s, xs = [stX s], fun xs => ∃ t : Tm, xs = (tmX t).cells, fun xs => ∃ t : Tm, xs = (tmX t).cells, fun xs => ∃ z, xs = [iX z], fun xs => ∃ s, xs = [stX s], fun xs => ∃ z, xs = [iX z], fun xs => ∃ z, xs = [iX z], fun xs => ∃ z, xs = [iX z], fun xs => ∃ ss, xs = [stsX ss]]) Tryz.underlying28 (by kernel_rfl) ⟨op_int n, op_int n, op_st n, op_tm n, op_tm n, op_int n, op_st n, op_int n, op_int n, op_int n, op_sts n, trivial⟩).mono fun xs hx => ?_
    obtain ⟨_, _, ⟨k, rfl⟩, ⟨_, _, ⟨p, rfl⟩, ⟨_, _, ⟨s, rfl⟩, ⟨_, _, ⟨t, rfl⟩, ⟨_, _, ⟨v, rfl⟩, ⟨_, _, ⟨h, rfl⟩, ⟨_, _, ⟨f, rfl⟩, ⟨_, _, ⟨fi, rfl⟩, ⟨_, _, ⟨ix, rfl⟩, ⟨_, _, ⟨fl, rfl⟩, ⟨_, _, ⟨cs, rfl⟩, rfl, rfl⟩, rfl⟩, rfl⟩, rfl⟩, rfl⟩, rfl⟩, rfl⟩, rfl⟩, rfl⟩, rfl⟩, rfl⟩ := hx
    exact ⟨⟨k, p, s, t, v, h, f, fi, ix, fl, cs⟩, by simp [enX, tmX, AV.cells, iX, stX, stsX]⟩
end
end Go.Proofs.YtnjnfegafmhgnaaGreatDoor
