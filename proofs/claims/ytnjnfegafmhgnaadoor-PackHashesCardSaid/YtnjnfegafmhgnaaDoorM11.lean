/-
  Texts put together: F3, G14. No condition.
-/
import Derived.Test.YtnjnfegafmhgnaaDoorM8
import Derived.Test.YtnjnfegafmhgnaaDoorM7
import Derived.Test.YtnjnfegafmhgnaaDoorM9
/-
  Declarations and bytes as a law's arguments. No condition.
-/
namespace Go.Proofs.YtnjnfegafmhgnaaDoor
open Go.ChangeShapes Go.WideShapes Go.ChangeAt Go.RowKit

section
variable {H : Type} {enc : TypeId × Value → H} {W : World}
theorem op_ct : ∀ n, Op enc Tryd.prog W n 77 fun xs => ∃ c : Ct, xs = (ctX c).cells
  | 0 => Op.zero
  | n + 1 => by
    refine (Op.struct (As := [fun xs => ∃ s, xs = [AV.str s], fun xs => ∃ t : Tm, xs = (tmX t).cells]) Tryd.underlying77 (by kernel_rfl) ⟨?_, ?_, trivial⟩).mono fun xs hx => ?_
    · exact (Op.str (by kernel_rfl)).mono fun xs ⟨z, _, h⟩ => ⟨z, h⟩
    · exact op_tm n
    · obtain ⟨_, _, ⟨s, rfl⟩, ⟨_, _, ⟨t, rfl⟩, rfl, rfl⟩, rfl⟩ := hx
      exact ⟨⟨s, t⟩, by simp [ctX, tmX, AV.cells]⟩
theorem op_cts (n : Nat) : Op enc Tryd.prog W n 26 fun xs => ∃ ls : List Ct, xs = [.sl .no 6 (ls.map ctX)] := by
  cases n with
  | zero => exact Op.zero
  | succ n =>
    refine (Op.slice (C := 6) (e := 77) (B := fun y => ∃ l, y = ctX l) (by kernel_rfl) (by kernel_rfl) (by decide) ((op_ct n).mono fun xs hx => ?_)).mono fun xs hx => ?_
    · obtain ⟨l, rfl⟩ := hx
      exact ⟨ctX l, ⟨l, rfl⟩, rfl⟩
    · obtain ⟨ys, hy, rfl⟩ := hx
      obtain ⟨zs, rfl⟩ := map_of hy
      exact ⟨zs, rfl⟩
theorem op_dc : ∀ n, Op enc Tryd.prog W n 28 fun xs => ∃ d : Dc, xs = (dcX d).cells
  | 0 => Op.zero
  | n + 1 => by
    refine (Op.struct (As := [fun xs => ∃ z, xs = [AV.i z], fun xs => ∃ z, xs = [AV.i z], fun xs => ∃ s, xs = [AV.str s], fun xs => ∃ t : Tm, xs = (tmX t).cells, fun xs => ∃ t : Tm, xs = (tmX t).cells, fun xs => ∃ z, xs = [AV.i z], fun xs => ∃ ls : List Ct, xs = [.sl .no 6 (ls.map ctX)]]) Tryd.underlying28 (by kernel_rfl) ⟨?_, ?_, ?_, ?_, ?_, ?_, ?_, trivial⟩).mono fun xs hx => ?_
    · exact (Op.int (k := .i64) (by kernel_rfl)).mono fun xs ⟨z, _, h⟩ => ⟨z, h⟩
    · exact (Op.int (k := .i64) (by kernel_rfl)).mono fun xs ⟨z, _, h⟩ => ⟨z, h⟩
    · exact (Op.str (by kernel_rfl)).mono fun xs ⟨z, _, h⟩ => ⟨z, h⟩
    · exact op_tm n
    · exact op_tm n
    · exact (Op.int (k := .i64) (by kernel_rfl)).mono fun xs ⟨z, _, h⟩ => ⟨z, h⟩
    · exact op_cts n
    · obtain ⟨_, _, ⟨k, rfl⟩, ⟨_, _, ⟨p, rfl⟩, ⟨_, _, ⟨s, rfl⟩, ⟨_, _, ⟨t, rfl⟩, ⟨_, _, ⟨v, rfl⟩, ⟨_, _, ⟨f, rfl⟩, ⟨_, _, ⟨cs, rfl⟩, rfl, rfl⟩, rfl⟩, rfl⟩, rfl⟩, rfl⟩, rfl⟩, rfl⟩ := hx
      exact ⟨⟨k, p, s, t, v, f, cs⟩, by simp [dcX, tmX, AV.cells]⟩
theorem byte_of {z : Int} (h : (Lit.int IntKind.u8 z).wf = true) : ∃ c : UInt8, AV.v (.int .u8 z) = byteV c := by
  have h2 : 0 ≤ z ∧ z < 256 := by
    have h3 : (decide ((0 : Int) ≤ z) && decide (z ≤ 255)) = true := h
    rw [Bool.and_eq_true, decide_eq_true_eq, decide_eq_true_eq] at h3
    omega
  refine ⟨UInt8.ofNat z.toNat, ?_⟩
  unfold byteV
  have : (UInt8.ofNat z.toNat).toNat = z.toNat := by simp; omega
  rw [this]
  congr 2
  omega
theorem op_by (n : Nat) : Op enc Tryd.prog W n 47 fun xs => ∃ bs : List UInt8, xs = [byX bs] := by
  cases n with
  | zero => exact Op.zero
  | succ n =>
    refine (Op.slice (C := 1) (e := 5) (B := fun y => ∃ c, y = byteV c) (by kernel_rfl) (by kernel_rfl) (by decide) ((Op.int (k := .u8) (by kernel_rfl)).mono fun xs hx => ?_)).mono fun xs hx => ?_
    · obtain ⟨z, hw, rfl⟩ := hx
      obtain ⟨c, hc⟩ := byte_of hw
      exact ⟨byteV c, ⟨c, rfl⟩, by rw [← hc]; rfl⟩
    · obtain ⟨ys, hy, rfl⟩ := hx
      obtain ⟨zs, rfl⟩ := map_of hy
      exact ⟨zs, rfl⟩
end
end Go.Proofs.YtnjnfegafmhgnaaDoor

/-
  PackHashes: the law's walk. No condition.
-/
namespace Go.Proofs.YtnjnfegafmhgnaaDoor
open Go.RowKit

set_option maxRecDepth 100000 in
set_option maxHeartbeats 1000000 in
theorem packHashes_con (d : Dc) : Ans Tryd.prog 6 [dcX d] (.b true) := by
  intro H Q hq
  refine con_of_awp (esc := fun _ => false) tab_ok mixed Tryd.func6 rfl (ent Tryd.func6 (by kernel_rfl) rfl) (by kernel_rfl) ?_
  intro hw hn
  refine ⟨_, LeL.refl _, alive8_con _ _ ?_⟩
  intro hz1 hz2; clear hz1 hz2
  refine ⟨_, LeL.refl _, Great8_some d _ _ fun q => ?_⟩
  intro hz1 hz2; clear hz1 hz2
  cases q with
  | true => exact ⟨_, H, Le.refl _, List.Sublist.refl _, hq⟩
  | false =>
    refine ⟨_, LeL.refl _, packDecl_con d _ _ (fun h => ?_) (fun h c hc => ?_)⟩
    · intro hz1 hz2; clear hz1 hz2
      have e0 : dcHash d = 0 := by unfold dcHash; rw [h]; rfl
      obtain ⟨bs, hbs⟩ : ∃ bs : List UInt8, bs = [] := ⟨_, rfl⟩
      have hl : bs.length ≤ 9223372036854775807 := by rw [hbs]; decide
      refine ⟨Nat, fun k => ⟨[(1, .lp 1 0), (2, .g (.b false)), (3, .g (byX bs)), (4, .g (.b false)), (5, .g (.v (.int .u64 (hashB ((bs).take k))))), (6, .g (.i k))], [(1, (dcX d).cells)], H⟩, fun k => k ≤ (bs).length, fun k => (bs).length - k, ⟨0, Nat.zero_le _, ?_⟩, ?_⟩
      · exact ⟨⟨⟨rfl, rfl⟩, Le.refl _, (by rw [hbs]; exact Le.nil _ _), Le.refl _, Le.refl _, Le.refl _, trivial⟩, ⟨⟨rfl, LeL.refl _⟩, trivial⟩, List.Sublist.refl _⟩
      · intro k hk
        refine ifB_dec (fun h1 => ?_) (fun h1 => ?_)
        · simp only [List.length_map] at h1
          have hlt : k < (bs).length := by omega
          refine ⟨k, rfl, _, byAt hlt, ?_⟩
          refine ⟨in64_of (by omega) (by omega), ?_⟩
          refine ⟨k + 1, (by omega), by (try dsimp only); omega, ⟨⟨⟨rfl, rfl⟩, Le.refl _, Le.refl _, Le.refl _, le_of_eq ?_, Le.refl _, trivial⟩, ⟨⟨rfl, LeL.refl _⟩, trivial⟩, List.Sublist.refl _⟩⟩
          rw [hash_snoc hlt]
          rfl
        · simp only [List.length_map] at h1
          have hk' : (bs).length = k := by omega
          subst hk'
          refine ⟨_, LeL.refl _, packHash_con d _ _ ?_⟩
          intro hz1 hz2; clear hz1 hz2
          refine ifB_t e0 ?_
          exact ⟨_, H, Le.refl _, List.Sublist.refl _, hq⟩
    · intro hwf _
      have hl : (dcB d).length ≤ 9223372036854775807 := by
        have := Wf.len (hwf.tup (x := .sl (.own c) 1 ((dcB d).map byteV)) (by simp))
        simpa using this
      clear hwf
      have e0 : dcHash d = hashB ((dcB d).take (dcB d).length) := by unfold dcHash; rw [if_pos h, List.take_length]
      refine ⟨Nat, fun k => ⟨[(1, .lp 1 0), (2, .g (.b false)), (3, .g (byX (dcB d))), (4, .g (.b true)), (5, .g (.v (.int .u64 (hashB (((dcB d)).take k))))), (6, .g (.i k))], [(1, (dcX d).cells)], H⟩, fun k => k ≤ ((dcB d)).length, fun k => ((dcB d)).length - k, ⟨0, Nat.zero_le _, ?_⟩, ?_⟩
      · exact ⟨⟨⟨rfl, rfl⟩, Le.refl _, Le.own _ _ _, Le.refl _, Le.refl _, Le.refl _, trivial⟩, ⟨⟨rfl, LeL.refl _⟩, trivial⟩, List.sublist_cons_self _ _⟩
      · intro k hk
        refine ifB_dec (fun h1 => ?_) (fun h1 => ?_)
        · simp only [List.length_map] at h1
          have hlt : k < ((dcB d)).length := by omega
          refine ⟨k, rfl, _, byAt hlt, ?_⟩
          refine ⟨in64_of (by omega) (by omega), ?_⟩
          refine ⟨k + 1, (by omega), by (try dsimp only); omega, ⟨⟨⟨rfl, rfl⟩, Le.refl _, Le.refl _, Le.refl _, le_of_eq ?_, Le.refl _, trivial⟩, ⟨⟨rfl, LeL.refl _⟩, trivial⟩, List.Sublist.refl _⟩⟩
          rw [hash_snoc hlt]
          rfl
        · simp only [List.length_map] at h1
          have hk' : ((dcB d)).length = k := by omega
          subst hk'
          refine ⟨_, LeL.refl _, packHash_con d _ _ ?_⟩
          intro hz1 hz2; clear hz1 hz2
          refine ifB_t e0 ?_
          exact ⟨_, H, Le.refl _, List.Sublist.refl _, hq⟩
end Go.Proofs.YtnjnfegafmhgnaaDoor
