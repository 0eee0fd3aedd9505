import Derived.Test.YtegkjnibkilbpaaT9
import Derived.RangeFuncNested
import Derived.RangeFuncBound
import Derived.RangeFuncCalls
import Derived.RangeFuncLeaves
import Derived.Shelf.Abstract
import Derived.Shelf.RegionOpen
import Derived.OwnWalkIn
import Derived.TacticsInMore
import Derived.LoopNIn
import Derived.LoopIn
namespace Go.Proofs.Ytegkjnibkilbpaa
open Go.RowKit Go.Shelf

attribute [local go_sem] Oper.semAt_some

theorem room_of_none {F : Fence} (hd : F.depth = none) (k : Nat) : F.room k := fun d h => by rw [hd] at h; cases h
/-- where no depth is asked the figures are all one -/
theorem RoundIn_anyDepth {F : Fence} (hd : F.depth = none) {m m' : Nat} {P : Program} {l : Nat} {f : FuncId} {tmps : Array Value} {assign body : Code} {w : World} {R : Ending → World → Prop}
    (h : RoundIn F m P l f tmps assign body w R) : RoundIn F m' P l f tmps assign body w R := ⟨h.1, fun c cs _ => h.2 c cs (room_of_none hd _)⟩
theorem YieldAt_anyDepth {F : Fence} (hd : F.depth = none) {m : Nat} (m' : Nat) {P : Program} {l : Nat} {args : Array Value} {W : World} {R : Ending → World → Prop} (h : YieldAt F m P l args W R) : YieldAt F m' P l args W R := by
  obtain ⟨fn, tmps, assign, body, hy, hR⟩ := h
  exact ⟨fn, tmps, assign, body, hy, RoundIn_anyDepth hd hR⟩

/-- the names from one on, as 'each' goes -/
def fromT (x : List UInt8) : T → List (List UInt8)
  | .nil => []
  | .node _ y _ l r => if Op.bytesLess y x then fromT x r else fromT x l ++ y :: fromT x r

set_option maxRecDepth 100000 in
set_option maxHeartbeats 2000000 in
theorem each_in (F : Fence) (hd : F.depth = none) (h31 : F.fn 31) (hro : F.round = none) (l n₀ N : Nat) (s : List UInt8) (J Jx : List (List UInt8) → World → Prop)
    (hY : ∀ m pre (x : List UInt8) W, J pre W → pre.length < N → YieldAt F m Try.prog l #[.string ⟨x.toArray⟩] W fun e W' =>
      (e = .returned (.bool true) ∧ J (pre ++ [x]) W' ∧ Below n₀ W W') ∨ (e = .returned (.bool false) ∧ Jx (pre ++ [x]) W')) (t : T) :
    ∀ (n : Nat) (pre : List (List UInt8)) (W : World), okT n₀ W t → J pre W → pre.length + (fromT s t).length ≤ N →
      CallsIn F n Try.prog 31 #[ptr t, .string ⟨s.toArray⟩, .func (.yield l) #[] #[]] W fun e W' =>
        (e = .returned (.bool true) ∧ J (pre ++ fromT s t) W' ∧ Below n₀ W W') ∨ (e = .returned (.bool false) ∧ ∃ q, q <+: fromT s t ∧ Jx (pre ++ q) W') := by
  induction t with
  | nil =>
    intro n pre W ht hJ _
    rw [ptr, adr]
    refine callsIn_of_wp Try.func31 rfl h31 ?_ hro
    simp only [Try.ntmps31, List.size_toArray, List.length_cons, List.length_nil, Nat.reduceAdd, Nat.reduceSub, Array.replicate_succ, Array.replicate_zero, List.push_toArray, List.append_toArray, List.nil_append, List.cons_append]
    gi_wp2
    go_ret
    exact .inl ⟨rfl, by simpa [fromT] using hJ, Below.refl _ _⟩
  | node p y m tl tr ihl ihr =>
    intro n pre W ht hJ hN
    obtain ⟨hb, c0, _, c2, c3, _, _, hl, hr, _⟩ := ht
    have hdd : ∀ k : Nat, (F.depth.isSome = true → 1 ≤ k) := fun k h => by rw [hd] at h; cases h
    cases hlt : Op.bytesLess y s with
    | true =>
      have hfr : fromT s (.node p y m tl tr) = fromT s tr := if_pos hlt
      rw [hfr] at hN ⊢
      rw [ptr, adr]
      refine callsIn_of_wp Try.func31 rfl h31 ?_ hro
      simp only [Try.ntmps31, List.size_toArray, List.length_cons, List.length_nil, Nat.reduceAdd, Nat.reduceSub, Array.replicate_succ, Array.replicate_zero, List.push_toArray, List.append_toArray, List.nil_append, List.cons_append]
      gi_wp2_with ((try refine ⟨hdd _, ?_⟩); gi_at_call 31; refine (ihr (n - 1) pre W hr hJ hN).mono ?_; rintro e W3 (⟨rfl, hJ3, hb3⟩ | ⟨rfl, q, hq, hx3⟩))
      · go_ret
        exact .inl ⟨rfl, hJ3, hb3⟩
      · go_ret
        exact .inr ⟨rfl, q, hq, hx3⟩
    | false =>
      have hfr : fromT s (.node p y m tl tr) = fromT s tl ++ y :: fromT s tr := if_neg (by rw [hlt]; simp)
      rw [hfr] at hN ⊢
      simp only [List.length_append, List.length_cons] at hN
      have hy2 : ∀ W1, J (pre ++ fromT s tl) W1 → Below n₀ W W1 → YieldAt F (n - 1) Try.prog l #[.string ⟨y.toArray⟩] W1 fun e W2 =>
          (e = .returned (.bool true) ∧ J (pre ++ fromT s tl ++ [y]) W2 ∧ Below n₀ W W2 ∧ W2.cell? ⟨p, 3, none⟩ = some (ptr tr) ∧ okT n₀ W2 tr) ∨ (e = .returned (.bool false) ∧ Jx (pre ++ fromT s tl ++ [y]) W2) := fun W1 hJ1 hb1 =>
        YieldAt.mono (hY (n - 1) _ y W1 hJ1 (by simp; omega)) fun e W2 h => h.elim
          (fun ⟨he, hj, hb2⟩ => .inl ⟨he, hj, hb1.trans hb2, ((hb1.trans hb2).cell (p := ⟨p, 3, none⟩) hb).trans c3, okT.below (hb1.trans hb2) hr⟩) .inr
      have ih1 := (ihl (n - 1) pre W hl hJ (by omega)).mono (R' := fun e W1 =>
          (e = .returned (.bool true) ∧ W1.cell? ⟨p, 0, none⟩ = some (.string ⟨y.toArray⟩) ∧ YieldAt F (n - 1) Try.prog l #[.string ⟨y.toArray⟩] W1 fun e W2 =>
            (e = .returned (.bool true) ∧ J (pre ++ fromT s tl ++ [y]) W2 ∧ Below n₀ W W2 ∧ W2.cell? ⟨p, 3, none⟩ = some (ptr tr) ∧ okT n₀ W2 tr) ∨ (e = .returned (.bool false) ∧ Jx (pre ++ fromT s tl ++ [y]) W2)) ∨
          (e = .returned (.bool false) ∧ ∃ q, q <+: fromT s tl ∧ Jx (pre ++ q) W1))
        (fun e W1 h => h.elim (fun ⟨he, hj, hb1⟩ => .inl ⟨he, (hb1.cell (p := ⟨p, 0, none⟩) hb).trans c0, hy2 W1 hj hb1⟩) .inr)
      clear hy2 ihl
      rw [ptr, adr]
      refine callsIn_of_wp Try.func31 rfl h31 ?_ hro
      simp only [Try.ntmps31, List.size_toArray, List.length_cons, List.length_nil, Nat.reduceAdd, Nat.reduceSub, Array.replicate_succ, Array.replicate_zero, List.push_toArray, List.append_toArray, List.nil_append, List.cons_append]
      gi_wp2_with (first
        | ((try refine ⟨hdd _, ?_⟩); gi_at_call 31; refine ih1.mono ?_; clear ih1; rintro e W1 (⟨rfl, c1', fn, tmps, assign, body, hy, hR⟩ | ⟨rfl, q, hq, hx1⟩))
        | ((try refine ⟨hdd _, ?_⟩); refine hR.mono ?_; clear hR; rintro e W2 (⟨rfl, hJ2, hb2, c2', hr2⟩ | ⟨rfl, hx2⟩))
        | ((try refine ⟨hdd _, ?_⟩); gi_at_call 31; refine (ihr (n - 1) _ _ hr2 hJ2 (by simp; omega)).mono ?_; rintro e W3 (⟨rfl, hJ3, hb3⟩ | ⟨rfl, q, hq, hx3⟩)))
      · go_ret
        exact .inl ⟨rfl, by simpa [List.append_assoc] using hJ3, hb2.trans hb3⟩
      · go_ret
        obtain ⟨r, hr'⟩ := hq
        exact .inr ⟨rfl, fromT s tl ++ y :: q, ⟨r, by simp [← hr']⟩, by simpa [List.append_assoc] using hx3⟩
      · go_ret
        exact .inr ⟨rfl, fromT s tl ++ [y], ⟨fromT s tr, by simp⟩, by simpa [List.append_assoc] using hx2⟩
      · refine ⟨fun _ h => (by cases h), ?_⟩
        gi_wp2
        go_ret
        exact .inr ⟨rfl, q, hq.trans (by simp), hx1⟩
end Go.Proofs.Ytegkjnibkilbpaa
