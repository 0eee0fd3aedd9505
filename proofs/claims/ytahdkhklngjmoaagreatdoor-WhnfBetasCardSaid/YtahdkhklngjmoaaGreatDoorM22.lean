/-
  Texts put together: I24, I25. No condition.
-/
import Derived.Test.YtahdkhklngjmoaaGreatDoorM21
/-
  Whnf, plain: one tick more. No condition.
-/
namespace Go.Proofs.YtahdkhklngjmoaaGreatDoor
open Go.RowKit

end Go.Proofs.YtahdkhklngjmoaaGreatDoor

/-
  Whnf: the law of fuel. No condition.
-/
namespace Go.Proofs.YtahdkhklngjmoaaGreatDoor
open Go.RowKit

section
variable {rb : Nat} {te : Tre} {l : List En} {used : Int} {X H : Heap} {Q : AV → Heap → Prop}
end
theorem HasW.other {r1 r2 : Nat} {ev : AV} {u1 l1 u2 l2 : Int} {X H : Heap} (h : HasW r1 ev u1 l1 ((r2, .cells [ev, .i u2, .i l2]) :: X) H) : HasW r2 ev u2 l2 ((r1, .cells [ev, .i u1, .i l1]) :: X) H :=
  (show H.Perm _ from h).trans (List.Perm.swap _ _ _)
theorem HasW.all {r1 : Nat} {ev : AV} {u1 l1 : Int} {G X H : Heap} (h : HasW r1 ev u1 l1 (G ++ X) H) : ∃ H2 : Heap, List.Sublist H2 H ∧ X.Perm H2 := sub_of_perm (A := (r1, AObj.cells [ev, .i u1, .i l1]) :: G) (show H.Perm _ from h)
end Go.Proofs.YtahdkhklngjmoaaGreatDoor

