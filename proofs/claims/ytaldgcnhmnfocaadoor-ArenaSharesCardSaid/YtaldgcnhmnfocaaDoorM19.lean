/-
  Texts put together: H12, H13. No condition.
-/
import Derived.Test.YtaldgcnhmnfocaaDoorM15
import Derived.Test.YtaldgcnhmnfocaaDoorM12
/-
  Law 11's alive; DeclKinds: the law's walk. No condition.
-/
namespace Go.Proofs.YtaldgcnhmnfocaaDoor
open Go.RowKit

theorem fa' {p : Bool → Prop} (h0 : p false) (h1 : p true) : ∀ q, p q
  | false => h0
  | true => h1
section
variable {o : Own} {d : Dc} {e : En} {h n : Int} {t : Tm} {ls : List Lv}
end

def lvP : Lv := .mk 2 0 []
def dcP : Dc := ⟨1, 1, [97], tmSort lvP, tm0, 0, []⟩
def enP : En := enOf dcP 0
def dcQ : Dc := ⟨2, 0, [100], tmSort (lvNum 1), tmSort (lvNum 0), 0, []⟩
def enQ : En := enOf dcQ 2
theorem le_lvP : Le (.agg [.i 2, .i 0, .sl .full 0 []]) (lvX lvP) := Le.agg ⟨Le.refl _, Le.refl _, Le.nil _ _, trivial⟩
theorem le_dcP : Le (.agg [.i 1, .i 1, .str [97], .i 2, .i 0, .str [], .sl .no 3 ([lvP].map lvA), .sl .no 5 [], .i 0, .i 0, .str [], .sl .full 0 [], .sl .full 0 [], .i 0, .sl .full 0 []]) (dcX dcP) :=
  Le.agg ⟨Le.refl _, Le.refl _, Le.refl _, Le.refl _, Le.refl _, Le.refl _, Le.refl _, Le.refl _, Le.refl _, Le.refl _, Le.refl _, Le.nil _ _, Le.nil _ _, Le.refl _, Le.nil _ _, trivial⟩
theorem le_dcQ : Le (.agg [.i 2, .i 0, .str [100], .i 2, .i 0, .str [], .sl .no 3 ([lvNum 1].map lvA), .sl .no 5 [], .i 2, .i 0, .str [], .sl .no 3 ([lvNum 0].map lvA), .sl .no 5 [], .i 0, .sl .full 0 []]) (dcX dcQ) :=
  Le.agg ⟨Le.refl _, Le.refl _, Le.refl _, Le.refl _, Le.refl _, Le.refl _, Le.refl _, Le.refl _, Le.refl _, Le.refl _, Le.refl _, Le.refl _, Le.refl _, Le.refl _, Le.nil _ _, trivial⟩
theorem plainP : enPlain dcP 0 = (enP, 0) := by kernel_rfl
theorem plainQ : enPlain dcQ 2 = (enQ, 0) := by kernel_rfl
theorem typeP : enType enP [lvNum 3] = (tmSort (lvNum 3), 0) := by kernel_rfl
theorem typeP0 : enType enP [] = (tm0, 16) := by kernel_rfl
theorem valueP : enValue enP [lvNum 3] = (tm0, 13) := by kernel_rfl
theorem valueQ : enValue enQ [] = (tmSort (lvNum 0), 0) := by kernel_rfl
theorem rightP : enRight enP = true := by kernel_rfl
theorem unfQ : (decide (enQ.kind = 2) && enRight enQ) = true := by kernel_rfl
theorem unfP : (decide (enP.kind = 2) && enRight enP) = false := by kernel_rfl
theorem eqQ : enEq enQ enQ = true := by kernel_rfl
theorem eqPQ : enEq enP enQ = false := by kernel_rfl
theorem same3 : tmEq (tmSort (lvNum 3)) (tmSort (lvNum 3)) = true := by kernel_rfl
theorem same0 : tmEq (tmSort (lvNum 0)) (tmSort (lvNum 0)) = true := by kernel_rfl


end Go.Proofs.YtaldgcnhmnfocaaDoor

/-
  DeclPlains: the law's walk. No condition.
-/
namespace Go.Proofs.YtaldgcnhmnfocaaDoor
open Go.RowKit

theorem LeE.refl : ∀ xs : List AV, LeE xs xs
  | [] => trivial
  | x :: xs => ⟨LeL.refl _, LeE.refl xs⟩
theorem LeE.append : ∀ {xs ys zs us : List AV}, LeE xs ys → LeE zs us → LeE (xs ++ zs) (ys ++ us)
  | [], [], _, _, _, k => k
  | _ :: _, _ :: _, _, _, h, k => ⟨h.1, LeE.append h.2 k⟩
  | [], _ :: _, _, _, h, _ => h.elim
  | _ :: _, [], _, _, h, _ => h.elim
theorem Le.slO {o : Own} {s : Nat} {xs ys : List AV} (h : LeE xs ys) : Le (.sl o s xs) (.sl o s ys) := fun M u hu => by
  simp only [rep] at hu ⊢
  obtain ⟨a, cap, h1, h2, h3, h4, h5, h6, h7⟩ := hu
  have hl := h.length
  refine ⟨a, cap, by rw [← hl]; exact h1, by rw [← hl]; exact h2, h3, h4, ⟨fun hs => ?_, LeE.wide h h5.2⟩, by rw [← hl]; exact h6, fun h0 => ?_⟩
  · have := h5.1 hs
    subst this
    cases ys with
    | nil => rfl
    | cons y ys => exact h.elim
  · rw [← hl] at h0
    obtain ⟨b, off, e, ha⟩ := h7 h0
    exact ⟨b, off, e, h.atE ha⟩
end Go.Proofs.YtaldgcnhmnfocaaDoor
