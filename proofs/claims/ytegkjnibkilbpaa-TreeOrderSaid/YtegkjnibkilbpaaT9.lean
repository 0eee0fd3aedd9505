import Derived.Test.YtegkjnibkilbpaaT8
namespace Go.Proofs.Ytegkjnibkilbpaa
open Go.RowKit

def getT (x : List UInt8) (t : T) : Int × Bool :=
  match findT x t with
  | .nil => (0, false)
  | .node _ _ n _ _ => (n, true)

theorem findT_ok {B : Nat} {w : World} {x : List UInt8} : ∀ {t : T}, okT B w t → okT B w (findT x t)
  | .nil, _ => trivial
  | .node p y m l r, h => by
    rw [findT]
    split
    · exact h
    · split
      · exact findT_ok h.2.2.2.2.2.2.2.1
      · exact findT_ok h.2.2.2.2.2.2.2.2.1

set_option maxRecDepth 100000 in
theorem Get_any (w : World) (B b : Nat) (t : T) (x : List UInt8) (ht : okR B w b t) :
    Calls Try.prog 16 #[rad b, .string ⟨x.toArray⟩] w fun e w' => e = .returned (.tuple #[.int .i64 (getT x t).1, .bool (getT x t).2]) ∧ w = w' := by
  obtain ⟨h0, h1, h2⟩ := ht
  unfold rad
  have hfc := find_any w _ x t h2
  have hfo := findT_ok (x := x) h2
  have HG : Hid (getT x t = match findT x t with | .nil => (0, false) | .node _ _ n _ _ => (n, true)) := rfl
  cases hf : findT x t with
  | nil =>
    rw [hf] at hfc HG
    simp only [ptr, adr] at hfc
    go_enter Try.func16, Try.ntmps16
    go_wp2_with fail
    refine hfc.mono ?_
    rintro e w1 ⟨rfl, rfl⟩
    go_wp2
    go_ret2
    rw [HG.out]
    exact ⟨rfl, rfl⟩
  | node q y m l r =>
    rw [hf] at hfc HG hfo
    obtain ⟨k0, _, k2, _⟩ := hfo
    simp only [ptr, adr] at hfc
    clear hf
    go_enter Try.func16, Try.ntmps16
    go_wp2_with fail
    refine hfc.mono ?_
    rintro e w1 ⟨rfl, rfl⟩
    go_wp2
    go_ret2
    rw [HG.out]
    exact ⟨rfl, rfl⟩

theorem New_any (w : World) : Calls Try.prog 18 #[] w (RPost .nil w.heap.size w) := by
  go_enter Try.func18, Try.ntmps18
  go_wp2
  go_ret
  exact ⟨rfl, okR.new (t := .nil) trivial, (Below.refl _ _).alloc (Nat.le_refl _) _, by simp⟩
end Go.Proofs.Ytegkjnibkilbpaa
