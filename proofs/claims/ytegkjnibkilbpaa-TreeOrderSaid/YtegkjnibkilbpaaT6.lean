import Derived.Test.YtegkjnibkilbpaaT5
import Derived.Deep.LoopGhost
namespace Go.Proofs.Ytegkjnibkilbpaa
open Go.RowKit

def findT (x : List UInt8) : T → T
  | .nil => .nil
  | .node p y m l r => if y == x then .node p y m l r else if Op.bytesLess x y then findT x l else findT x r

def firstT : T → T
  | .nil => .nil
  | .node p y m .nil r => .node p y m .nil r
  | .node _ _ _ l _ => firstT l

theorem find_any (w : World) (B : Nat) (x : List UInt8) (t : T) (ht : okT B w t) :
    Calls Try.prog 20 #[ptr t, .string ⟨x.toArray⟩] w fun e w' => e = .returned (ptr (findT x t)) ∧ w = w' := by
  go_enter Try.func20, Try.ntmps20
  go_wp2
  go_loopg [0] t.cnt (fun g v wr => ∃ s : T, g = s.cnt ∧ v = ptr s ∧ okT B w s ∧ findT x s = findT x t ∧ w = wr)
  case atStart => exact ⟨t, rfl, rfl, ht, rfl, rfl⟩
  case round =>
    obtain ⟨s, rfl, rfl, hs, hf, rfl⟩ := hrel
    have HF := Lib.hid hf
    clear hf
    cases s with
    | nil =>
      rw [ptr, adr]
      go_wp2
      go_ret
      rw [← HF.out]
      exact ⟨rfl, rfl⟩
    | node p y m l r =>
      obtain ⟨h0, h1, _, h3, h4, _, _, hl, hr, _⟩ := hs
      rw [ptr, adr]
      cases heq : y == x with
      | true =>
        have hfd : findT x (.node p y m l r) = .node p y m l r := if_pos heq
        go_wp2
        go_ret
        rw [← HF.out, hfd]
        exact ⟨rfl, rfl⟩
      | false =>
        cases hlt : Op.bytesLess x y with
        | true =>
          have hfd : findT x (.node p y m l r) = findT x l := (if_neg (by rw [heq]; simp)).trans (if_pos hlt)
          have HFD := Lib.hid hfd
          clear hfd
          go_wp2
          go_roundg l.cnt
          case measure => simp only [T.cnt]; omega
          case rel => exact ⟨l, rfl, rfl, hl, by rw [← HF.out, HFD.out], rfl⟩
        | false =>
          have hfd : findT x (.node p y m l r) = findT x r := (if_neg (by rw [heq]; simp)).trans (if_neg (by rw [hlt]; simp))
          have HFD := Lib.hid hfd
          clear hfd
          go_wp2
          go_roundg r.cnt
          case measure => simp only [T.cnt]; omega
          case rel => exact ⟨r, rfl, rfl, hr, by rw [← HF.out, HFD.out], rfl⟩

theorem first_any (w : World) (B : Nat) (t : T) (hne : t ≠ .nil) (ht : okT B w t) :
    Calls Try.prog 29 #[ptr t] w fun e w' => e = .returned (ptr (firstT t)) ∧ w = w' := by
  go_enter Try.func29, Try.ntmps29
  go_wp2
  go_loopg [0] t.cnt (fun g v wr => ∃ s : T, g = s.cnt ∧ v = ptr s ∧ s ≠ .nil ∧ okT B w s ∧ firstT s = firstT t ∧ w = wr)
  case atStart => exact ⟨t, rfl, rfl, hne, ht, rfl, rfl⟩
  case round =>
    obtain ⟨s, rfl, rfl, hsn, hs, hf, rfl⟩ := hrel
    have HF := Lib.hid hf
    clear hf
    cases s with
    | nil => exact absurd rfl hsn
    | node p y m l r =>
      obtain ⟨h0, h1, _, h3, h4, _, _, hl, hr, _⟩ := hs
      rw [ptr, adr]
      cases l with
      | nil =>
        rw [ptr, adr] at h3
        go_wp2
        go_ret
        rw [← HF.out]
        exact ⟨rfl, rfl⟩
      | node q z k a b =>
        rw [ptr, adr] at h3
        go_wp2
        go_roundg (T.node q z k a b).cnt
        case measure => simp only [T.cnt]; omega
        case rel => exact ⟨_, rfl, rfl, (fun h => by cases h), hl, HF.out, rfl⟩

theorem firstT_ok {B : Nat} {w : World} : ∀ {t : T}, okT B w t → okT B w (firstT t)
  | .nil, _ => trivial
  | .node _ _ _ .nil _, h => h
  | .node _ _ _ (.node q z k a b) _, h => firstT_ok (t := .node q z k a b) h.2.2.2.2.2.2.2.1
theorem firstT_node : ∀ (t : T), t ≠ .nil → ∃ q z k r, firstT t = .node q z k .nil r
  | .nil, h => absurd rfl h
  | .node p y m .nil r, _ => ⟨p, y, m, r, rfl⟩
  | .node _ _ _ (.node q z k a b) _, _ => firstT_node (.node q z k a b) (fun h => by cases h)

def T.names : T → List (List UInt8)
  | .nil => []
  | .node _ x _ l r => l.names ++ x :: r.names
def srt : T → Prop
  | .nil => True
  | .node _ x _ l r => srt l ∧ srt r ∧ (∀ a ∈ l.names, Op.bytesLess a x = true) ∧ ∀ a ∈ r.names, Op.bytesLess x a = true
theorem firstT_mem : ∀ (t : T), t ≠ .nil → ∀ q z k a b, firstT t = .node q z k a b → z ∈ t.names
  | .nil, h, _, _, _, _, _, _ => absurd rfl h
  | .node p y m .nil r, _, q, z, k, a, b, h => by cases h; simp [T.names]
  | .node p y m (.node q' z' k' a' b') r, _, q, z, k, a, b, h => by
    have := firstT_mem (.node q' z' k' a' b') (fun h => by cases h) q z k a b h
    rw [T.names]
    exact List.mem_append_left _ this
end Go.Proofs.Ytegkjnibkilbpaa
