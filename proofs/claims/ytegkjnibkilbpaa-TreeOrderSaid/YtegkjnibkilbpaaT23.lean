import Derived.Test.YtegkjnibkilbpaaT22
namespace Go.Proofs.Ytegkjnibkilbpaa
open Go.RowKit

/-- a Call -/
structure CallD where
  of : Int
  n : Int
  name : List UInt8
  drop : Bool

/-- a call's four cells -/
def cellsC (w : World) (b o : Nat) (c : CallD) : Prop :=
  w.cell? ⟨b, o, none⟩ = some (.int .i64 c.of) ∧ w.cell? ⟨b, o + 1, none⟩ = some (.int .i64 c.n) ∧ w.cell? ⟨b, o + 2, none⟩ = some (.string ⟨c.name.toArray⟩) ∧ w.cell? ⟨b, o + 3, none⟩ = some (.bool c.drop)

/-- a readable row of Calls -/
def rdC (B : Nat) (w : World) (v : Value) (cs : List CallD) : Prop :=
  ∃ a cap, v = .slice a cs.length cap ∧ cs.length ≤ cap ∧ cap ≤ 9223372036854775807 ∧ (a = none → cap = 0) ∧
    (0 < cs.length → ∃ b off, a = some ⟨b, off, none⟩ ∧ b < B ∧ ∀ j c, cs[j]? = some c → cellsC w b (off + j * 4) c)

theorem cellsC.below {B b o : Nat} {w w' : World} {c : CallD} (h : cellsC w b o c) (hb : Below B w w') (hB : b < B) : cellsC w' b o c :=
  ⟨(hb.cell (p := ⟨b, o, none⟩) hB).trans h.1, (hb.cell (p := ⟨b, o + 1, none⟩) hB).trans h.2.1, (hb.cell (p := ⟨b, o + 2, none⟩) hB).trans h.2.2.1, (hb.cell (p := ⟨b, o + 3, none⟩) hB).trans h.2.2.2⟩

theorem rdC.below {B : Nat} {w w' : World} {v : Value} {cs : List CallD} (h : rdC B w v cs) (hb : Below B w w') : rdC B w' v cs := by
  obtain ⟨a, cap, h1, h2, h3, h4, h5⟩ := h
  refine ⟨a, cap, h1, h2, h3, h4, fun hn => ?_⟩
  obtain ⟨b, off, e1, e2, e3⟩ := h5 hn
  exact ⟨b, off, e1, e2, fun j c hj => (e3 j c hj).below hb e2⟩

def nameSum (cs : List CallD) : Nat := (cs.map fun c => c.name.length).sum
theorem nameSum_snoc {cs : List CallD} {k : Nat} {c : CallD} (h : cs[k]? = some c) : nameSum (cs.take (k + 1)) = nameSum (cs.take k) + c.name.length := by
  have hk : k < cs.length := (List.getElem?_eq_some_iff.1 h).1
  have hc : cs[k] = c := (List.getElem?_eq_some_iff.1 h).2
  unfold nameSum
  rw [List.take_succ_eq_append_getElem hk, List.map_append, List.sum_append, hc]
  simp

theorem szB (l : List UInt8) : (⟨l.toArray⟩ : ByteArray).size = l.length := rfl

def GreatPost (cs : List CallD) (w : World) (e : Ending) (w' : World) : Prop :=
  ∃ g : Bool, e = .returned (.bool g) ∧ w = w' ∧ (g = false → cs.length ≤ 120)

set_option maxRecDepth 100000 in
theorem great_any (w : World) (B : Nat) (u : Value) (cs : List CallD) (hu : rdC B w u cs) (hs : ∀ c ∈ cs, c.name.length ≤ 1125899906842624) :
    Calls Try.prog 7 #[u] w (GreatPost cs w) := by
  obtain ⟨a, cap, rfl, h2, h3, h4, h5⟩ := hu
  by_cases h0 : cs.length ≤ 120
  · go_enter Try.func7, Try.ntmps7
    go_wp2
    go_loop [3, 4] (fun n i => ∃ k : Nat, k ≤ cs.length ∧ i = .int .i64 k ∧ n = .int .i64 (nameSum (cs.take k) : Int) ∧ nameSum (cs.take k) ≤ 5000)
      (fun _ i => cs.length - (intOf i).toNat)
    case atStart => exact ⟨0, Nat.zero_le _, rfl, rfl, by simp [nameSum]⟩
    case round =>
      obtain ⟨k, hk, rfl, rfl, hle⟩ := hrel
      by_cases hlt : k < cs.length
      · obtain ⟨b, off, rfl, hbb, hc⟩ := h5 (by omega)
        obtain ⟨c1, c2, c3, c4⟩ := hc k cs[k] (by simp [hlt])
        have hsn := nameSum_snoc (cs := cs) (k := k) (c := cs[k]) (by simp [hlt])
        have hsl := hs cs[k] (by simp)
        have hz := szB cs[k].name
        generalize cs[k].name = s at c3 hsn hsl hz
        have HSN := Lib.hid hsn
        have HS := Lib.hid hs
        clear hc h5 hsn hs c1 c2 c4
        generalize hq : nameSum (cs.take k) = q at hle HSN
        have HQ := Lib.hid hq
        clear hq
        by_cases hgo : q + s.length ≤ 5000
        · go_wp2
          go_round
          case rel => exact ⟨k + 1, by omega, by go_num, by rw [HSN.out]; go_num, by rw [HSN.out]; omega⟩
          case measure => simp [intOf]; omega
        · go_wp2
          go_ret
          exact ⟨_, rfl, rfl, fun _ => h0⟩
      · have HS := Lib.hid hs
        clear h5 hs
        go_wp2
        go_ret
        exact ⟨_, rfl, rfl, fun _ => h0⟩
  · go_enter Try.func7, Try.ntmps7
    go_wp2
    go_ret
    exact ⟨_, rfl, rfl, fun h => by cases h⟩
end Go.Proofs.Ytegkjnibkilbpaa
