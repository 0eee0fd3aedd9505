import Derived.Test.YtegkjnibkilbpaaT21
namespace Go.Proofs.Ytegkjnibkilbpaa
open Go.RowKit

theorem okT.cq {B : Nat} {w : World} {t : T} (h : okT B w t) : ∀ q, B ≤ q → cq q t = 0 := by
  induction t with
  | nil => intro q _; rfl
  | node p x n l r ihl ihr =>
    intro q hq
    obtain ⟨h0, h1, h2, h3, h4, h5, h6, h7, h8, h9⟩ := h
    have a1 := ihl h7 q hq
    have a2 := ihr h8 q hq
    simp only [Ytegkjnibkilbpaa.cq]
    split <;> omega

/-- a Tree that lies in memory, in order, each block once -/
structure Good (w : World) (b : Nat) (t : T) : Prop where
  ok : okR w.heap.size w b t
  sl : SL t.kv
  once : ∀ q, cq q t ≤ 1

theorem Good.srt {w : World} {b : Nat} {t : T} (h : Good w b t) : srt t := (srt_iff t).2 h.sl
theorem Good.step {w w' : World} {b : Nat} {t : T} (h : Good w b t) (hb : Below w.heap.size w w') : Good w' b t := ⟨h.ok.step hb, h.sl, h.once⟩
theorem Good.nodup {w : World} {b : Nat} {t : T} (h : Good w b t) : (adrs t).Nodup := adrs_nodup h.once
theorem Good.down {w : World} {b : Nat} {t : T} (h : Good w b t) : ∀ q, w.heap.size ≤ q → cq q t = 0 := okT.cq h.ok.2.2

/-- a call that hands back a Tree -/
def GPost (P : T → Prop) (w : World) (e : Ending) (w' : World) : Prop := ∃ t b, e = .returned (rad b) ∧ Good w' b t ∧ P t ∧ Below w.heap.size w w'

theorem fresh_once {H : Nat} {t : T} {r : T × Nat} (h : Fresh H t r) (ho : ∀ q, cq q t ≤ 1) : ∀ q, cq q r.1 ≤ 1 := fun q => by
  by_cases hq : q < H
  · exact Nat.le_trans ((h.2 q).1 hq) (ho q)
  · exact (h.2 q).2.2 (by omega)

/-- what a Put makes -/
def PutOf (x : List UInt8) (n : Int) (t t' : T) : Prop := t'.kv = insKV x n t.kv ∧ nw (adrs t) t' ≤ 3 * t.dep + 1
/-- what a Drop makes -/
def DropOf (x : List UInt8) (t t' : T) : Prop := t'.kv = t.kv.filter (fun a => !(a.1 == x)) ∧ nw (adrs t) t' ≤ 3 * t.dep

theorem Put_good (w : World) (b : Nat) (t : T) (x : List UInt8) (n : Int) (h : Good w b t) (hc : t.cnt < 1099511627776) :
    Calls Try.prog 9 #[rad b, .string ⟨x.toArray⟩, .int .i64 n] w (GPost (PutOf x n t) w) := by
  refine (Put_any w b t x n h.ok hc).mono ?_
  rintro e w' ⟨rfl, h1, hB, _⟩
  have hf := put_cq x n w.heap.size t h.down
  have hk := putT_kv w.heap.size x n t h.sl
  exact ⟨_, _, rfl, ⟨h1, by rw [hk]; exact insKV_sl h.sl, fresh_once hf h.once⟩, ⟨hk, put_nw _ x n _ t (nw_self fun p hp => hp)⟩, hB⟩

theorem not_mem_filter {x : List UInt8} {t : T} (h : x ∉ t.names) : t.kv.filter (fun a => !(a.1 == x)) = t.kv :=
  filter_ne fun a ha e => h (by rw [← kv_names, ← e]; exact List.mem_map.2 ⟨a, ha, rfl⟩)

theorem Drop_good (w : World) (b : Nat) (t : T) (x : List UInt8) (h : Good w b t) (hc : t.cnt < 1099511627776) :
    Calls Try.prog 10 #[rad b, .string ⟨x.toArray⟩] w (GPost (DropOf x t) w) := by
  refine (Drop_any w b t x h.ok h.srt hc).mono ?_
  rintro e w' (⟨hn, rfl, rfl⟩ | ⟨hn, rfl, h1, hB, _⟩)
  · refine ⟨t, b, rfl, h, ⟨?_, by rw [nw_self fun p hp => hp]; exact Nat.zero_le _⟩, Below.refl _ _⟩
    rcases findT_kv (x := x) h.sl with ⟨_, hx⟩ | ⟨p, n, l, r, e, _⟩
    · exact (not_mem_filter hx).symm
    · rw [e] at hn; cases hn
  · have hf := drop_cq w.heap.size t x h.down
    have hm : x ∈ t.names := by
      rcases findT_kv (x := x) h.sl with ⟨e, _⟩ | ⟨p, n, l, r, _, hk⟩
      · rw [e] at hn; cases hn
      · rw [← kv_names]; exact List.mem_map.2 ⟨_, hk, rfl⟩
    have hk := dropT_kv w.heap.size t x h.sl hm
    exact ⟨_, _, rfl, ⟨h1, by rw [hk]; exact List.Pairwise.sublist List.filter_sublist h.sl, fresh_once hf h.once⟩, ⟨hk, drop_nw _ _ t x (nw_self fun p hp => hp)⟩, hB⟩

theorem New_good (w : World) : Calls Try.prog 18 #[] w (GPost (fun t => t = .nil) w) := by
  refine (New_any w).mono ?_
  rintro e w' ⟨rfl, h1, hB, _⟩
  exact ⟨_, _, rfl, ⟨h1, List.Pairwise.nil, fun q => Nat.zero_le _⟩, rfl, hB⟩

/-- a call that hands back texts -/
def TextsPost (ys : List (List UInt8)) (w : World) (e : Ending) (w' : World) : Prop := ∃ v, e = .returned v ∧ rdT w'.heap.size w' v ys ∧ Below w.heap.size w w'

theorem From_good (w : World) (b : Nat) (s : List UInt8) (most : Int) (t : T) (h : Good w b t) (hc : t.cnt < 1099511627776) :
    Calls Try.prog 17 #[rad b, .string ⟨s.toArray⟩, .int .i64 most] w (TextsPost ((fromT s t).take most.toNat) w) := by
  refine (From_any w b s most t h.ok hc).mono ?_
  rintro e w' ⟨v, rfl, h1, hB⟩
  exact ⟨v, rfl, rd.of_own h1, hB⟩

theorem names_len (t : T) : t.names.length = t.cnt := by rw [← kv_names, List.length_map, kv_len]

set_option maxRecDepth 100000 in
theorem Names_good (w : World) (b : Nat) (t : T) (h : Good w b t) (hc : t.cnt < 1099511627776) :
    Calls Try.prog 15 #[rad b] w (TextsPost t.names w) := by
  have hf := From_good w b [] (t.cnt : Nat) t h hc
  have hall : (fromT [] t).take ((t.cnt : Nat) : Int).toNat = t.names := by
    rw [fromT_all h.sl, Int.toNat_natCast, ← names_len, List.take_length]
  rw [hall] at hf
  have hl := Len_any w w.heap.size b t h.ok
  have HF := Lib.hid hf
  have HL := Lib.hid hl
  clear hf hl hall
  unfold rad at HF HL ⊢
  go_enter Try.func15, Try.ntmps15
  go_wp2_with fail
  refine HL.out.mono ?_
  rintro e w1 ⟨rfl, rfl⟩
  go_wp2_with fail
  refine HF.out.mono ?_
  rintro e w1 ⟨v, rfl, h1, hB⟩
  go_wp2
  go_ret
  exact ⟨v, rfl, h1, hB⟩
end Go.Proofs.Ytegkjnibkilbpaa
