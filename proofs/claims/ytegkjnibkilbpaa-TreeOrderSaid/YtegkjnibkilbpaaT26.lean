import Derived.Test.YtegkjnibkilbpaaT25
namespace Go.Proofs.Ytegkjnibkilbpaa
open Go.RowKit

theorem rdC.step {w w' : World} {v : Value} {cs : List CallD} (h : rdC w.heap.size w v cs) (hb : Below w.heap.size w w') : rdC w'.heap.size w' v cs := by
  obtain ⟨a, cap, h1, h2, h3, h4, h5⟩ := h
  refine ⟨a, cap, h1, h2, h3, h4, fun hn => ?_⟩
  obtain ⟨b, off, e1, e2, e3⟩ := h5 hn
  exact ⟨b, off, e1, Nat.lt_of_lt_of_le e2 hb.size, fun j c hj => (e3 j c hj).below hb e2⟩

theorem Shares_good (w : World) (b c : Nat) (t o : T) (ht : Good w b t) (ho : Good w c o) (hc : t.cnt < 1099511627776) :
    Calls Try.prog 11 #[rad b, rad c] w (SharePost t o w) := Shares_any w b c t o ht.ok ho.ok ht.nodup ho.nodup hc

theorem kv_cnt {t : T} {cs : List CallD} (h : t.kv = kvOf cs) : t.cnt ≤ cs.length := by
  have := kvOf_len cs cs.length (Nat.le_refl _)
  rw [List.take_length, ← h, kv_len] at this
  exact this

theorem PutOf.cnt {x : List UInt8} {n : Int} {t t' : T} (h : PutOf x n t t') : t'.cnt ≤ t.cnt + 1 := by
  have := insKV_len x n t.kv
  rw [← h.1, kv_len, kv_len] at this
  exact this
theorem DropOf.cnt {x : List UInt8} {t t' : T} (h : DropOf x t t') : t'.cnt ≤ t.cnt := by
  have := List.length_filter_le (fun a => !(a.1 == x)) t.kv
  rw [← h.1, kv_len, kv_len] at this
  exact this

/-- the box of a Call -/
structure BoxC (w : World) (b : Nat) (c : CallD) : Prop where
  lt : b < w.heap.size
  num : w.cell? ⟨b, 1, none⟩ = some (.int .i64 c.n)
  name : w.cell? ⟨b, 2, none⟩ = some (.string ⟨c.name.toArray⟩)

theorem BoxC.new (w : World) (c : CallD) : BoxC (w.alloc (.cells #[.int .i64 c.of, .int .i64 c.n, .string ⟨c.name.toArray⟩, .bool c.drop] 24)) w.heap.size c :=
  ⟨by simp, by rw [World.cell?_alloc_at _ _ _ _ rfl]; rfl, by rw [World.cell?_alloc_at _ _ _ _ rfl]; rfl⟩
theorem BoxC.step {w w' : World} {b : Nat} {c : CallD} (h : BoxC w b c) (hb : Below w.heap.size w w') : BoxC w' b c :=
  ⟨Nat.lt_of_lt_of_le h.lt hb.size, (hb.cell (p := ⟨b, 1, none⟩) h.lt).trans h.num, (hb.cell (p := ⟨b, 2, none⟩) h.lt).trans h.name⟩

set_option maxRecDepth 100000 in
set_option maxHeartbeats 2000000 in
theorem shares_law (w : World) (u : Value) (cs : List CallD) (c : CallD) (hu : rdC w.heap.size w u cs) (hs : ∀ c ∈ cs, c.name.length ≤ 1125899906842624) (hz : c.name.length ≤ 1125899906842624) :
    Calls Try.prog 3 #[u, .agg #[.int .i64 c.of, .int .i64 c.n, .string ⟨c.name.toArray⟩, .bool c.drop]] w (TruePost w) := by
  have HU := Lib.hid hu
  have HS := Lib.hid hs
  have hsz := szB c.name
  clear hu hs
  go_enter Try.func3, Try.ntmps3
  go_wp2_with fail
  have hb0 : Below w.heap.size w (w.alloc (.cells #[.int .i64 c.of, .int .i64 c.n, .string ⟨c.name.toArray⟩, .bool c.drop] 24)) := (Below.refl _ _).alloc (Nat.le_refl _) _
  have hx0 := BoxC.new w c
  have u0 := HU.out.step hb0
  refine (alive_any _).mono ?_
  rintro e w1 ⟨rfl, hB1⟩
  have hx1 := hx0.step hB1
  have u1 := u0.step hB1
  have hB01 := hb0.trans (hB1.mono hb0.size)
  have HX1 := Lib.hid hx1
  have U1 := Lib.hid u1
  clear hx1 u1 hx0 u0 hb0 HU hB1
  generalize hH : w.heap.size = H at *
  go_wp2_with fail
  refine (great_any w1 _ u cs U1.out HS.out).mono ?_
  rintro e w2 ⟨g, rfl, rfl, hg⟩
  have hname := HX1.out.name
  have HG := Lib.hid hg
  clear hg HS
  cases g with
  | true =>
    go_wp2_with fail
    go_ret
    exact ⟨rfl, by rw [hH]; exact hB01⟩
  | false =>
    have hlen := HG.out rfl
    by_cases hbig : 500 < c.name.length
    · go_wp2_with fail
      go_ret
      exact ⟨rfl, by rw [hH]; exact hB01⟩
    · go_wp2_with fail
      refine (last_any w1 u cs U1.out hlen).mono ?_
      rintro e w3 ⟨t, bt, rfl, gt, hkt, hB3⟩
      have hct := kv_cnt hkt
      have hx3 := HX1.out.step hB3
      have hB03 := hB01.trans (hB3.mono (by rw [← hH]; exact hB01.size))
      have hH3 : H ≤ w3.heap.size := by have := hB01.size; have := hB3.size; omega
      have HX3 := Lib.hid hx3
      clear hx3 hname HX1 U1 hB3 hB01 hkt
      unfold rad
      have hname := HX3.out.name
      have hnum := HX3.out.num
      go_wp2_with fail
      refine (Put_good w3 bt t c.name c.n gt (by omega)).mono ?_
      rintro e w4 ⟨t4, b4, rfl, g4, hp4, hB4⟩
      have hc4 := hp4.cnt
      have hq4 := hp4.2
      have hx4 := HX3.out.step hB4
      have gt4 := gt.step hB4
      have hB04 := hB03.trans (hB4.mono hH3)
      have hH4 : H ≤ w4.heap.size := by have := hB4.size; omega
      have HX4 := Lib.hid hx4
      clear hx4 hname hnum HX3 hB4 hB03 hp4 gt hH3
      unfold rad
      have hname := HX4.out.name
      go_wp2_with fail
      refine (Drop_good w4 bt t c.name gt4 (by omega)).mono ?_
      rintro e w5 ⟨t5, b5, rfl, g5, hp5, hB5⟩
      have hc5 := hp5.cnt
      have hq5 := hp5.2
      have gt5 := gt4.step hB5
      have g45 := g4.step hB5
      have hB05 := hB04.trans (hB5.mono hH4)
      have hH5 : H ≤ w5.heap.size := by have := hB5.size; omega
      clear hname HX4 hB5 hB04 hp5 gt4 g4 hH4
      unfold rad
      have hdt := t.dep_le
      have P := Shares_good w5 bt bt t t gt5 gt5 (by omega)
      unfold SharePost at P
      rw [share_self] at P
      have s4 := share_new t4 t
      have s5 := share_new t5 t
      have s4' := share_comm (o := t) g45.nodup
      have s5' := share_le t5 t
      rw [← Nat.add_zero (nw (adrs t) t4)] at hq4
      generalize hn4 : nw (adrs t) t4 = n4 at *
      generalize hn5 : nw (adrs t) t5 = n5 at *
      generalize hS4 : shareN t4 t = S4 at *
      generalize hS5 : shareN t5 t = S5 at *
      have HS4 := Lib.hid hS4
      have HS5 := Lib.hid hS5
      clear hS4 hS5 hn4 hn5
      have K4 := Lib.hid (show t4.cnt = S4 + n4 by omega)
      have K5 := Lib.hid (show t5.cnt = S5 + n5 by omega)
      clear s4 s5
      go_wp2_with fail
      refine P.mono ?_
      rintro e w6 ⟨rfl, hB6⟩
      clear P
      have gt6 := gt5.step hB6
      have g46 := g45.step hB6
      have g56 := g5.step hB6
      have hB06 := hB05.trans (hB6.mono hH5)
      have hH6 : H ≤ w6.heap.size := by have := hB6.size; omega
      clear hB6 hB05 gt5 g45 g5 hH5
      have L := Len_any w6 _ bt t gt6.ok
      go_wp2_with fail
      refine L.mono ?_
      rintro e w7 ⟨rfl, rfl⟩
      have D := Depth_any w6 _ bt t gt6.ok
      go_wp2_with fail
      refine D.mono ?_
      rintro e w7 ⟨rfl, rfl⟩
      clear D
      have L4 := Len_any w6 _ b4 t4 g46.ok
      go_wp2_with fail
      refine L4.mono ?_
      rintro e w7 ⟨rfl, rfl⟩
      have P := Shares_good w6 b4 bt t4 t g46 gt6 (by omega)
      unfold SharePost at P
      rw [HS4.out] at P
      go_wp2_with fail
      refine P.mono ?_
      rintro e w7 ⟨rfl, hB7⟩
      clear P L4 L
      have gt7 := gt6.step hB7
      have g47 := g46.step hB7
      have g57 := g56.step hB7
      have hB07 := hB06.trans (hB7.mono hH6)
      have hH7 : H ≤ w7.heap.size := by have := hB7.size; omega
      clear hB7 hB06 gt6 g46 g56 hH6
      have i4 : t4.cnt ≤ S4 + (3 * t.dep + 1) := by have := K4.out; omega
      have j4 : S4 ≤ t4.cnt := by have := K4.out; omega
      have i5 : t5.cnt ≤ S5 + 3 * t.dep := by have := K5.out; omega
      have L5 := Len_any w7 _ b5 t5 g57.ok
      go_wp2_with fail
      refine L5.mono ?_
      rintro e w8 ⟨rfl, rfl⟩
      have P := Shares_good w7 b5 bt t5 t g57 gt7 (by omega)
      unfold SharePost at P
      rw [HS5.out] at P
      go_wp2_with fail
      refine P.mono ?_
      rintro e w8 ⟨rfl, hB8⟩
      clear P L5
      have gt8 := gt7.step hB8
      have g48 := g47.step hB8
      have g58 := g57.step hB8
      have hB08 := hB07.trans (hB8.mono hH7)
      have hH8 : H ≤ w8.heap.size := by have := hB8.size; omega
      clear hB8 hB07 gt7 g47 g57 hH7
      have P := Shares_good w8 b4 bt t4 t g48 gt8 (by omega)
      unfold SharePost at P
      rw [HS4.out] at P
      go_wp2_with fail
      refine P.mono ?_
      rintro e w9 ⟨rfl, hB9⟩
      clear P
      have gt9 := gt8.step hB9
      have g59 := g58.step hB9
      have hB09 := hB08.trans (hB9.mono hH8)
      have hH9 : H ≤ w9.heap.size := by have := hB9.size; omega
      clear hB9 hB08 gt8 g48 g58 hH8
      have L := Len_any w9 _ bt t gt9.ok
      go_wp2_with fail
      refine L.mono ?_
      rintro e w10 ⟨rfl, rfl⟩
      have P := Shares_good w9 b5 bt t5 t g59 gt9 (by omega)
      unfold SharePost at P
      rw [HS5.out] at P
      go_wp2_with fail
      refine P.mono ?_
      rintro e w10 ⟨rfl, hB10⟩
      clear P L
      have g510 := g59.step hB10
      have hB010 := hB09.trans (hB10.mono hH9)
      clear hB10 hB09 gt9 g59 hH9
      have L := Len_any w10 _ b5 t5 g510.ok
      go_wp2_with fail
      refine L.mono ?_
      rintro e w11 ⟨rfl, rfl⟩
      go_wp2
      go_ret
      exact ⟨rfl, by rw [hH]; exact hB010⟩
end Go.Proofs.Ytegkjnibkilbpaa
