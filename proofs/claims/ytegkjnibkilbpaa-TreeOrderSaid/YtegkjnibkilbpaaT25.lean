import Derived.Test.YtegkjnibkilbpaaT24
namespace Go.Proofs.Ytegkjnibkilbpaa
open Go.RowKit

theorem getT_some {t : T} (ht : SL t.kv) {x : List UInt8} {n : Int} (h : (x, n) ∈ t.kv) : getT x t = (n, true) := by
  unfold getT
  rcases findT_kv (x := x) ht with ⟨_, h2⟩ | ⟨p, m, l, r, e, hm⟩
  · exact absurd (by rw [← kv_names]; exact List.mem_map.2 ⟨_, h, rfl⟩) h2
  · rw [e, SL_fun ht h hm]
theorem getT_none {t : T} (ht : SL t.kv) {x : List UInt8} (h : x ∉ t.names) : getT x t = (0, false) := by
  unfold getT
  rcases findT_kv (x := x) ht with ⟨e, _⟩ | ⟨p, m, l, r, e, hm⟩
  · rw [e]
  · exact absurd (by rw [← kv_names]; exact List.mem_map.2 ⟨_, hm, rfl⟩) h

def TruePost (w : World) (e : Ending) (w' : World) : Prop := e = .returned (.bool true) ∧ Below w.heap.size w w'

theorem below_drewN' (B : Nat) (w : World) (n : Nat) : Below B w (w.drewN n) := ⟨rfl, rfl, rfl, Nat.le_refl _, fun _ _ => rfl⟩

theorem rdT.step {w w' : World} {v : Value} {ys : List (List UInt8)} (h : rdT w.heap.size w v ys) (hb : Below w.heap.size w w') : rdT w'.heap.size w' v ys := (rd.below h hb).mono hb.size

/-- SameTexts, in the words of this seat -/
theorem same_good (w : World) (u v : Value) (l m : List (List UInt8)) (hu : rdT w.heap.size w u l) (hv : rdT w.heap.size w v m) :
    Calls Try.prog 14 #[u, v] w fun e w' => e = .returned (.bool (sameT l m)) ∧ Below w.heap.size w w' := by
  refine (sameT_any w _ _ u v l m hu hv).mono ?_
  rintro e w' ⟨rfl, n, rfl⟩
  exact ⟨rfl, below_drewN' _ _ _⟩

theorem rd_new (w : World) (xs : List Value) (ty : TypeId) (n : Nat) (hn : n = xs.length) (hm : n ≤ maxLen) : rd (w.alloc (.cells xs.toArray ty)).heap.size (w.alloc (.cells xs.toArray ty)) 1 (.slice (some ⟨w.heap.size, 0, none⟩) n n) n xs := by
  subst hn
  refine ⟨by simp, some ⟨w.heap.size, 0, none⟩, xs.length, rfl, Nat.le_refl _, hm, (fun h => by cases h), fun _ => ⟨w.heap.size, 0, rfl, by simp, fun j u hj => ?_⟩⟩
  rw [Nat.zero_add, World.cell?_alloc_at _ _ _ _ rfl]
  simpa using hj

theorem kv_two : insKV [97] 2 (insKV [98] 1 []) = [([97], 2), ([98], 1)] := by decide
theorem kv_one : ([([97], 2), ([98], 1)] : List KV).filter (fun a => !(a.1 == [98])) = [([97], 2)] := by decide

set_option maxRecDepth 100000 in
set_option maxHeartbeats 2000000 in
theorem alive_any (w : World) : Calls Try.prog 6 #[] w (TruePost w) := by
  go_enter Try.func6, Try.ntmps6
  go_wp2_with fail
  refine (New_good w).mono ?_
  rintro e w1 ⟨t1, b1, rfl, g1, rfl, hB1⟩
  unfold rad
  go_wp2_with fail
  refine (Put_good w1 b1 .nil [98] 1 g1 (by simp [T.cnt])).mono ?_
  rintro e w2 ⟨t2, b2, rfl, g2, ⟨hk2, _⟩, hB2⟩
  have g12 := g1.step hB2
  have hB02 := hB1.trans (hB2.mono hB1.size)
  have hc2 : t2.cnt = 1 := by rw [← kv_len, hk2]; rfl
  have HK2 := Lib.hid hk2
  have HC2 := Lib.hid hc2
  clear hk2 hc2 g1 hB1 hB2
  unfold rad
  go_wp2_with fail
  refine (Put_good w2 b2 t2 [97] 2 g2 (by rw [HC2.out]; omega)).mono ?_
  rintro e w3 ⟨t3, b3, rfl, g3, ⟨hk3, _⟩, hB3⟩
  rw [HK2.out] at hk3
  have hk3' : t3.kv = [([97], 2), ([98], 1)] := hk3.trans kv_two
  have g13 := g12.step hB3
  have g23 := g2.step hB3
  have hB03 := hB02.trans (hB3.mono hB02.size)
  have hc3 : t3.cnt = 2 := by rw [← kv_len, hk3']; rfl
  have HK3 := Lib.hid hk3'
  have HC3 := Lib.hid hc3
  clear hk3' hk3 hc3 g12 g2 hB02 hB3
  unfold rad
  go_wp2_with fail
  refine (Drop_good w3 b3 t3 [98] g3 (by rw [HC3.out]; omega)).mono ?_
  rintro e w4 ⟨t4, b4, rfl, g4, ⟨hk4, _⟩, hB4⟩
  rw [HK3.out] at hk4
  have hk4' : t4.kv = [([97], 2)] := hk4.trans kv_one
  have g14 := g13.step hB4
  have g24 := g23.step hB4
  have g34 := g3.step hB4
  have hB04 := hB03.trans (hB4.mono hB03.size)
  have hc4 : t4.cnt = 1 := by rw [← kv_len, hk4']; rfl
  have HK4 := Lib.hid hk4'
  have HC4 := Lib.hid hc4
  clear hk4' hk4 hc4 g13 g23 g3 hB03 hB4
  unfold rad
  have q3 : getT [97] t3 = (2, true) := getT_some g34.sl (by rw [HK3.out]; simp)
  have q2 : getT [97] t2 = (0, false) := getT_none g24.sl (by rw [← kv_names, HK2.out]; decide)
  have G3 := Get_any w4 _ b3 t3 [97] g34.ok
  have G2 := Get_any w4 _ b2 t2 [97] g24.ok
  rw [q3] at G3
  rw [q2] at G2
  clear q3 q2
  go_wp2_with fail
  refine G3.mono ?_
  rintro e w5 ⟨rfl, rfl⟩
  go_wp2_with fail
  refine G2.mono ?_
  rintro e w5 ⟨rfl, rfl⟩
  have L2 := Len_any w4 _ b2 t2 g24.ok
  rw [HC2.out] at L2
  clear G2 G3
  go_wp2_with fail
  refine L2.mono ?_
  rintro e w5 ⟨rfl, rfl⟩
  clear L2
  have n3 : t3.names = [[97], [98]] := by rw [← kv_names, HK3.out]; rfl
  have n4 : t4.names = [[97]] := by rw [← kv_names, HK4.out]; rfl
  have N3 := Lib.hid n3
  have N4 := Lib.hid n4
  clear n3 n4
  have P := Names_good w4 b3 t3 g34 (by rw [HC3.out]; omega)
  rw [N3.out] at P
  go_wp2_with fail
  refine P.mono ?_
  rintro e w5 ⟨v5, rfl, r5, hB5⟩
  clear P
  go_wp2_with fail
  have hb6 : Below w5.heap.size w5 (w5.alloc (Obj.cells #[Value.string { data := #[97] }, Value.string { data := #[98] }] 9)) := (Below.refl _ _).alloc (Nat.le_refl _) _
  have S5 := same_good _ v5 _ _ [[97], [98]] (rdT.step r5 hb6) (rd_new w5 [Value.string { data := #[97] }, Value.string { data := #[98] }] 9 2 rfl (by unfold maxLen; omega))
  have hB6 := hB5.trans (hb6.mono hB5.size)
  refine S5.mono ?_
  rintro e w6 ⟨rfl, hB⟩
  have hB46 := hB6.trans (hB.mono hB6.size)
  have hd : sameT [[97], [98]] [[97], [98]] = true := by decide
  have HD := Lib.hid hd
  rw [HD.out]
  clear hd HD S5 hB hb6 hB6 hB5 r5
  have g46 := g4.step hB46
  have g36 := g34.step hB46
  have g16 := g14.step hB46
  have hB06 := hB04.trans (hB46.mono hB04.size)
  clear hB46 hB04 g4 g34 g14 g24
  have P := Names_good w6 b4 t4 g46 (by rw [HC4.out]; omega)
  rw [N4.out] at P
  go_wp2_with fail
  refine P.mono ?_
  rintro e w7 ⟨v7, rfl, r7, hB7⟩
  clear P
  go_wp2_with fail
  have hb8 : Below w7.heap.size w7 (w7.alloc (Obj.cells #[Value.string { data := #[97] }] 9)) := (Below.refl _ _).alloc (Nat.le_refl _) _
  have S5 := same_good _ v7 _ _ [[97]] (rdT.step r7 hb8) (rd_new w7 [Value.string { data := #[97] }] 9 1 rfl (by unfold maxLen; omega))
  have hB8 := hB7.trans (hb8.mono hB7.size)
  refine S5.mono ?_
  rintro e w8 ⟨rfl, hB⟩
  have hB68 := hB8.trans (hB.mono hB8.size)
  have hd : sameT [[97]] [[97]] = true := by decide
  have HD := Lib.hid hd
  rw [HD.out]
  clear hd HD S5 hB hb8 hB8 hB7 r7
  have g38 := g36.step hB68
  have g18 := g16.step hB68
  have hB08 := hB06.trans (hB68.mono hB06.size)
  clear hB68 hB06 g46 g36 g16
  have hf : (fromT [98] t3).take (5 : Int).toNat = [[98]] := by
    rw [fromT_eq [98] t3 g38.sl, N3.out]; decide
  have P := From_good w8 b3 [98] 5 t3 g38 (by rw [HC3.out]; omega)
  rw [hf] at P
  clear hf
  go_wp2_with fail
  refine P.mono ?_
  rintro e w9 ⟨v9, rfl, r9, hB9⟩
  clear P
  go_wp2_with fail
  have hb10 : Below w9.heap.size w9 (w9.alloc (Obj.cells #[Value.string { data := #[98] }] 9)) := (Below.refl _ _).alloc (Nat.le_refl _) _
  have S5 := same_good _ v9 _ _ [[98]] (rdT.step r9 hb10) (rd_new w9 [Value.string { data := #[98] }] 9 1 rfl (by unfold maxLen; omega))
  have hB10 := hB9.trans (hb10.mono hB9.size)
  refine S5.mono ?_
  rintro e w10 ⟨rfl, hB⟩
  have hB810 := hB10.trans (hB.mono hB10.size)
  have hd : sameT [[98]] [[98]] = true := by decide
  have HD := Lib.hid hd
  rw [HD.out]
  clear hd HD S5 hB hb10 hB10 hB9 r9
  have g3 := g38.step hB810
  have g1 := g18.step hB810
  have hB010 := hB08.trans (hB810.mono hB08.size)
  clear hB810 hB08 g38 g18
  have hd1 : t3.dep ≤ 2 := by have := t3.dep_le; rw [HC3.out] at this; exact this
  have hd2 : 1 ≤ t3.dep := by
    have h := HC3.out
    cases t3 with
    | nil => cases h
    | node p x n l r => simp only [T.dep]; omega
  have D := Depth_any w10 _ b3 t3 g3.ok
  go_wp2_with fail
  refine D.mono ?_
  rintro e w11 ⟨rfl, rfl⟩
  go_wp2_with fail
  refine D.mono ?_
  rintro e w11 ⟨rfl, rfl⟩
  clear D
  have P := Shares_any w10 b3 b3 t3 t3 g3.ok g3.ok g3.nodup g3.nodup (by rw [HC3.out]; omega)
  unfold SharePost at P
  rw [share_self, HC3.out] at P
  go_wp2_with fail
  refine P.mono ?_
  rintro e w11 ⟨rfl, hB11⟩
  have g111 := g1.step hB11
  have hB011 := hB010.trans (hB11.mono hB010.size)
  clear P hB11 g1 g3 hB010
  have L := Len_any w11 _ b1 .nil g111.ok
  go_wp2_with fail
  refine L.mono ?_
  rintro e w12 ⟨rfl, rfl⟩
  go_wp2
  go_ret
  exact ⟨rfl, hB011⟩
end Go.Proofs.Ytegkjnibkilbpaa
