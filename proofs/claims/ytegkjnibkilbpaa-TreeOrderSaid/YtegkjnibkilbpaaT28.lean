import Derived.Test.YtegkjnibkilbpaaT27
namespace Go.Proofs.Ytegkjnibkilbpaa
open Go.RowKit

theorem str_geq (t : TypeId) (a b : List UInt8) : binOp .geq t (.string ⟨a.toArray⟩) (.string ⟨b.toArray⟩) = pure (.bool !(Op.bytesLess a b)) := by
  have e : ∀ l : List UInt8, (ByteArray.mk l.toArray).toList = l := fun l => by rw [ByteArray.toList_eq]
  rw [binOp_string_geq, e, e]
attribute [go_sem high] str_geq

theorem elT : ElemT Try.prog 35 9 1 16 := ElemT.mk' (z := .string ⟨#[]⟩) Try.underlying35 Try.infoS rfl (by omega)

def SN (l : List (List UInt8)) : Prop := l.Pairwise fun a b => a < b
theorem SL.names {t : T} (h : SL t.kv) : SN t.names := by
  rw [← kv_names]
  exact List.pairwise_map.2 h

/-- the names from one on are what is left behind those below it -/
theorem filter_drop {s : List UInt8} {l : List (List UInt8)} (hs : SN l) {k : Nat} (hk : k ≤ l.length) (h1 : ∀ j, j < k → l.getD j [] < s) (h2 : k < l.length → ¬ l.getD k [] < s) :
    l.filter (fun y => !(decide (y < s))) = l.drop k := by
  have e : l = l.take k ++ l.drop k := (List.take_append_drop k l).symm
  have a1 : (l.take k).filter (fun y => !(decide (y < s))) = [] := List.filter_eq_nil_iff.2 fun y hy => by
    obtain ⟨j, hj, rfl⟩ := List.getElem_of_mem hy
    rw [List.length_take] at hj
    have := h1 j (by omega)
    rw [List.getD_eq_getElem?_getD, List.getElem?_eq_getElem (by omega)] at this
    simpa using this
  have a2 : (l.drop k).filter (fun y => !(decide (y < s))) = l.drop k := List.filter_eq_self.2 fun y hy => by
    obtain ⟨j, hj, rfl⟩ := List.getElem_of_mem hy
    rw [List.length_drop] at hj
    have h3 := h2 (by omega)
    rw [List.getD_eq_getElem?_getD, List.getElem?_eq_getElem (by omega)] at h3
    have : ¬ l[k + j] < s := by
      rcases Nat.eq_zero_or_pos j with rfl | hj0
      · simpa using h3
      · have := List.pairwise_iff_getElem.1 hs k (k + j) (by omega) (by omega) (by omega)
        exact fun hc => h3 (by simpa using List.lt_trans this hc)
    simpa using this
  rw [e, List.filter_append, a1, a2, ← e]
  rfl

theorem nm_lt {l : List (List UInt8)} (hs : SN l) {i : Nat} (h : i + 1 < l.length) : Op.bytesLess (l.getD i []) (l.getD (i + 1) []) = true := by
  rw [less_dec, decide_eq_true_eq]
  have := List.pairwise_iff_getElem.1 hs i (i + 1) (by omega) h (by omega)
  simpa [List.getD_eq_getElem?_getD, List.getElem?_eq_getElem (show i < l.length by omega), List.getElem?_eq_getElem h] using this

theorem rd_str {B : Nat} {w : World} {a : Option Addr} {c n : Nat} {ns : List (List UInt8)} (h : rd B w 1 (.slice a n c) n (ns.map strOf)) (hl : ns.length = n) {i : Nat} (hi : i < n) :
    ∃ b off, a = some ⟨b, off, none⟩ ∧ w.cell? ⟨b, off + i, none⟩ = some (.string ⟨(ns.getD i []).toArray⟩) := by
  obtain ⟨_, a', c', e, _, _, _, h5⟩ := h
  simp only [Value.slice.injEq] at e
  obtain ⟨rfl, -, rfl⟩ := e
  obtain ⟨b, off, rfl, _, hc⟩ := h5 (by omega)
  refine ⟨b, off, rfl, hc i _ ?_⟩
  have : i < ns.length := by omega
  simp [List.getD_eq_getElem?_getD, this]

theorem rd_at {B : Nat} {w : World} {b off c n : Nat} {ns : List (List UInt8)} (h : rd B w 1 (.slice (some ⟨b, off, none⟩) n c) n (ns.map strOf)) (hl : ns.length = n) {i : Nat} (hi : i < n) :
    w.cell? ⟨b, off + i, none⟩ = some (.string ⟨(ns.getD i []).toArray⟩) := by
  obtain ⟨b2, off2, e, c2⟩ := rd_str h hl hi
  cases e
  exact c2

set_option maxRecDepth 100000 in
set_option maxHeartbeats 2000000 in
theorem from_law (w : World) (u : Value) (cs : List CallD) (s : List UInt8) (hu : rdC w.heap.size w u cs) (hs : ∀ c ∈ cs, c.name.length ≤ 1125899906842624) (hz : s.length ≤ 1125899906842624) :
    Calls Try.prog 5 #[u, .string ⟨s.toArray⟩] w (TruePost w) := by
  have HU := Lib.hid hu
  have HS := Lib.hid hs
  have hsz := szB s
  clear hu hs
  go_enter Try.func5, Try.ntmps5
  go_wp2_with fail
  refine (alive_any _).mono ?_
  rintro e w1 ⟨rfl, hB01⟩
  have u1 := HU.out.step hB01
  have U1 := Lib.hid u1
  clear u1 HU
  generalize hH : w.heap.size = H at *
  go_wp2_with fail
  refine (great_any w1 _ u cs U1.out HS.out).mono ?_
  rintro e w2 ⟨g, rfl, rfl, hg⟩
  have HG := Lib.hid hg
  clear hg HS
  cases g with
  | true =>
    go_wp2_with fail
    go_ret
    exact ⟨rfl, by rw [hH]; exact hB01⟩
  | false =>
    have hlen := HG.out rfl
    by_cases hbig : 500 < s.length
    · go_wp2_with fail
      go_ret
      exact ⟨rfl, by rw [hH]; exact hB01⟩
    · have hdec : decide ((500 : Int) < (s.length : Int)) = false := by simp; omega
      go_wp2_with fail
      refine (last_any w1 u cs U1.out hlen).mono ?_
      rintro e w3 ⟨t, bt, rfl, gt, hkt, hB3⟩
      have hct := kv_cnt hkt
      have hB03 := hB01.trans (hB3.mono (by rw [← hH]; exact hB01.size))
      have hH3 : H ≤ w3.heap.size := by have := hB01.size; have := hB3.size; omega
      clear U1 hB3 hB01 hkt
      unfold rad
      go_wp2_with fail
      refine (Names_good w3 bt t gt (by omega)).mono ?_
      rintro e w4 ⟨v4, rfl, r4, hB4⟩
      have gt4 := gt.step hB4
      have hB04 := hB03.trans (hB4.mono hH3)
      have hH4 : H ≤ w4.heap.size := by have := hB4.size; omega
      have hnl := names_len t
      obtain ⟨a4, c4, rfl, q1, q2, -, -⟩ := r4.cells
      have R4 := Lib.hid r4
      have HN := Lib.hid hnl
      rw [hnl] at q1
      clear r4 hB4 hB03 gt hH3
      have hm : ((t.cnt : Int) + 1).toNat = t.cnt + 1 := by omega
      have P := From_good w4 bt s ((t.cnt : Int) + 1) t gt4 (by omega)
      rw [hm, fromT_eq s t gt4.sl, List.take_of_length_le (by have := List.length_filter_le (fun y => !(decide (y < s))) t.names; omega)] at P
      rw [hnl] at R4 ⊢
      clear hm hnl
      go_wp2_with fail
      refine P.mono ?_
      rintro e w5 ⟨v5, rfl, r5, hB5⟩
      clear P
      have gt5 := gt4.step hB5
      have hB05 := hB04.trans (hB5.mono hH4)
      have hH5 : H ≤ w5.heap.size := by have := hB5.size; omega
      have r45 := R4.out.step hB5
      clear hB5 hB04 gt4 hH4 R4
      obtain ⟨a4', c4', e4, -, -, -, q4⟩ := r45.cells
      simp only [Value.slice.injEq] at e4
      obtain ⟨rfl, -, rfl⟩ := e4
      have R4 : Hid (rd w5.heap.size w5 1 (.slice a4 t.cnt c4) t.cnt (t.names.map strOf)) := Lib.hid (by have := r45; unfold rdT at this; rw [HN.out] at this; exact this)
      have R5 := Lib.hid r5
      have Q4 := Lib.hid q4
      clear r45 q4 r5
      go_wp2_with fail
      go_loop [8] (fun i => ∃ k : Nat, k ≤ t.cnt ∧ i = .int .i64 k ∧ Hid (∀ j, j < k → t.names.getD j [] < s)) (fun i => t.cnt - (intOf i).toNat)
      case atStart => exact ⟨0, Nat.zero_le _, rfl, fun j hj => absurd hj (by omega)⟩
      case round =>
        obtain ⟨k, hk, rfl, hsm⟩ := hrel
        by_cases hgo : k < t.cnt ∧ Op.bytesLess (t.names.getD k []) s = true
        · obtain ⟨hlt, hb⟩ := hgo
          obtain ⟨bb, off, rfl, hbb, hc⟩ := Q4.out (by rw [HN.out]; omega)
          have c1 := hc k (by rw [HN.out]; omega)
          clear hc
          have hb' : t.names.getD k [] < s := by rw [less_dec] at hb; simpa using hb
          have HB := Lib.hid hb'
          clear hb'
          generalize hx : t.names.getD k [] = x at c1 hb HB
          have HX := Lib.hid hx
          clear hx
          go_wp2
          go_round
          case rel => exact ⟨k + 1, by omega, by go_num, Lib.hid fun j hj => by
            by_cases hjk : j < k
            · exact hsm.out j hjk
            · obtain rfl : j = k := by omega
              rw [HX.out]; exact HB.out⟩
          case measure => simp [intOf]; omega
        · have hfd := filter_drop gt5.sl.names (by rw [HN.out]; omega) hsm.out (fun h hc => hgo ⟨by rw [← HN.out]; exact h, by rw [less_dec]; simpa using hc⟩)
          rw [hfd] at R5
          have hL := Len_any w5 _ bt t gt5.ok
          clear hfd hsm
          by_cases hlt : k < t.cnt
          all_goals
            try
              obtain ⟨bb, off, rfl, hbb, hc⟩ := Q4.out (by rw [HN.out]; omega)
              have c1 := hc k (by rw [HN.out]; omega)
              have hb : Op.bytesLess (t.names.getD k []) s = false := by
                cases h : Op.bytesLess (t.names.getD k []) s with
                | true => exact absurd ⟨hlt, h⟩ hgo
                | false => rfl
              clear hc
              generalize t.names.getD k [] = x at c1 hb
          all_goals
            clear hgo
            go_wp2_with fail
            refine hL.mono ?_
            rintro e w6 ⟨rfl, rfl⟩
            go_wp2_with (refine stp 55 ?_)
            intro _
            try clear hb c1 hbb
            refine wpList_slice rfl 35 (.tmp 53) (some (.tmp 54)) none rfl elT rfl R4.out k t.cnt (Or.inr rfl) (Or.inl ⟨rfl, rfl⟩) (by omega) (Nat.le_refl _) fun v8 hr8 => ?_
            have h8 : rdT w5.heap.size w5 v8 (t.names.drop k) := by
              unfold rdT
              rw [Nat.mul_one, Nat.mul_one, ← List.map_drop, List.take_of_length_le (by rw [List.length_map, List.length_drop, HN.out]; omega)] at hr8
              rw [List.length_drop, HN.out]
              exact hr8
            have hS := same_good w5 v8 v5 _ _ h8 R5.out
            have hd : sameT (t.names.drop k) (t.names.drop k) = true := by simp [sameT]
            rw [hd] at hS
            clear hr8 h8 hd hL
            go_wp2_with fail
            refine hS.mono ?_
            rintro e w6 ⟨rfl, hB6⟩
            clear hS
            have gt6 := gt5.step hB6
            have hB06 := hB05.trans (hB6.mono hH5)
            have hH6 : H ≤ w6.heap.size := by have := hB6.size; omega
            have r46 := (rd.below R4.out hB6).mono hB6.size
            have R46 := Lib.hid r46
            clear r46 hB6 hB05 hH5 R4 R5 Q4
            go_wp2_with fail
            go_loopw [9] (fun i wr => ∃ m : Nat, m ≤ t.cnt ∧ i = .int .i64 m ∧ Good wr bt t ∧ Below H w wr ∧ H ≤ wr.heap.size ∧ Hid (rd wr.heap.size wr 1 (.slice _ t.cnt c4) t.cnt (t.names.map strOf))) (fun i _ => t.cnt - (intOf i).toNat)
            case atStart => exact ⟨0, Nat.zero_le _, rfl, gt6, hB06, hH6, R46⟩
            case round =>
              clear gt6 hB06 hH6 R46
              obtain ⟨m, hm, rfl, hg, hB, hHr, R⟩ := hrel
              by_cases hmt : m < t.cnt
              · obtain ⟨b', off', e, c1⟩ := rd_str R.out HN.out hmt
                cases e
                have hG := Get_any wr _ bt t (t.names.getD m []) hg.ok
                have hgt : (getT (t.names.getD m []) t).2 = true := getT_true hg.sl (by
                  rw [List.getD_eq_getElem?_getD, List.getElem?_eq_getElem (by rw [HN.out]; exact hmt)]; exact List.getElem_mem _)
                rw [hgt] at hG
                clear hgt
                generalize (getT (t.names.getD m []) t).1 = gi at hG
                have hlt1 : 0 < m → Op.bytesLess (t.names.getD (m - 1) []) (t.names.getD m []) = true := fun h0 => by
                  have := nm_lt hg.sl.names (i := m - 1) (by rw [HN.out]; omega)
                  rwa [show m - 1 + 1 = m by omega] at this
                have c0 := fun h0 : 0 < m => rd_at R.out HN.out (i := m - 1) (by omega)
                generalize t.names.getD m [] = x at c1 hG hlt1
                generalize t.names.getD (m - 1) [] = y at hlt1 c0
                have C0 := Lib.hid c0
                have HL := Lib.hid hlt1
                clear c0 hlt1
                go_wp2_with fail
                refine hG.mono ?_
                rintro e w7 ⟨rfl, rfl⟩
                clear hG
                by_cases h0 : 0 < m
                · have c0 := C0.out h0
                  have hl := HL.out h0
                  have hd0 : decide ((0 : Int) < (m : Int)) = true := by simp; omega
                  have i1 : (0 : Int) ≤ (m : Int) - 1 := by omega
                  have i2 : (m : Int) - 1 < (t.cnt : Int) := by omega
                  have i3 : ((m : Int) - 1).toNat = m - 1 := by omega
                  have i4 : IntKind.i64.wrap ((m : Int) - 1) = (m : Int) - 1 := IntWalk.i64_in _ (by omega)
                  clear C0 HL
                  go_wp2
                  go_quiet (fail)
                  clear i4 i3
                  go_wp2
                  go_roundw
                  case rel => exact ⟨m + 1, by omega, by go_num, hg.step (below_drewN' _ _ _), hB.trans (below_drewN' _ _ _), hHr, (R.out.below (below_drewN' _ _ _)).mono (Nat.le_refl _)⟩
                  case measure => simp [intOf]; omega
                · have hd0 : decide ((0 : Int) < (m : Int)) = false := by simp; omega
                  clear C0 HL
                  go_wp2
                  go_quiet (fail)
                  go_wp2
                  go_roundw
                  case rel => exact ⟨m + 1, by omega, by go_num, hg.step (below_drewN' _ _ _), hB.trans (below_drewN' _ _ _), hHr, (R.out.below (below_drewN' _ _ _)).mono (Nat.le_refl _)⟩
                  case measure => simp [intOf]; omega
              · go_wp2
                go_ret
                exact ⟨rfl, by rw [hH]; exact hB⟩

theorem str_bytes (a : ByteArray) : (⟨a.data.toList.toArray⟩ : ByteArray) = a := by cases a; simp

theorem from_str (w : World) (u : Value) (cs : List CallD) (a : ByteArray) (hu : rdC w.heap.size w u cs) (hs : ∀ c ∈ cs, c.name.length ≤ 1125899906842624) (hz : a.size ≤ 1125899906842624) :
    Calls Try.prog 5 #[u, .string a] w (TruePost w) := by
  have h := from_law w u cs a.data.toList hu hs (by simpa using hz)
  rwa [str_bytes] at h
end Go.Proofs.Ytegkjnibkilbpaa
