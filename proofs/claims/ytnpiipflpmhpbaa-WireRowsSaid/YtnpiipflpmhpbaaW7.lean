import Derived.Test.YtnpiipflpmhpbaaW6
namespace Go.Proofs.Ytnpiipflpmhpbaa
open Go.RowKit

/-- so many texts at the beginning of bytes -/
def textsR : Nat → List UInt8 → Option (List (List UInt8) × List UInt8)
  | 0, r => some ([], r)
  | n + 1, r => if (textD r).2 = 0 then none else (textsR n (r.drop (textD r).2)).map fun p => ((textD r).1 :: p.1, p.2)

def goT (os : List (List UInt8)) (n : Nat) (r : List UInt8) : Option (List (List UInt8) × List UInt8) := (textsR n r).map fun p => (os ++ p.1, p.2)

theorem goT_step {os : List (List UInt8)} {n : Nat} {r : List UInt8} (h : (textD r).2 ≠ 0) : goT os (n + 1) r = goT (os ++ [(textD r).1]) n (r.drop (textD r).2) := by
  unfold goT
  rw [textsR, if_neg h, Option.map_map]
  congr 1
  funext p
  simp
theorem goT_fail {os : List (List UInt8)} {n : Nat} {r : List UInt8} (h : (textD r).2 = 0) : goT os (n + 1) r = none := by
  unfold goT
  rw [textsR, if_pos h]; rfl
theorem goT_end {os : List (List UInt8)} {r : List UInt8} : goT os 0 r = some (os, r) := by simp [goT, textsR]
theorem goT_nil {n : Nat} {r : List UInt8} : goT [] n r = textsR n r := by simp [goT]

theorem textsR_long : ∀ (n : Nat) (r : List UInt8), r.length < n → textsR n r = none
  | 0, r, h => by omega
  | n + 1, r, h => by
    rw [textsR]
    split
    · rfl
    · rename_i h0
      have := textD_le r
      rw [textsR_long n (r.drop (textD r).2) (by rw [List.length_drop]; omega)]
      rfl

def ansOf : Option (List (List UInt8) × List UInt8) → List (List UInt8) × List UInt8 × Bool
  | some p => (p.1, p.2, true)
  | none => ([], [], false)

/-- Take's answer -/
def takeR (l : List UInt8) (lim : Int) : List (List UInt8) × List UInt8 × Bool :=
  if (dec l).2 = 0 ∨ lim < ((dec l).1 : Int) then ([], [], false) else
  ansOf (textsR (dec l).1 (l.drop (dec l).2))

def TakePost (l : List UInt8) (lim : Int) (base : Nat) (w : World) (e : Ending) (w' : World) : Prop :=
  ∃ u v, e = .returned (.tuple #[u, v, .bool (takeR l lim).2.2]) ∧ rdT w'.heap.size w' u (takeR l lim).1 ∧ rdB w'.heap.size w' v (takeR l lim).2.1 ∧ Below base w w'

theorem TakePost.bad {l : List UInt8} {lim : Int} {base : Nat} {w w' : World} (h : takeR l lim = ([], [], false)) (hB : Below base w w') : TakePost l lim base w (.returned (.tuple #[.slice none 0 0, .slice none 0 0, .bool false])) w' := by
  unfold TakePost; rw [h]; exact ⟨_, _, rfl, rd.nil _ _ _, rd.nil _ _ _, hB⟩
theorem TakePost.good {l : List UInt8} {lim : Int} {base : Nat} {w w' : World} {u v : Value} (ss : List (List UInt8)) (r : List UInt8) (h : takeR l lim = (ss, r, true)) (h1 : rdT w'.heap.size w' u ss) (h2 : rdB w'.heap.size w' v r) (hB : Below base w w') :
    TakePost l lim base w (.returned (.tuple #[u, v, .bool true])) w' := by
  unfold TakePost; rw [h]; exact ⟨_, _, rfl, h1, h2, hB⟩

theorem takeR_pos {l : List UInt8} {lim : Int} {n k : Nat} (h1 : (dec l).1 = n) (h2 : (dec l).2 = k) (h3 : k ≠ 0) (h4 : (n : Int) ≤ lim) (q : Option (List (List UInt8) × List UInt8)) (h5 : textsR n (l.drop k) = q) :
    takeR l lim = ansOf q := by
  subst h1 h2 h5
  unfold takeR
  rw [if_neg (by omega)]

theorem takeR_neg {l : List UInt8} {lim : Int} (h : (dec l).2 = 0 ∨ lim < ((dec l).1 : Int)) : takeR l lim = ([], [], false) := by
  unfold takeR; rw [if_pos h]

theorem rdT.own {base : Nat} {w : World} {v : Value} {os : List (List UInt8)} (h : w.ownsRow base 9 1 v os.length (os.map strOf)) : rdT w.heap.size w v os := rd.of_own h

set_option maxRecDepth 100000 in
set_option maxHeartbeats 2000000 in
theorem Take_any (w0 : World) (B base : Nat) (v : Value) (l : List UInt8) (lim : Int) (hv : rdB B w0 v l) (hb : base ≤ w0.heap.size) (hl : l.length ≤ 1099511627776) :
    Calls Try.prog 17 #[v, .int .i64 lim] w0 (TakePost l lim base w0) := by
  have hv' := rd.real hv (by decide)
  have hd := dec_le l
  obtain ⟨a, cap, rfl, h2, h3, h4, h5⟩ := hv.cells
  generalize hn : (dec l).1 = n at hd
  generalize hk : (dec l).2 = at0 at hd
  have HN := Lib.hid hn
  have HK := Lib.hid hk
  clear hn hk h5 h4
  by_cases hbad : at0 = 0 ∨ lim < (n : Int) ∨ l.length < n
  · have HT : Hid (takeR l lim = ([], [], false)) := by
      show takeR l lim = _
      by_cases hbad2 : at0 = 0 ∨ lim < (n : Int)
      · exact takeR_neg (by rw [HN.out, HK.out]; exact hbad2)
      · rw [takeR_pos HN.out HK.out (by omega) (by omega) none (textsR_long _ _ (by rw [List.length_drop]; omega))]; rfl
    by_cases c1 : at0 = 0
    · subst c1
      go_enter Try.func17, Try.ntmps17
      go_wp2_with fail
      refine (num_any _ B _ l hv).mono ?_
      rintro e w' ⟨rfl, rfl⟩
      rw [HN.out, HK.out]
      go_wp2
      go_ret3
      exact TakePost.bad HT.out (Below.refl _ _)
    · have hk0 : ((at0 : Int) == 0) = false := by rw [beq_eq_false_iff_ne]; omega
      by_cases c2 : lim < (n : Int)
      · go_enter Try.func17, Try.ntmps17
        go_wp2_with fail
        refine (num_any _ B _ l hv).mono ?_
        rintro e w' ⟨rfl, rfl⟩
        rw [HN.out, HK.out]
        go_wp2
        go_ret3
        exact TakePost.bad HT.out (Below.refl _ _)
      · have c3 : l.length < n := by omega
        go_enter Try.func17, Try.ntmps17
        go_wp2_with fail
        refine (num_any _ B _ l hv).mono ?_
        rintro e w' ⟨rfl, rfl⟩
        rw [HN.out, HK.out]
        go_wp2
        go_ret3
        exact TakePost.bad HT.out (Below.refl _ _)
  · have hk0 : ((at0 : Int) == 0) = false := by rw [beq_eq_false_iff_ne]; omega
    have g1 : (n : Int) ≤ lim := by omega
    have g2 : n ≤ l.length := by omega
    have g3 : at0 ≠ 0 := by omega
    clear hbad
    obtain ⟨q, hq⟩ : ∃ q, textsR n (l.drop at0) = q := ⟨_, rfl⟩
    have HT := Lib.hid (takeR_pos (lim := lim) HN.out HK.out g3 g1 q hq)
    have HQQ := Lib.hid hq
    clear hq
    have hd1 : decide (lim < (n : Int)) = false := by simp; omega
    have hd2 : decide (l.length < n) = false := by simp; omega
    go_enter Try.func17, Try.ntmps17
    go_wp2_with fail
    refine (num_any _ B _ l hv).mono ?_
    rintro e w' ⟨rfl, rfl⟩
    rw [HN.out, HK.out]
    go_wp2_with fail
    go_loopw [8, 9, 31] (fun at_ out i wr => ∃ (k p : Nat) (os : List (List UInt8)), i = .int .i64 k ∧ k ≤ n ∧ at_ = .int .i64 p ∧ p ≤ l.length ∧ wr.ownsRow w0.heap.size 9 1 out os.length (os.map strOf) ∧ Below w0.heap.size w0 wr ∧ os.length = k ∧ goT os (n - k) (l.drop p) = q)
      (fun _ _ i _ => n - (intOf i).toNat)
    case atStart => exact ⟨0, at0, [], rfl, Nat.zero_le _, rfl, by omega, World.ownsRow_nil _ _ _ _, Below.refl _ _, rfl, by rw [goT_nil]; exact HQQ.out⟩
    case round =>
      obtain ⟨k, p, os, rfl, hkn, rfl, hp, hA, hB, hos, hgo⟩ := hrel
      have hsz := hB.size
      have HGO := Lib.hid hgo
      clear hgo
      by_cases hlt : k < n
      · have htl := textD_le (l.drop p)
        rw [List.length_drop] at htl
        generalize hs : (textD (l.drop p)).1 = s at htl
        generalize hkk : (textD (l.drop p)).2 = kk at htl
        have HS := Lib.hid hs
        have HKK := Lib.hid hkk
        have HOS := Lib.hid hos
        clear hs hkk hos
        have hol : os.length ≤ 1099511627776 := by have := HOS.out; omega
        go_wp2_with (refine stp 36 ?_)
        intro _
        refine wpList_slice rfl 24 (.tmp 34) (some (.tmp 35)) none rfl el24 rfl (rd.below hv' hB) p l.length (Or.inr rfl) (Or.inl ⟨rfl, rfl⟩) hp (by omega) fun v' hv2 => ?_
        have hv3 := rdB.drop_of hv2
        go_wp2_with fail
        refine (text_any _ _ _ _ hv3).mono ?_
        rintro e w' ⟨rfl, rfl⟩
        rw [HS.out, HKK.out]
        by_cases hz : kk = 0
        · subst hz
          have HTT : Hid (takeR l lim = ([], [], false)) := by
            show takeR l lim = _
            rw [HT.out, ← HGO.out, show n - k = (n - k - 1) + 1 by omega, goT_fail HKK.out]; rfl
          clear HT hA
          go_wp2
          go_ret3
          exact TakePost.bad HTT.out (hB.mono hb)
        · have hz0 : ((kk : Int) == 0) = false := by rw [beq_eq_false_iff_ne]; omega
          go_wp2_with (refine stp 44 ?_)
          intro _
          refine wpList_app1c rfl rfl (.tmp 42) (.tmp 43) 23 44 rfl rfl rfl rfl el23 rfl hA (strOf s) rfl rfl rfl (maxLen_ge (by omega)) (by omega) (by omega) fun u' w1 hA1 => ?_
          have hO1 : w1.ownsRow w0.heap.size 9 1 u' (os ++ [s]).length ((os ++ [s]).map strOf) := by
            have := hA1.own
            simpa using this
          have hB1 : Below w0.heap.size w0 w1 := hB.trans (hA1.below hA (Nat.le_refl _) (by omega))
          clear hA1 hA hB
          go_wp2
          go_roundw
          case rel =>
            refine ⟨k + 1, p + kk, os ++ [s], by go_num, by omega, by go_num, by omega, hO1, hB1, by have := HOS.out; simp; omega, ?_⟩
            rw [← HGO.out, show n - k = (n - (k + 1)) + 1 by omega, goT_step (by rw [HKK.out]; exact hz), HS.out, HKK.out, List.drop_drop]
          case measure => simp [intOf]; omega
      · have HTT : Hid (takeR l lim = (os, l.drop p, true)) := by
          show takeR l lim = _
          rw [HT.out, ← HGO.out, show n - k = 0 by omega, goT_end]; rfl
        clear HT
        go_wp2_with (refine stp 53 ?_)
        intro _
        refine wpList_slice rfl 24 (.tmp 51) (some (.tmp 52)) none rfl el24 rfl (rd.below hv' hB) p l.length (Or.inr rfl) (Or.inl ⟨rfl, rfl⟩) hp (by omega) fun v' hv2 => ?_
        have hv3 := rdB.drop_of hv2
        go_wp2_with fail
        refine (clone_any wr _ wr.heap.size _ _ hv3 (Nat.le_refl _) (by simp; omega)).mono ?_
        rintro e w1 ⟨v2, rfl, ho, hB1⟩
        have hO1 := own.below hA hB1
        have hB2 : Below base w0 w1 := (hB.mono hb).trans (hB1.mono (by omega))
        clear hA hB hB1
        go_wp2
        go_ret3
        exact TakePost.good _ _ HTT.out (rdT.own hO1) (rdB.own ho) hB2

theorem rd.app {w w' : World} {row : Option Nat} {s : Nat} {v : Value} {n : Nat} {xs : List Value} (h : rd w.heap.size w s v n xs) (hg : w.grownBy w' row) (hne : 0 < n → v.ownBlock ≠ row) : rd w'.heap.size w' s v n xs := by
  obtain ⟨h0, a, cap, h1, h2, h3, h4, h5⟩ := h
  refine ⟨h0, a, cap, h1, h2, h3, h4, fun hn => ?_⟩
  obtain ⟨b, off, rfl, e2, e3⟩ := h5 hn
  have hb : some b ≠ row := by have := hne hn; rw [h1] at this; exact this
  refine ⟨b, off, rfl, Nat.lt_of_lt_of_le e2 hg.size, fun j u hj => ?_⟩
  exact hg.cell (e3 j u hj) hb

theorem rd.block {B : Nat} {w : World} {s : Nat} {v : Value} {n : Nat} {xs : List Value} (h : rd B w s v n xs) (hn : 0 < n) : ∃ b, v.ownBlock = some b ∧ b < B := by
  obtain ⟨h0, a, cap, h1, h2, h3, h4, h5⟩ := h
  obtain ⟨b, off, rfl, e2, e3⟩ := h5 hn
  exact ⟨b, by rw [h1]; rfl, e2⟩

set_option maxRecDepth 100000 in
set_option maxHeartbeats 2000000 in
theorem refTake_any (w0 : World) (B base : Nat) (v : Value) (l : List UInt8) (lim : Int) (hv : rdB B w0 v l) (hb : base ≤ w0.heap.size) (hl : l.length ≤ 1099511627776) :
    Calls Try.prog 18 #[v, .int .i64 lim] w0 (TakePost l lim base w0) := by
  have hd := dec_le l
  have HNR : Hid (numR l = if (dec l).2 = 0 then (0, [], false) else ((dec l).1, l.drop (dec l).2, true)) := rfl
  generalize hn : (dec l).1 = n at hd HNR
  generalize hk : (dec l).2 = at0 at hd HNR
  have HN := Lib.hid hn
  have HK := Lib.hid hk
  clear hn hk
  by_cases c1 : at0 = 0
  · have HT := Lib.hid (takeR_neg (lim := lim) (Or.inl (by rw [HK.out]; exact c1)))
    have HNR2 := Lib.hid (HNR.out.trans (if_pos c1))
    go_enter Try.func18, Try.ntmps18
    go_wp2_with fail
    refine (refNum_any _ B base _ l hv hb hl).mono ?_
    rintro e w1 ⟨v1, rfl, hN1, hB1⟩
    rw [HNR2.out]
    clear hN1
    go_wp2
    go_ret3
    exact TakePost.bad HT.out hB1
  · have HNR2 := Lib.hid (HNR.out.trans (if_neg c1))
    by_cases c2 : lim < (n : Int)
    · have HT := Lib.hid (takeR_neg (lim := lim) (Or.inr (by rw [HN.out]; exact c2)))
      go_enter Try.func18, Try.ntmps18
      go_wp2_with fail
      refine (refNum_any _ B base _ l hv hb hl).mono ?_
      rintro e w1 ⟨v1, rfl, hN1, hB1⟩
      rw [HNR2.out]
      clear hN1
      go_wp2
      go_ret3
      exact TakePost.bad HT.out hB1
    · obtain ⟨q, hq⟩ : ∃ q, textsR n (l.drop at0) = q := ⟨_, rfl⟩
      have HT := Lib.hid (takeR_pos (lim := lim) HN.out HK.out c1 (by omega) q hq)
      have HQQ := Lib.hid hq
      clear hq
      go_enter Try.func18, Try.ntmps18
      go_wp2_with fail
      refine (refNum_any _ B w0.heap.size _ l hv (Nat.le_refl _) hl).mono ?_
      rintro e w1 ⟨v1, rfl, hN1, hB1⟩
      rw [HNR2.out] at hN1 ⊢
      obtain ⟨hr1, hlow1⟩ := hN1
      have hz1 := hB1.size
      go_wp2_with fail
      go_loopw [8, 10, 11] (fun rest out i wr => ∃ (k : Nat) (r : List UInt8) (os : List (List UInt8)), i = .int .i64 k ∧ k ≤ n ∧ r.length + k ≤ l.length ∧ rdB wr.heap.size wr rest r ∧ (0 < r.length → rest.ownBlock ≠ out.ownBlock) ∧
          wr.ownsRow w0.heap.size 9 1 out os.length (os.map strOf) ∧ Below w0.heap.size w0 wr ∧ os.length = k ∧ goT os (n - k) r = q)
        (fun _ _ i _ => n - (intOf i).toNat)
      case atStart =>
        refine ⟨0, l.drop at0, [], rfl, Nat.zero_le _, by simp, rd.real (rd.below hr1 ((Below.refl _ _).alloc (Nat.le_refl _) _)) (by decide), fun hpos => ?_, own.lit w1 [] 9 1 0 w0.heap.size rfl (Nat.zero_le _) hz1, hB1.alloc hz1 _, rfl, by rw [goT_nil]; exact HQQ.out⟩
        obtain ⟨b, e1, e2⟩ := rd.block hr1 hpos
        rw [e1]
        intro h
        simp [Value.ownBlock] at h
        omega
      case round =>
        obtain ⟨k, r, os, rfl, hkn, hrk, hrr, hap, hA, hB, hos, hgo⟩ := hrel
        have hsz := hB.size
        have HGO := Lib.hid hgo
        have HOS := Lib.hid hos
        have hol : os.length ≤ 1099511627776 := by have := HOS.out; omega
        have HAP := Lib.hid hap
        clear hgo hos hap
        by_cases hlt : k < n
        · go_wp2_with fail
          refine (refText_any wr _ wr.heap.size _ r hrr (Nat.le_refl _) (by omega)).mono ?_
          rintro e w2 ⟨v2, rfl, hN2, hB2⟩
          have htl := textD_le r
          have HTR : Hid (textR r = if (textD r).2 = 0 then ([], [], false) else ((textD r).1, r.drop (textD r).2, true)) := rfl
          generalize hs : (textD r).1 = s at htl HTR
          generalize hkk : (textD r).2 = kk at htl HTR
          have HS := Lib.hid hs
          have HKK := Lib.hid hkk
          clear hs hkk
          by_cases hz : kk = 0
          · have HTR2 := HTR.out.trans (if_pos hz)
            rw [HTR2]
            have HTT : Hid (takeR l lim = ([], [], false)) := by
              show takeR l lim = _
              rw [HT.out, ← HGO.out, show n - k = (n - k - 1) + 1 by omega, goT_fail (by rw [HKK.out]; exact hz)]; rfl
            have hB3 : Below base w0 w2 := (hB.mono hb).trans (hB2.mono (by omega))
            clear HT hA hN2 HTR2
            go_wp2
            go_ret3
            exact TakePost.bad HTT.out hB3
          · have HTR2 := HTR.out.trans (if_neg hz)
            rw [HTR2] at hN2 ⊢
            obtain ⟨hr2, hlow2⟩ := hN2
            have hA2 := own.below hA hB2
            have hlt2 := hA.lt
            have HLOW2 := Lib.hid hlow2
            have hz2 := hB2.size
            clear HTR2 hlow2
            go_wp2_with (refine stp 44 ?_)
            intro _
            refine wpList_app1c rfl rfl (.tmp 42) (.tmp 43) 23 44 rfl rfl rfl rfl el23 rfl hA2 (strOf s) rfl rfl rfl (maxLen_ge (by omega)) (by omega) (by omega) fun u' w3 hA3 => ?_
            have hO1 : w3.ownsRow w0.heap.size 9 1 u' (os ++ [s]).length ((os ++ [s]).map strOf) := by
              have := hA3.own
              simpa using this
            have hne : 0 < (r.drop kk).length → v2.ownBlock ≠ u10.ownBlock := by
              intro hpos h
              obtain ⟨kb, e1, e2⟩ := HLOW2.out hpos
              rw [e1] at h
              have := hlt2 kb h.symm
              omega
            have hr3 : rdB w3.heap.size w3 v2 (r.drop kk) := rd.app hr2 hA3.grown hne
            have HNE : Hid (0 < (r.drop kk).length → v2.ownBlock ≠ u'.ownBlock) := by
              intro hpos
              rcases hA3.place with h | ⟨kb, h, hkb⟩
              · rw [h]; exact hne hpos
              · obtain ⟨b, e1, e2⟩ := rd.block hr2 hpos
                rw [h, e1]
                intro hc
                cases hc
                omega
            have hB3 : Below w0.heap.size w0 w3 := (hB.trans (hB2.mono hsz)).trans (hA3.below hA2 (Nat.le_refl _) (by omega))
            clear hA3 hA2 hA hB hB2 hne hr2 hrr hlt2 HLOW2
            go_wp2
            go_roundw
            case rel =>
              refine ⟨k + 1, r.drop kk, os ++ [s], by go_num, by omega, by rw [List.length_drop]; omega, hr3, HNE.out, hO1, hB3, by have := HOS.out; simp; omega, ?_⟩
              rw [← HGO.out, show n - k = (n - (k + 1)) + 1 by omega, goT_step (by rw [HKK.out]; exact hz), HS.out, HKK.out]
            case measure => simp [intOf]; omega
        · have HTT : Hid (takeR l lim = (os, r, true)) := by
            show takeR l lim = _
            rw [HT.out, ← HGO.out, show n - k = 0 by omega, goT_end]; rfl
          clear HT
          have hO := rdT.own hA
          clear hA
          go_wp2
          go_ret3
          exact TakePost.good _ _ HTT.out hO hrr (hB.mono hb)
end Go.Proofs.Ytnpiipflpmhpbaa
