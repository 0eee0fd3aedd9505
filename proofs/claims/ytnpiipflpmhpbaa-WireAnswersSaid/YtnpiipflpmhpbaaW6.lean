import Derived.Test.YtnpiipflpmhpbaaW5
import Derived.Test.YtnpiipflpmhpbaaDraw
namespace Go.Proofs.Ytnpiipflpmhpbaa
open Go.RowKit

def sameT (a b : List (List UInt8)) : Bool := decide (a = b)

theorem getDT_eq_of {a b : List (List UInt8)} (h : a.length = b.length) (hj : ∀ j, j < a.length → a.getD j [] = b.getD j []) : a = b := by
  apply List.ext_getElem h
  intro j h1 h2
  have := hj j h1
  simpa [List.getD_eq_getElem?_getD, h1, h2] using this

set_option maxRecDepth 100000 in
set_option maxHeartbeats 400000 in
theorem sameT_any (w0 : World) (B C : Nat) (u v : Value) (l m : List (List UInt8)) (hu : rdT B w0 u l) (hv : rdT C w0 v m) :
    Calls Try.prog 25 #[u, v] w0 fun e w' => e = .returned (.bool (sameT l m)) ∧ ∃ n, w' = w0.drewN n := by
  obtain ⟨a, cap, rfl, h2, h3, h4, h5⟩ := hu.cells
  obtain ⟨a', cap', rfl, h2', h3', h4', h5'⟩ := hv.cells
  by_cases hlen : l.length = m.length
  · have hne : ((l.length : Int) != (m.length : Int)) = false := by simp [hlen]
    go_enter Try.func25, Try.ntmps25
    go_wp2
    go_loopw [5] (fun i wr => ∃ k : Nat, k ≤ l.length ∧ i = .int .i64 k ∧ (∃ n, wr = w0.drewN n) ∧ ∀ j, j < k → l.getD j [] = m.getD j [])
      (fun i _ => l.length - (intOf i).toNat)
    case atStart => exact ⟨0, Nat.zero_le _, rfl, ⟨0, rfl⟩, fun j hj => absurd hj (by omega)⟩
    case round =>
      obtain ⟨k, hk, rfl, ⟨n, rfl⟩, hsame⟩ := hrel
      by_cases hlt : k < l.length
      · obtain ⟨b, off, rfl, _, hc⟩ := h5 (by omega)
        obtain ⟨b', off', rfl, _, hc'⟩ := h5' (by omega)
        have c1 : w0.cell? ⟨b, off + k, none⟩ = some (.string ⟨(l.getD k []).toArray⟩) := hc k hlt
        have c2 : w0.cell? ⟨b', off' + k, none⟩ = some (.string ⟨(m.getD k []).toArray⟩) := hc' k (by omega)
        have HS := Lib.hid hsame
        have i1 : ((k : Int) < (l.length : Int)) := by omega
        have i2 : ((k : Int) < (m.length : Int)) := by omega
        clear hc hc' h5 h5' hsame hne
        generalize hx : l.getD k [] = x at c1
        generalize hy : m.getD k [] = y at c2
        have HX := Lib.hid hx
        have HY := Lib.hid hy
        have HL := Lib.hid hlen
        clear hx hy hlen
        by_cases hxy : x = y
        · subst hxy
          go_wp2
          go_quiet (fail)
          go_wp2
          go_roundw
          case rel =>
            refine ⟨k + 1, by omega, by go_num, ⟨_, rfl⟩, fun j hj => ?_⟩
            by_cases hjk : j < k
            · exact HS.out j hjk
            · have : j = k := by omega
              subst this
              rw [HX.out, HY.out]
          case measure => simp [intOf]; omega
        · have hb : (x == y) = false := by rw [beq_eq_false_iff_ne]; exact hxy
          go_wp2
          go_quiet (fail)
          go_wp2
          go_ret
          refine ⟨?_, _, World.drewN_drewN ..⟩
          have : sameT l m = false := by
            simp [sameT]
            rintro rfl
            exact hxy (HX.out.symm.trans HY.out)
          rw [this]
          rfl
      · have HS := Lib.hid hsame
        have HL := Lib.hid hlen
        clear hsame hlen hne h5 h5'
        go_wp2
        go_ret
        refine ⟨?_, _, rfl⟩
        have : sameT l m = true := by
          simp only [sameT, decide_eq_true_eq]
          exact getDT_eq_of HL.out fun j hj => HS.out j (by omega)
        rw [this]
        rfl
  · have hne : ((l.length : Int) != (m.length : Int)) = true := by simp; omega
    have hs : Hid (sameT l m = false) := by
      show sameT l m = false
      simp [sameT]; intro h; exact hlen (by rw [h])
    go_enter Try.func25, Try.ntmps25
    go_wp2
    go_ret
    rw [hs.out]
    exact ⟨rfl, 0, rfl⟩

/-- how long texts are together, a place for each -/
def lens (ss : List (List UInt8)) : Nat := (ss.map fun s => s.length + 1).sum
theorem lens_snoc {ss : List (List UInt8)} {k : Nat} (hk : k < ss.length) : lens (ss.take (k + 1)) = lens (ss.take k) + (1 + (ss.getD k []).length) := by
  unfold lens
  rw [List.take_succ_eq_append_getElem hk, List.map_append, List.sum_append]
  simp [List.getD_eq_getElem?_getD, hk]
  omega

def LenPost (ss : List (List UInt8)) (most : Nat) (w : World) (e : Ending) (w' : World) : Prop :=
  ∃ r : Int, e = .returned (.int .i64 r) ∧ w = w' ∧ (r ≤ most → ss.length ≤ most ∧ lens ss ≤ most)

set_option maxRecDepth 100000 in
set_option maxHeartbeats 400000 in
theorem Lengths_any (w0 : World) (B : Nat) (u : Value) (ss : List (List UInt8)) (most : Nat) (hu : rdT B w0 u ss) (hm : most ≤ 1099511627776) (hs : ∀ s ∈ ss, s.length ≤ 1125899906842624) :
    Calls Try.prog 26 #[u, .int .i64 most] w0 (LenPost ss most w0) := by
  obtain ⟨a, cap, rfl, h2, h3, h4, h5⟩ := hu.cells
  by_cases h0 : ss.length ≤ most
  · go_enter Try.func26, Try.ntmps26
    go_wp2
    go_loop [5, 6] (fun n i => ∃ k : Nat, k ≤ ss.length ∧ i = .int .i64 k ∧ n = .int .i64 (lens (ss.take k) : Int) ∧ (0 < k → lens (ss.take k) ≤ most + 1125899906842625))
      (fun _ i => ss.length - (intOf i).toNat)
    case atStart => exact ⟨0, Nat.zero_le _, rfl, rfl, fun h => absurd h (by omega)⟩
    case round =>
      obtain ⟨k, hk, rfl, rfl, hle⟩ := hrel
      have hle' : lens (ss.take k) ≤ most + 1125899906842625 := by
        rcases Nat.eq_zero_or_pos k with rfl | h
        · simp [lens]
        · exact hle h
      by_cases hlt : k < ss.length
      · obtain ⟨b, off, rfl, hbb, hc⟩ := h5 (by omega)
        have c1 : w0.cell? ⟨b, off + k, none⟩ = some (.string ⟨(ss.getD k []).toArray⟩) := hc k (by omega)
        have hsn := lens_snoc hlt
        have hsl := hs (ss.getD k []) (by simp [List.getD_eq_getElem?_getD, hlt])
        generalize ss.getD k [] = s at c1 hsn hsl
        have HSN := Lib.hid hsn
        have HS := Lib.hid hs
        have hz := szB s
        clear hc h5 hsn hs hle
        by_cases hgo : lens (ss.take k) ≤ most
        · generalize hq : lens (ss.take k) = q at hgo hle' HSN
          have HQ := Lib.hid hq
          clear hq
          go_wp2
          go_round
          case rel => exact ⟨k + 1, by omega, by go_num, by rw [HSN.out]; go_num, fun _ => by rw [HSN.out]; omega⟩
          case measure => simp [intOf]; omega
        · generalize hq : lens (ss.take k) = q at hgo hle' HSN
          have HQ := Lib.hid hq
          clear hq
          go_wp2
          go_ret
          exact ⟨_, rfl, rfl, fun h => absurd h (by omega)⟩
      · have hkk : ss.take k = ss := List.take_of_length_le (by omega)
        rw [hkk] at hle'
        have HK := Lib.hid hkk
        rw [hkk]
        clear hkk h5 hs hle
        go_wp2
        go_ret
        exact ⟨_, rfl, rfl, fun h => ⟨h0, by omega⟩⟩
  · go_enter Try.func26, Try.ntmps26
    go_wp2
    go_ret
    exact ⟨_, rfl, rfl, fun h => absurd h (by omega)⟩

def GreatPost (ss : List (List UInt8)) (l : List UInt8) (w : World) (e : Ending) (w' : World) : Prop :=
  ∃ g : Bool, e = .returned (.bool g) ∧ w = w' ∧ (g = false → ss.length ≤ 2000 ∧ lens ss ≤ 2000 ∧ l.length ≤ 3000)

set_option maxRecDepth 100000 in
theorem great_any (w0 : World) (B C : Nat) (u v : Value) (ss : List (List UInt8)) (l : List UInt8) (hu : rdT B w0 u ss) (hv : rdB C w0 v l) (hs : ∀ s ∈ ss, s.length ≤ 1125899906842624) :
    Calls Try.prog 9 #[u, v] w0 (GreatPost ss l w0) := by
  have hu' := hu
  obtain ⟨a, cap, rfl, h2, h3, h4, h5⟩ := hu.cells
  obtain ⟨a', cap', rfl, h2', h3', h4', h5'⟩ := hv.cells
  clear h5 h5' h4 h4'
  go_enter Try.func9, Try.ntmps9
  go_wp2_with fail
  refine (Lengths_any _ B _ ss 2000 hu' (by omega) hs).mono ?_
  rintro e w' ⟨r, rfl, rfl, hr⟩
  have HR := Lib.hid hr
  clear hr hs
  go_wp2
  all_goals go_ret
  all_goals
    refine ⟨_, rfl, rfl, fun h => ?_⟩
    have h' : ¬ 2000 < r ∧ ¬ 3000 < l.length := by
      constructor
      · intro hc; simp [hc] at h
      · intro hc; simp at h; first | done | omega
    exact ⟨(HR.out (by omega)).1, (HR.out (by omega)).2, by omega⟩

/-- the reference's Num -/
theorem dec_val {l : List UInt8} {k : Nat} (hk : k < l.length) (h6 : k < 6) (hcont : ∀ j, j < k → 128 ≤ (l.getD j 0).toNat) (hc : (l.getD k 0).toNat < 128) :
    dec l = if val (l.take (k + 1)) ≤ 1099511627776 ∧ enc (val (l.take (k + 1))) = l.take (k + 1) then (val (l.take (k + 1)), k + 1) else (0, 0) := by
  rw [dec_found hk h6 hcont hc]
  have ht := take_succ hk
  have hl : ∀ x ∈ l.take k, 128 ≤ x.toNat := by
    intro x hx
    obtain ⟨j, hj, rfl⟩ := List.getElem_of_mem hx
    rw [List.length_take] at hj
    have := hcont j (by omega)
    have hj2 : j < l.length := by omega
    simpa [List.getD_eq_getElem?_getD, hj2] using this
  have h := enc_val (l.take k) (l.getD k 0) hl hc
  rw [← ht] at h
  have hz : (0 < k) ↔ l.take k ≠ [] := by
    constructor
    · intro h0 he; have := congrArg List.length he; rw [List.length_take, Nat.min_eq_left (by omega)] at this; simp at this; omega
    · intro h0; rcases Nat.eq_zero_or_pos k with rfl | h1
      · exact absurd rfl h0
      · exact h1
  simp only [h, hz]

theorem numR_of {l : List UInt8} {n k : Nat} (h : dec l = (n, k)) : numR l = if k = 0 then (0, [], false) else (n, l.drop k, true) := by unfold numR; rw [h]

theorem refnum_val {l : List UInt8} {k : Nat} {x : UInt8} (hk : k < l.length) (hx : l.getD k 0 = x) :
    ((val (l.take k) : Nat) : Int) + ((x.toNat : Nat) : Int) % 128 * ((128 ^ k : Nat) : Int) = ((val (l.take (k + 1)) : Nat) : Int) := by
  rw [val_take hk, hx]
  simp

set_option maxRecDepth 100000 in
set_option maxHeartbeats 1000000 in
theorem refNum_any (w0 : World) (B base : Nat) (v : Value) (l : List UInt8) (hv : rdB B w0 v l) (hb : base ≤ w0.heap.size) (hl : l.length ≤ 1099511627776) :
    Calls Try.prog 14 #[v] w0 (NumRPost l base w0) := by
  have hv' := hv
  obtain ⟨a, cap, rfl, h2, h3, h4, h5⟩ := hv.cells
  go_enter Try.func14, Try.ntmps14
  go_wp2
  go_loop [5, 6, 7] (fun n one i => ∃ k : Nat, k ≤ l.length ∧ k ≤ 6 ∧ i = .int .i64 k ∧ n = .int .i64 ((val (l.take k) : Nat) : Int) ∧ one = .int .i64 ((128 ^ k : Nat) : Int) ∧ ∀ j, j < k → 128 ≤ (l.getD j 0).toNat)
    (fun _ _ i => 6 - (intOf i).toNat)
  case atStart => exact ⟨0, Nat.zero_le _, by omega, rfl, rfl, rfl, fun j hj => absurd hj (by omega)⟩
  case round =>
    obtain ⟨k, hk, hk6, rfl, rfl, rfl, hcont⟩ := hrel
    by_cases hlt : k < l.length ∧ k < 6
    · obtain ⟨hlt, hlt6⟩ := hlt
      obtain ⟨b, off, rfl, _, hc⟩ := h5 (by omega)
      have c1 : w0.cell? ⟨b, off + k, none⟩ = some (.int .u8 ((l.getD k 0).toNat : Int)) := hc k (by omega)
      have hvl := val_lt (l.take k)
      rw [List.length_take, Nat.min_eq_left (by omega)] at hvl
      have hp : 128 ^ k ≤ 34359738368 := Nat.le_trans (Nat.pow_le_pow_right (by decide) (show k ≤ 5 by omega)) (by decide)
      have hvl2 := val_lt (l.take (k + 1))
      rw [List.length_take, Nat.min_eq_left (by omega)] at hvl2
      have hp2 : 128 ^ (k + 1) ≤ 4398046511104 := Nat.le_trans (Nat.pow_le_pow_right (by decide) (show k + 1 ≤ 6 by omega)) (by decide)
      have hpe : 128 ^ (k + 1) = 128 ^ k * 128 := Nat.pow_succ ..
      generalize hx : l.getD k 0 = x at c1
      have hx2 : (x.toNat : Int) < 256 := by have := x.toNat_lt; omega
      have hx0 : (0 : Int) ≤ (x.toNat : Int) := by omega
      have HV := Lib.hid (refnum_val hlt hx)
      have HD := fun h => dec_val hlt hlt6 hcont h
      rw [hx] at HD
      have HX := Lib.hid hx
      have HC := Lib.hid hcont
      generalize hN : val (l.take k) = N at hvl HV
      generalize hM : val (l.take (k + 1)) = M at hvl2 HV HD
      generalize hP : 128 ^ k = p at hvl hp hpe HV
      generalize hP2 : 128 ^ (k + 1) = p2 at hpe hp2 hvl2
      have HM := Lib.hid hM
      have HPE := Lib.hid hpe
      have HP2 := Lib.hid hP2
      have HDD := Lib.hid HD
      clear hx hcont hc h5 hN hM hP hpe hP2 HD
      have hmul : 0 ≤ (x.toNat : Int) % 128 * (p : Int) ∧ (x.toNat : Int) % 128 * (p : Int) ≤ 4363686772736 := by
        have e : (x.toNat : Int) % 128 * (p : Int) = ((x.toNat % 128 * p : Nat) : Int) := by simp
        rw [e]
        have := Nat.mul_le_mul (show x.toNat % 128 ≤ 127 by omega) hp
        omega
      by_cases hxc : 128 ≤ x.toNat
      · go_wp2
        go_roundw
        case rel =>
          rw [HV.out, HM.out.symm]
          refine ⟨k + 1, by omega, by omega, by go_num, rfl, by rw [HP2.out, HPE.out]; go_num, fun j hj => ?_⟩
          by_cases hjk : j < k
          · exact HC.out j hjk
          · have : j = k := by omega
            subst this
            rw [HX.out]; exact hxc
        case measure => simp [intOf]; omega
      · have hcut : rdB w0.heap.size w0 (.slice (some ⟨b, off, none⟩) (k + 1) cap) (l.take (k + 1)) := by
          have h := rdB.take_of (by omega) (rd.sliced (rd.real hv' (by decide)) 0 (k + 1) (by omega) (by omega))
          rw [if_neg (by omega)] at h
          simpa [Addr.add] using h
        have hD := HDD.out (by omega)
        go_wp2_with fail
        rw [HV.out]
        by_cases hM : M ≤ 1099511627776
        · have hd : decide ((1099511627776 : Int) < (M : Int)) = false := by simp; omega
          have H3 := Lib.hid hv'
          clear hv' hD
          have hsum : IntKind.i64.wrap ((k : Int) + 1) = (k : Int) + 1 := IntWalk.i64_in _ (by omega)
          have hC0 : Below w0.heap.size w0 w0.drew := (Below.refl _ _).drew
          refine wp_region_chain [4, 9] (Below w0.heap.size w0) (by kernel_rfl) (by kernel_rfl) hC0 ?_
          iterate 4 (refine wpC_step rfl rfl rfl rfl hC0 ?_; apply Exists.intro; refine ⟨fun w' hw' K hK => ?_, ?_⟩; (go_step; exact hK))
          refine wpC_eff rfl rfl fun K hK => ?_
          go_step
          refine (one_any _ w0.heap.size M (by simp) (by omega)).mono ?_
          rintro e w1 ⟨v1, rfl, hO1, hB1⟩
          have hC1 : Below w0.heap.size w0 w1 := hC0.trans hB1
          refine hK _ _ ⟨_, rfl⟩ hC1 ?_
          clear hK K
          iterate 4 (refine wpC_step rfl rfl rfl rfl hC1 ?_; apply Exists.intro; refine ⟨fun w' hw' K hK => ?_, ?_⟩; (go_step; exact hK))
          refine wpC_eff rfl rfl fun K hK => ?_
          go_step
          refine (sameB_any w1 _ _ _ _ (enc M) (l.take (k + 1)) (rdB.own hO1) (rd.below hcut hC1)).mono ?_
          rintro e w2 ⟨rfl, n2, rfl⟩
          have hC2 : Below w0.heap.size w0 (w1.drewN n2) := below_drewN hC1 n2
          refine hK _ _ ⟨_, rfl⟩ hC2 ?_
          clear hK K
          by_cases hsame : enc M = l.take (k + 1)
          · have hs : sameL (enc M) (l.take (k + 1)) = true := by simp [sameL, hsame]
            rw [hs]
            iterate 2 (refine wpC_step rfl rfl rfl rfl hC2 ?_; apply Exists.intro; refine ⟨fun w' hw' K hK => ?_, ?_⟩; (go_step; exact hK))
            refine wpC_nil ?_
            have hz1 := hC2.size
            have HD2 := Lib.hid (HDD.out (by omega))
            have hv2 := rd.below (rd.real H3.out (by decide)) hC2
            clear HDD hsum hd
            go_wp2_with (refine stp 51 ?_)
            intro _
            refine wpList_slice rfl 24 (.tmp 48) (some (.tmp 50)) none rfl el24 rfl hv2 (k + 1) l.length (Or.inr rfl) (Or.inl ⟨rfl, rfl⟩) (by omega) (by omega) fun v' hv3 => ?_
            have hv4 := rdB.drop_of hv3
            go_wp2_with fail
            refine (copy_any _ _ base _ _ hv4 (by omega) (by simp; omega)).mono ?_
            rintro e w3 ⟨v3, rfl, ho, hB3⟩
            have hB4 : Below base w0 w3 := (hC2.mono hb).trans hB3
            go_wp2
            go_ret3
            refine NumRPost.mk M _ ?_ rfl (rdN.own ho) hB4
            rw [numR_of (HD2.out.trans (if_pos ⟨hM, hsame⟩)), if_neg (by omega)]
          · have hs : sameL (enc M) (l.take (k + 1)) = false := by simp [sameL, hsame]
            rw [hs]
            iterate 2 (refine wpC_step rfl rfl rfl rfl hC2 ?_; apply Exists.intro; refine ⟨fun w' hw' K hK => ?_, ?_⟩; (go_step; exact hK))
            refine wpC_nil ?_
            have HD2 := Lib.hid (HDD.out (by omega))
            clear HDD hsum hd
            go_wp2
            go_ret3
            refine NumRPost.mk 0 [] ?_ rfl (rdN.nil _ _) (hC2.mono hb)
            rw [numR_of (HD2.out.trans (if_neg (fun h => hsame h.2))), if_pos rfl]
        · have hd : decide ((1099511627776 : Int) < (M : Int)) = true := by simp; omega
          have HD2 := Lib.hid (HDD.out (by omega))
          clear hD HDD
          go_quiet (fail)
          go_wp2
          go_ret3
          refine NumRPost.mk 0 [] ?_ rfl (rdN.nil _ _) (below_drewN (Below.refl _ _) _)
          rw [numR_of (HD2.out.trans (if_neg (fun h => hM h.1))), if_pos rfl]
    · have HC := Lib.hid (dec_none (bs := l) fun j hj => hcont j (by omega))
      clear hcont h5
      go_wp2
      all_goals go_ret3
      all_goals
        refine NumRPost.mk 0 [] ?_ rfl (rdN.nil _ _) (Below.refl _ _)
        rw [numR_of HC.out, if_pos rfl]
/-- the reference's Text in terms of its Num -/
theorem textR_num (l : List UInt8) : textR l = if (numR l).2.2 = false ∨ (numR l).2.1.length < (numR l).1 then ([], [], false) else ((numR l).2.1.take (numR l).1, (numR l).2.1.drop (numR l).1, true) := by
  have hd := dec_le l
  unfold textR textD numR
  by_cases h0 : (dec l).2 = 0
  · simp [h0]
  · by_cases h1 : l.length - (dec l).2 < (dec l).1
    · simp [h0, h1]
    · simp only [h0, h1, if_false, List.length_drop, or_self, Bool.true_eq_false]
      rw [if_neg (by omega), List.drop_drop]

set_option maxRecDepth 100000 in
set_option maxHeartbeats 1000000 in
theorem refText_any (w0 : World) (B base : Nat) (v : Value) (l : List UInt8) (hv : rdB B w0 v l) (hb : base ≤ w0.heap.size) (hl : l.length ≤ 1099511627776) :
    Calls Try.prog 16 #[v] w0 (TextRPost l base w0) := by
  have ht := Lib.hid (textR_num l)
  go_enter Try.func16, Try.ntmps16
  go_wp2_with fail
  refine (refNum_any _ B base _ l hv hb hl).mono ?_
  rintro e w1 ⟨v1, rfl, hN, hB1⟩
  generalize hnR : numR l = q at hN ht
  obtain ⟨n, r, ok⟩ := q
  simp only at hN ht ⊢
  have HNR := Lib.hid hnR
  clear hnR
  obtain ⟨hr, hlow⟩ := hN
  have hr' := hr
  obtain ⟨a, cap, rfl, h2, h3, h4, h5⟩ := hr.cells
  clear h5 h4
  cases ok with
  | false =>
    go_wp2
    go_ret3
    exact TextRPost.mk [] [] (by rw [ht.out]; simp) rfl (rdN.nil _ _) hB1
  | true =>
    by_cases h1 : r.length < n
    · go_wp2
      go_ret3
      exact TextRPost.mk [] [] (by rw [ht.out, if_pos (Or.inr h1)]) rfl (rdN.nil _ _) hB1
    · go_wp2_with fail
      refine wp_region_chain [] (Below w1.heap.size w1) (by kernel_rfl) (by kernel_rfl) ((Below.refl _ _).drew) ?_
      have hC0 : Below w1.heap.size w1 w1.drew := (Below.refl _ _).drew
      iterate 2 (refine wpC_step rfl rfl rfl rfl hC0 ?_; apply Exists.intro; refine ⟨fun w' hw' K hK => ?_, ?_⟩; (go_step; exact hK))
      refine wpC_slice rfl rfl 24 (.tmp 22) none (some (.tmp 23)) rfl el24 (v := .slice a r.length cap) rfl ⟨_, _, rfl, h2⟩ 0 n (Or.inl ⟨rfl, rfl⟩) (Or.inr rfl) (by omega) (by omega) fun v2 hv2 _ => ?_
      refine wpC_convert rfl rfl 24 9 (.tmp 24) rfl rfl (strOf (r.take n)) (fun w' hw' => run_str (rdB.take_of (by omega) (hv2 _ _ _ (rd.below hr' hw')))) ?_
      simp only [Act.put, List.setIfInBounds_toArray, List.set_cons_succ, List.set_cons_zero]
      iterate 2 (refine wpC_step rfl rfl rfl rfl hC0 ?_; apply Exists.intro; refine ⟨fun w' hw' K hK => ?_, ?_⟩; (go_step; exact hK))
      refine wpC_slice rfl rfl 24 (.tmp 26) (some (.tmp 27)) none rfl el24 (v := .slice a r.length cap) rfl ⟨_, _, rfl, h2⟩ n r.length (Or.inr rfl) (Or.inl ⟨rfl, rfl⟩) (by omega) (by omega) fun v3 hv3 hv3b => ?_
      simp only [Act.put, List.setIfInBounds_toArray, List.set_cons_succ, List.set_cons_zero]
      iterate 3 (refine wpC_step rfl rfl rfl rfl hC0 ?_; apply Exists.intro; refine ⟨fun w' hw' K hK => ?_, ?_⟩; (go_step; exact hK))
      refine wpC_nil ?_
      go_wp2
      go_ret3
      refine TextRPost.mk (r.take n) (r.drop n) (by rw [ht.out, if_neg (by simp; omega)]) rfl ⟨rdB.drop_of (hv3 _ _ _ (rd.below hr' hC0)), fun hl => ?_⟩ hB1.drew
      show ∃ k, v3.ownBlock = some k ∧ base ≤ k
      rw [hv3b (by simpa using hl)]
      exact hlow (by simp at hl; omega)
end Go.Proofs.Ytnpiipflpmhpbaa
