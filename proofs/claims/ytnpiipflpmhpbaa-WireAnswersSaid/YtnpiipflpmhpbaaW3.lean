import Derived.Test.YtnpiipflpmhpbaaW2
namespace Go.Proofs.Ytnpiipflpmhpbaa
open Go.RowKit

theorem rdB.of {B : Nat} {w : World} {v : Value} {n : Nat} {xs : List Value} {l : List UInt8} (h : rd B w 1 v n xs) (h1 : n = l.length) (h2 : xs = bvs l) : rdB B w v l := by
  subst h1 h2; exact h
theorem rdB.drop_of {B : Nat} {w : World} {v : Value} {l : List UInt8} {k : Nat} (h : rd B w 1 v (l.length - k) (((bvs l).drop (k * 1)).take ((l.length - k) * 1))) : rdB B w v (l.drop k) := by
  refine rdB.of h (by simp) ?_
  rw [Nat.mul_one, Nat.mul_one, List.take_of_length_le (by simp [bvs])]
  simp [bvs, List.map_drop]
theorem rdB.take_of {B : Nat} {w : World} {v : Value} {l : List UInt8} {k : Nat} (hk : k ≤ l.length) (h : rd B w 1 v (k - 0) (((bvs l).drop (0 * 1)).take ((k - 0) * 1))) : rdB B w v (l.take k) := by
  refine rdB.of h (by simp; omega) ?_
  simp [bvs, List.map_take]
theorem rdB.cut_of {B : Nat} {w : World} {v : Value} {l : List UInt8} {i k : Nat} (hk : i + k ≤ l.length) (h : rd B w 1 v (i + k - i) (((bvs l).drop (i * 1)).take ((i + k - i) * 1))) : rdB B w v ((l.drop i).take k) := by
  refine rdB.of h (by simp; omega) ?_
  simp [bvs, List.map_take, List.map_drop]

@[go_sem] def strOf (l : List UInt8) : Value := .string ⟨l.toArray⟩

theorem nums_of (l : List UInt8) : strOfNums (l.map fun c => (c.toNat : Int)) = ⟨l.toArray⟩ := by
  unfold strOfNums
  congr 2
  rw [List.map_map]
  conv => rhs; rw [← List.map_id l]
  apply List.map_congr_left
  intro c _
  simp

theorem run_str {B : Nat} {w : World} {v : Value} {l : List UInt8} (h : rdB B w v l) : (convert 24 9 v).run Try.prog w = .ok (strOf l) w := by
  obtain ⟨a, cap, rfl, h2, h3, h4, h5⟩ := h.cells
  by_cases hn : 0 < l.length
  · obtain ⟨b, off, rfl, _, hc⟩ := h5 hn
    rw [run_convert_bytes_arg w 24 5 Try.underlying24 Try.underlying5 b off l.length cap (l.map fun c => (c.toNat : Int)) (by simp) ?_ 9 Try.underlying9, nums_of]
    · rfl
    · intro i hi
      rw [hc i hi]
      simp [Bv, List.getD_eq_getElem?_getD, hi]
  · have : l = [] := List.eq_nil_of_length_eq_zero (by omega)
    subst this
    cases a with
    | none =>
      rw [run_convert_bytes_nil w 24 5 Try.underlying24 Try.underlying5 _ _ 9 Try.underlying9]
      rfl
    | some ad =>
      rw [run_convert_bytes_string w 24 9 5 _ _ _ Try.underlying24 Try.underlying5 Try.underlying9]
      have := run_bytesToString (P := Try.prog) w ad 0 cap [] (by simp [loadCells, loadCellsFrom])
      exact this

/-- the text at the beginning of bytes -/
def textD (l : List UInt8) : List UInt8 × Nat := if (dec l).2 = 0 ∨ l.length - (dec l).2 < (dec l).1 then ([], 0) else ((l.drop (dec l).2).take (dec l).1, (dec l).2 + (dec l).1)

def TextPost (l : List UInt8) (w : World) (e : Ending) (w' : World) : Prop :=
  e = .returned (.tuple #[strOf (textD l).1, .int .i64 ((textD l).2 : Int)]) ∧ w = w'

theorem TextPost.mk {l : List UInt8} {w : World} {a b : Value} (n : List UInt8 × Nat) (h : textD l = n) (ha : a = strOf n.1) (hb : b = .int .i64 (n.2 : Int)) : TextPost l w (.returned (.tuple #[a, b])) w := by
  subst h ha hb; exact ⟨rfl, rfl⟩

set_option maxRecDepth 100000 in
set_option maxHeartbeats 1000000 in
theorem text_any (w0 : World) (B : Nat) (v : Value) (l : List UInt8) (hv : rdB B w0 v l) :
    Calls Try.prog 32 #[v] w0 (TextPost l w0) := by
  have hd := dec_le l
  obtain ⟨a, cap, rfl, h2, h3, h4, h5⟩ := hv.cells
  generalize hn : (dec l).1 = n at hd
  generalize hk : (dec l).2 = k at hd
  have HN := Lib.hid hn
  have HK := Lib.hid hk
  have HT : Hid (textD l = if k = 0 ∨ l.length - k < n then ([], 0) else ((l.drop k).take n, k + n)) := by
    show textD l = _
    subst hn hk; rfl
  clear hn hk h5 h4
  by_cases h0 : k = 0
  · subst h0
    go_enter Try.func32, Try.ntmps32
    go_wp2_with fail
    refine (num_any _ B _ l hv).mono ?_
    rintro e w' ⟨rfl, rfl⟩
    rw [HN.out, HK.out]
    go_wp2
    go_ret2
    exact TextPost.mk ([], 0) (by rw [HT.out, if_pos (Or.inl trivial)]) rfl rfl
  · have hk0 : ((k : Int) == 0) = false := by rw [beq_eq_false_iff_ne]; omega
    by_cases h1 : l.length - k < n
    · go_enter Try.func32, Try.ntmps32
      go_wp2_with fail
      refine (num_any _ B _ l hv).mono ?_
      rintro e w' ⟨rfl, rfl⟩
      rw [HN.out, HK.out]
      go_wp2
      go_ret2
      exact TextPost.mk ([], 0) (by rw [HT.out, if_pos (Or.inr h1)]) rfl rfl
    · go_enter Try.func32, Try.ntmps32
      go_wp2_with fail
      refine (num_any _ B _ l hv).mono ?_
      rintro e w' ⟨rfl, rfl⟩
      rw [HN.out, HK.out]
      go_wp2_with (refine stp 26 ?_)
      intro _
      refine wpList_slice rfl 24 (.tmp 21) (some (.tmp 22)) (some (.tmp 25)) rfl el24 rfl hv k (k + n) (Or.inr rfl) (Or.inr rfl) (by omega) (by omega) fun v' hv' => ?_
      have hs := run_str (w := w0) (rdB.cut_of (by omega) hv')
      go_wp2
      go_ret2
      exact TextPost.mk _ (by rw [HT.out, if_neg (by omega)]) rfl (by go_num)

theorem rdB.nil (B : Nat) (w : World) : rdB B w (.slice none 0 0) [] := rd.nil B w 1
theorem rdB.own {base : Nat} {w : World} {v : Value} {l : List UInt8} (h : w.ownsRow base 5 1 v l.length (bvs l)) : rdB w.heap.size w v l := rd.of_own h
/-- readable, and, where there is anything, in a block from lo on -/
def rdN (lo : Nat) (w : World) (v : Value) (l : List UInt8) : Prop := rdB w.heap.size w v l ∧ (0 < l.length → ∃ k, v.ownBlock = some k ∧ lo ≤ k)
theorem rdN.nil (lo : Nat) (w : World) : rdN lo w (.slice none 0 0) [] := ⟨rdB.nil _ _, fun h => absurd h (by simp)⟩
theorem rdN.own {base : Nat} {w : World} {v : Value} {l : List UInt8} (h : w.ownsRow base 5 1 v l.length (bvs l)) : rdN base w v l := by
  refine ⟨rdB.own h, fun hl => ?_⟩
  rcases h.2 with ⟨_, h0⟩ | ⟨g, cap, cur, rfl, hb, _⟩
  · omega
  · exact ⟨g, rfl, hb⟩
/-- what hands back a word, new bytes and a bool -/
def RdPost (base : Nat) (x : Value) (r : List UInt8) (b : Bool) (w : World) (e : Ending) (w' : World) : Prop :=
  ∃ v', e = .returned (.tuple #[x, v', .bool b]) ∧ rdN base w' v' r ∧ Below base w w'

/-- Num's answer -/
def numR (l : List UInt8) : Nat × List UInt8 × Bool := if (dec l).2 = 0 then (0, [], false) else ((dec l).1, l.drop (dec l).2, true)
def NumRPost (l : List UInt8) (base : Nat) : World → Ending → World → Prop := RdPost base (.int .i64 ((numR l).1 : Int)) (numR l).2.1 (numR l).2.2

theorem NumRPost.mk {l : List UInt8} {base : Nat} {w w' : World} {x v' : Value} {b : Bool} (n : Nat) (r : List UInt8) (h : numR l = (n, r, b)) (hx : x = .int .i64 (n : Int)) (h1 : rdN base w' v' r) (h2 : Below base w w') :
    NumRPost l base w (.returned (.tuple #[x, v', .bool b])) w' := by
  unfold NumRPost; rw [h]; subst hx; exact ⟨v', rfl, h1, h2⟩

set_option maxRecDepth 100000 in
set_option maxHeartbeats 1000000 in
theorem Num_any (w0 : World) (B base : Nat) (v : Value) (l : List UInt8) (hv : rdB B w0 v l) (hb : base ≤ w0.heap.size) (hl : l.length ≤ 1099511627776) :
    Calls Try.prog 13 #[v] w0 (NumRPost l base w0) := by
  have hd := dec_le l
  obtain ⟨a, cap, rfl, h2, h3, h4, h5⟩ := hv.cells
  generalize hn : (dec l).1 = n at hd
  generalize hk : (dec l).2 = k at hd
  have HN := Lib.hid hn
  have HK := Lib.hid hk
  have HT : Hid (numR l = if k = 0 then (0, [], false) else (n, l.drop k, true)) := by
    show numR l = _
    subst hn hk; rfl
  clear hn hk h5 h4
  by_cases h0 : k = 0
  · subst h0
    go_enter Try.func13, Try.ntmps13
    go_wp2_with fail
    refine (num_any _ B _ l hv).mono ?_
    rintro e w' ⟨rfl, rfl⟩
    rw [HN.out, HK.out]
    go_wp2
    go_ret3
    exact NumRPost.mk 0 [] (by rw [HT.out, if_pos trivial]) rfl (rdN.nil _ _) (Below.refl _ _)
  · have hk0 : ((k : Int) == 0) = false := by rw [beq_eq_false_iff_ne]; omega
    go_enter Try.func13, Try.ntmps13
    go_wp2_with fail
    refine (num_any _ B _ l hv).mono ?_
    rintro e w' ⟨rfl, rfl⟩
    rw [HN.out, HK.out]
    go_wp2_with (refine stp 17 ?_)
    intro _
    refine wpList_slice rfl 24 (.tmp 15) (some (.tmp 16)) none rfl el24 rfl hv k l.length (Or.inr rfl) (Or.inl ⟨rfl, rfl⟩) (by omega) (by omega) fun v' hv' => ?_
    have hv2 := rdB.drop_of hv'
    go_wp2_with fail
    refine (clone_any _ B base _ _ hv2 hb (by simp; omega)).mono ?_
    rintro e w1 ⟨v2, rfl, ho, hB⟩
    go_wp2
    go_ret3
    exact NumRPost.mk n _ (by rw [HT.out, if_neg h0]) rfl (rdN.own ho) hB

/-- Text's answer -/
def textR (l : List UInt8) : List UInt8 × List UInt8 × Bool := if (textD l).2 = 0 then ([], [], false) else ((textD l).1, l.drop (textD l).2, true)
def TextRPost (l : List UInt8) (base : Nat) : World → Ending → World → Prop := RdPost base (strOf (textR l).1) (textR l).2.1 (textR l).2.2
theorem TextRPost.mk {l : List UInt8} {base : Nat} {w w' : World} {x v' : Value} {b : Bool} (n : List UInt8) (r : List UInt8) (h : textR l = (n, r, b)) (hx : x = strOf n) (h1 : rdN base w' v' r) (h2 : Below base w w') :
    TextRPost l base w (.returned (.tuple #[x, v', .bool b])) w' := by
  unfold TextRPost; rw [h]; subst hx; exact ⟨v', rfl, h1, h2⟩

theorem textD_le (l : List UInt8) : (textD l).2 ≤ l.length ∧ (textD l).1.length ≤ l.length := by
  have := dec_le l
  unfold textD
  split
  · simp
  · simp only [List.length_take, List.length_drop]; omega

set_option maxRecDepth 100000 in
set_option maxHeartbeats 1000000 in
theorem Text_any (w0 : World) (B base : Nat) (v : Value) (l : List UInt8) (hv : rdB B w0 v l) (hb : base ≤ w0.heap.size) (hl : l.length ≤ 1099511627776) :
    Calls Try.prog 15 #[v] w0 (TextRPost l base w0) := by
  have hd := textD_le l
  obtain ⟨a, cap, rfl, h2, h3, h4, h5⟩ := hv.cells
  generalize hn : (textD l).1 = n at hd
  generalize hk : (textD l).2 = k at hd
  have HN := Lib.hid hn
  have HK := Lib.hid hk
  have HT : Hid (textR l = if k = 0 then ([], [], false) else (n, l.drop k, true)) := by
    show textR l = _
    subst hn hk; rfl
  clear hn hk h5 h4
  by_cases h0 : k = 0
  · subst h0
    go_enter Try.func15, Try.ntmps15
    go_wp2_with fail
    refine (text_any _ B _ l hv).mono ?_
    rintro e w' ⟨rfl, rfl⟩
    rw [HN.out, HK.out]
    go_wp2
    go_ret3
    exact TextRPost.mk [] [] (by rw [HT.out, if_pos trivial]) rfl (rdN.nil _ _) (Below.refl _ _)
  · have hk0 : ((k : Int) == 0) = false := by rw [beq_eq_false_iff_ne]; omega
    go_enter Try.func15, Try.ntmps15
    go_wp2_with fail
    refine (text_any _ B _ l hv).mono ?_
    rintro e w' ⟨rfl, rfl⟩
    rw [HN.out, HK.out]
    go_wp2_with (refine stp 17 ?_)
    intro _
    refine wpList_slice rfl 24 (.tmp 15) (some (.tmp 16)) none rfl el24 rfl hv k l.length (Or.inr rfl) (Or.inl ⟨rfl, rfl⟩) (by omega) (by omega) fun v' hv' => ?_
    have hv2 := rdB.drop_of hv'
    go_wp2_with fail
    refine (clone_any _ B base _ _ hv2 hb (by simp; omega)).mono ?_
    rintro e w1 ⟨v2, rfl, ho, hB⟩
    go_wp2
    go_ret3
    exact TextRPost.mk n _ (by rw [HT.out, if_neg h0]) rfl (rdN.own ho) hB

/-- Size's answer -/
def sizeN (n : Int) : Nat := if okN n then (enc n.toNat).length else 0
def SizePost (base : Nat) (n : Int) (w : World) (e : Ending) (w' : World) : Prop := e = .returned (.int .i64 (sizeN n : Int)) ∧ Below base w w'

set_option maxRecDepth 100000 in
theorem Size_any (w0 : World) (base : Nat) (n : Int) (hb : base ≤ w0.heap.size) : Calls Try.prog 19 #[.int .i64 n] w0 (SizePost base n w0) := by
  have HS : Hid (sizeN n = if okN n then (enc n.toNat).length else 0) := rfl
  cases hok : okN n with
  | false =>
    rw [hok] at HS
    have HO := Lib.hid hok
    clear hok
    go_enter Try.func19, Try.ntmps19
    go_wp2_with fail
    refine (right_any _ _).mono ?_
    rintro e w' ⟨rfl, rfl⟩
    rw [HO.out]
    go_wp2
    go_ret
    exact ⟨by rw [HS.out]; rfl, Below.refl _ _⟩
  | true =>
    rw [hok] at HS
    have HO := Lib.hid hok
    have hn : 0 ≤ n ∧ n ≤ 1099511627776 := by simpa [okN] using hok
    clear hok
    obtain ⟨m, rfl⟩ := Int.eq_ofNat_of_zero_le hn.1
    go_enter Try.func19, Try.ntmps19
    go_wp2_with fail
    refine (right_any _ _).mono ?_
    rintro e w' ⟨rfl, rfl⟩
    rw [HO.out]
    go_wp2_with fail
    refine (put_any w0 base _ [] m (World.ownsRow_nil _ _ _ _) hb (by simp) (by omega)).mono ?_
    rintro e w1 ⟨v1, rfl, hA⟩
    have hB : Below base w0 w1 := hA.below (World.ownsRow_nil _ _ _ _) (Nat.le_refl _) hb
    obtain ⟨a1, cap1, rfl, h2, h3, h4, h5⟩ := (rdB.own hA.own).cells
    go_wp2
    go_ret
    exact ⟨by rw [HS.out]; simp, hB⟩
end Go.Proofs.Ytnpiipflpmhpbaa
