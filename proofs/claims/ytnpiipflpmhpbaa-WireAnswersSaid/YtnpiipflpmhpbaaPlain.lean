/-
  Numbers as bytes, in plain lists. No condition.
-/
namespace Go.Proofs.Ytnpiipflpmhpbaa

/-- a number's bytes -/
def enc (n : Nat) : List UInt8 := if n < 128 then [UInt8.ofNat n] else UInt8.ofNat (n % 128 + 128) :: enc (n / 128)
termination_by n
decreasing_by omega

theorem enc_lt {n : Nat} (h : n < 128) : enc n = [UInt8.ofNat n] := by rw [enc, if_pos h]
theorem enc_ge {n : Nat} (h : 128 ≤ n) : enc n = UInt8.ofNat (n % 128 + 128) :: enc (n / 128) := by rw [enc, if_neg (by omega)]

theorem enc_pos (n : Nat) : 0 < (enc n).length := by
  rw [enc]; split <;> simp

theorem enc_len : ∀ (k n : Nat), n < 128 ^ (k + 1) → (enc n).length ≤ k + 1
  | 0, n, h => by rw [enc_lt (by omega)]; simp
  | k + 1, n, h => by
    by_cases h1 : n < 128
    · rw [enc_lt h1]; simp
    · rw [enc_ge (by omega)]
      have := enc_len k (n / 128) (by rw [Nat.pow_succ] at h; omega)
      simp; omega

theorem enc_le (n : Nat) (h : n ≤ 9223372036854775807) : (enc n).length ≤ 9 := enc_len 8 n (by omega)
theorem enc_le6 (n : Nat) (h : n ≤ 1099511627776) : (enc n).length ≤ 6 := enc_len 5 n (by omega)

/-- the value of bytes, whatever their top bits -/
def val : List UInt8 → Nat
  | [] => 0
  | c :: r => c.toNat % 128 + 128 * val r

theorem val_snoc (l : List UInt8) (c : UInt8) : val (l ++ [c]) = val l + (c.toNat % 128) * 128 ^ l.length := by
  induction l with
  | nil => simp [val]
  | cons x l ih => simp only [List.cons_append, val, ih, List.length_cons, Nat.pow_succ]; rw [Nat.mul_add]; have : 128 * (c.toNat % 128 * 128 ^ l.length) = c.toNat % 128 * (128 ^ l.length * 128) := by rw [Nat.mul_comm 128, Nat.mul_assoc]
                   omega

theorem val_lt (l : List UInt8) : val l < 128 ^ l.length := by
  induction l with
  | nil => simp [val]
  | cons c l ih => simp only [val, List.length_cons, Nat.pow_succ]; omega

/-- 'b[:i+1]' is the bytes of its own value, just if the last one is not a nought behind others -/
theorem enc_val : ∀ (l : List UInt8) (c : UInt8), (∀ x ∈ l, 128 ≤ x.toNat) → c.toNat < 128 → (enc (val (l ++ [c])) = l ++ [c] ↔ ¬ (c = 0 ∧ l ≠ []))
  | [], c, _, hc => by
    have e : val ([] ++ [c]) = c.toNat := by simp [val]; omega
    rw [e, enc_lt hc]
    simp
  | x :: l, c, hl, hc => by
    have hx := hl x (List.mem_cons_self ..)
    have hxl : x.toNat < 256 := x.toNat_lt
    have ih := enc_val l c (fun y hy => hl y (List.mem_cons_of_mem _ hy)) hc
    simp only [List.cons_append, val]
    by_cases hv : val (l ++ [c]) = 0
    · rw [hv, enc_lt (by omega)]
      have h0 : c = 0 := by
        rw [val_snoc] at hv
        have h2 : c.toNat % 128 * 128 ^ l.length = 0 := by omega
        have h3 : 0 < 128 ^ l.length := Nat.pow_pos (by omega)
        have h4 : c.toNat % 128 = 0 := by
          rcases Nat.mul_eq_zero.1 h2 with h | h
          · exact h
          · omega
        exact UInt8.toNat_inj.1 (by simpa using (by omega : c.toNat = 0))
      simp [h0]
    · rw [enc_ge (by omega)]
      have e1 : (x.toNat % 128 + 128 * val (l ++ [c])) % 128 + 128 = x.toNat := by omega
      have e2 : (x.toNat % 128 + 128 * val (l ++ [c])) / 128 = val (l ++ [c]) := by omega
      rw [e1, e2]
      have e3 : UInt8.ofNat x.toNat = x := by simp
      rw [e3]
      constructor
      · intro h hcl
        have h' : enc (val (l ++ [c])) = l ++ [c] := by simpa using h
        have := ih.1 h'
        obtain ⟨rfl, _⟩ := hcl
        have hl0 : l = [] := by
          rcases l with _ | ⟨y, l⟩
          · rfl
          · exact absurd ⟨rfl, by simp⟩ this
        subst hl0
        simp [val] at hv
      · intro h
        have hc0 : ¬ c = 0 := fun hc => h ⟨hc, by simp⟩
        rw [ih.2 (fun h' => hc0 h'.1)]

theorem val_enc (n : Nat) : val (enc n) = n := by
  induction n using Nat.strongRecOn with
  | _ n ih =>
    by_cases h : n < 128
    · rw [enc_lt h]; simp [val]; omega
    · rw [enc_ge (by omega)]
      simp only [val]
      rw [ih (n / 128) (by omega)]
      have : (UInt8.ofNat (n % 128 + 128)).toNat = n % 128 + 128 := by simp; omega
      rw [this]
      omega

/-- bytes of a number: all but the last have their top bit -/
theorem enc_form (n : Nat) : ∃ l c, enc n = l ++ [c] ∧ (∀ x ∈ l, 128 ≤ x.toNat) ∧ c.toNat < 128 := by
  induction n using Nat.strongRecOn with
  | _ n ih =>
    by_cases h : n < 128
    · exact ⟨[], UInt8.ofNat n, by rw [enc_lt h]; rfl, by simp, by simp; omega⟩
    · obtain ⟨l, c, e, h1, h2⟩ := ih (n / 128) (by omega)
      refine ⟨UInt8.ofNat (n % 128 + 128) :: l, c, by rw [enc_ge (by omega), e]; rfl, ?_, h2⟩
      intro x hx
      rcases List.mem_cons.1 hx with rfl | hx
      · simp; omega
      · exact h1 x hx

/-- where the first byte below 128 stands, of the first six -/
def stop6 (bs : List UInt8) : Nat := (bs.take 6).findIdx fun c => c.toNat < 128

/-- the number at the beginning of bytes, and how many it has; 0: there is none -/
def dec (bs : List UInt8) : Nat × Nat :=
  if stop6 bs < 6 ∧ stop6 bs < bs.length ∧ val (bs.take (stop6 bs + 1)) ≤ 1099511627776 ∧ ¬ (bs.getD (stop6 bs) 0 = 0 ∧ 0 < stop6 bs) then (val (bs.take (stop6 bs + 1)), stop6 bs + 1) else (0, 0)

theorem stop6_found {bs : List UInt8} {k : Nat} (hk : k < bs.length) (h6 : k < 6) (hl : ∀ j, j < k → 128 ≤ (bs.getD j 0).toNat) (hc : (bs.getD k 0).toNat < 128) : stop6 bs = k := by
  unfold stop6
  rw [List.findIdx_eq (by rw [List.length_take]; omega)]
  refine ⟨?_, fun j hj => ?_⟩
  · simpa [List.getD_eq_getElem?_getD, hk] using hc
  · have := hl j hj
    have hj2 : j < bs.length := by omega
    simpa [List.getD_eq_getElem?_getD, hj2] using this

theorem stop6_none {bs : List UInt8} (hl : ∀ j, j < min bs.length 6 → 128 ≤ (bs.getD j 0).toNat) : ¬ (stop6 bs < 6 ∧ stop6 bs < bs.length) := by
  intro ⟨h1, h2⟩
  have h3 : stop6 bs < (bs.take 6).length := by rw [List.length_take]; omega
  have h4 := List.findIdx_getElem (xs := bs.take 6) (p := fun c : UInt8 => decide (c.toNat < 128)) (w := h3)
  have h5 := hl (stop6 bs) (by omega)
  have h4' : ((bs.take 6)[stop6 bs]'h3).toNat < 128 := of_decide_eq_true h4
  rw [List.getElem_take] at h4'
  have : bs.getD (stop6 bs) 0 = bs[stop6 bs] := by simp [List.getD_eq_getElem?_getD, h2]
  rw [this] at h5
  omega

theorem dec_none {bs : List UInt8} (hl : ∀ j, j < min bs.length 6 → 128 ≤ (bs.getD j 0).toNat) : dec bs = (0, 0) := by
  unfold dec
  rw [if_neg fun h => stop6_none hl ⟨h.1, h.2.1⟩]

theorem dec_found {bs : List UInt8} {k : Nat} (hk : k < bs.length) (h6 : k < 6) (hl : ∀ j, j < k → 128 ≤ (bs.getD j 0).toNat) (hc : (bs.getD k 0).toNat < 128) :
    dec bs = if val (bs.take (k + 1)) ≤ 1099511627776 ∧ ¬ (bs.getD k 0 = 0 ∧ 0 < k) then (val (bs.take (k + 1)), k + 1) else (0, 0) := by
  unfold dec
  rw [stop6_found hk h6 hl hc]
  by_cases h : val (bs.take (k + 1)) ≤ 1099511627776 ∧ ¬ (bs.getD k 0 = 0 ∧ 0 < k)
  · rw [if_pos ⟨h6, hk, h.1, h.2⟩, if_pos h]
  · rw [if_neg fun h' => h ⟨h'.2.2.1, h'.2.2.2⟩, if_neg h]

theorem take_succ {bs : List UInt8} {k : Nat} (hk : k < bs.length) : bs.take (k + 1) = bs.take k ++ [bs.getD k 0] := by
  rw [List.take_succ_eq_append_getElem hk]
  simp [List.getD_eq_getElem?_getD, hk]

theorem val_take {bs : List UInt8} {k : Nat} (hk : k < bs.length) : val (bs.take (k + 1)) = val (bs.take k) + ((bs.getD k 0).toNat % 128) * 128 ^ k := by
  rw [take_succ hk, val_snoc, List.length_take, Nat.min_eq_left (by omega)]

theorem dec_le (bs : List UInt8) : (dec bs).1 ≤ 1099511627776 ∧ (dec bs).2 ≤ 6 ∧ (dec bs).2 ≤ bs.length := by
  unfold dec
  split
  · rename_i h; refine ⟨h.2.2.1, ?_, ?_⟩ <;> simp only [] <;> omega
  · simp

/-- what is read is written so -/
theorem dec_enc {bs : List UInt8} (h : (dec bs).2 ≠ 0) : enc (dec bs).1 = bs.take (dec bs).2 := by
  unfold dec at h ⊢
  split
  · rename_i hh
    obtain ⟨h1, h2, h3, h4⟩ := hh
    have ht := take_succ h2
    have h5 := List.findIdx_getElem (xs := bs.take 6) (p := fun c : UInt8 => decide (c.toNat < 128)) (w := (by rw [List.length_take]; exact Nat.lt_min.2 ⟨h1, h2⟩))
    have hc : (bs.getD (stop6 bs) 0).toNat < 128 := by
      have h6 : bs.getD (stop6 bs) 0 = bs[stop6 bs] := by simp [List.getD_eq_getElem?_getD, h2]
      rw [h6]
      have h5' : ((bs.take 6)[stop6 bs]'(by rw [List.length_take]; exact Nat.lt_min.2 ⟨h1, h2⟩)).toNat < 128 := of_decide_eq_true h5
      rw [List.getElem_take] at h5'
      exact h5'
    have hl : ∀ x ∈ bs.take (stop6 bs), 128 ≤ x.toNat := by
      intro x hx
      obtain ⟨j, hj, rfl⟩ := List.getElem_of_mem hx
      rw [List.length_take] at hj
      have hj6 : j < stop6 bs := by omega
      have := List.not_of_lt_findIdx (xs := bs.take 6) (p := fun c : UInt8 => decide (c.toNat < 128)) (i := j) hj6
      simpa using this
    simp only []
    rw [ht]
    refine (enc_val _ _ hl hc).2 fun hz => h4 ⟨hz.1, ?_⟩
    rcases Nat.eq_zero_or_pos (stop6 bs) with h0 | h0
    · exfalso; apply hz.2; rw [h0]; rfl
    · exact h0
  · rename_i hh; rw [if_neg hh] at h; exact absurd rfl h

/-- what is written is read so -/
theorem enc_dec {n : Nat} (hn : n ≤ 1099511627776) (r : List UInt8) : dec (enc n ++ r) = (n, (enc n).length) := by
  obtain ⟨l, c, e, hl, hc⟩ := enc_form n
  have h6 := enc_le6 n hn
  have hlen : (enc n).length = l.length + 1 := by rw [e]; simp
  have hg : ∀ j, j < l.length → (enc n ++ r).getD j 0 = l.getD j 0 := by
    intro j hj
    rw [e]; simp [List.getD_eq_getElem?_getD, hj, List.getElem?_append_left]
  have hgc : (enc n ++ r).getD l.length 0 = c := by
    rw [e]; simp [List.getD_eq_getElem?_getD]
  have ht : (enc n ++ r).take (l.length + 1) = enc n := by
    rw [← hlen]; simp
  rw [dec_found (k := l.length) (by rw [List.length_append]; omega) (by omega) ?_ (by rw [hgc]; exact hc), ht, val_enc, hgc, if_pos, hlen]
  · refine ⟨hn, fun hz => ?_⟩
    have := (enc_val l c hl hc).1 (by rw [← e, val_enc])
    refine this ⟨hz.1, ?_⟩
    rintro rfl
    simp at hz
  · intro j hj
    rw [hg j hj]
    have hm : l.getD j 0 ∈ l := by simp [List.getD_eq_getElem?_getD, hj]
    exact hl _ hm
end Go.Proofs.Ytnpiipflpmhpbaa
