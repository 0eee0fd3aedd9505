import Derived.Test.YtegkjnibkilbpaaT20
namespace Go.Proofs.Ytegkjnibkilbpaa

theorem lvl_r {H p : Nat} {y z : List UInt8} {m k : Int} {l r : T} {rr : T × Nat} (hf : Fresh H r rr) (h : ∀ q, H ≤ q → cq q (.node p y m l r) = 0) :
    Fresh H (.node p y m l r) (evenT (rr.2 + 1) (.node rr.2 z k l rr.1)) := by
  obtain ⟨h1, h2⟩ := hf
  have he := even_cq (H := rr.2 + 1) (t := .node rr.2 z k l rr.1) fun q hq => by
    have h3 := (h2 q).2.1 (by omega)
    have h4 := h q (by omega)
    simp only [cq] at h4 ⊢
    split <;> omega
  refine ⟨by have := he.1; omega, fun q => ?_⟩
  have hq := he.2 q
  have hq2 := h2 q
  have hq3 := h q
  simp only [cq] at hq hq3 ⊢
  refine ⟨fun hlt => ?_, fun hge => hq.2.1 hge, fun hge => ?_⟩
  · have a1 := hq.1 (by omega)
    have a2 := hq2.1 hlt
    split at a1
    · omega
    · omega
  · by_cases hc : q < rr.2 + 1
    · have a1 := hq.1 hc
      have a2 := hq2.2.2 hge
      have a3 := hq3 hge
      split at a1
      · rename_i e
        have a4 := hq2.2.1 (by omega)
        omega
      · omega
    · exact hq.2.2 (by omega)

theorem lvl_l {H p : Nat} {y z : List UInt8} {m k : Int} {l r : T} {rr : T × Nat} (hf : Fresh H l rr) (h : ∀ q, H ≤ q → cq q (.node p y m l r) = 0) :
    Fresh H (.node p y m l r) (evenT (rr.2 + 1) (.node rr.2 z k rr.1 r)) := by
  obtain ⟨h1, h2⟩ := hf
  have he := even_cq (H := rr.2 + 1) (t := .node rr.2 z k rr.1 r) fun q hq => by
    have h3 := (h2 q).2.1 (by omega)
    have h4 := h q (by omega)
    simp only [cq] at h4 ⊢
    split <;> omega
  refine ⟨by have := he.1; omega, fun q => ?_⟩
  have hq := he.2 q
  have hq2 := h2 q
  have hq3 := h q
  simp only [cq] at hq hq3 ⊢
  refine ⟨fun hlt => ?_, fun hge => hq.2.1 hge, fun hge => ?_⟩
  · have a1 := hq.1 (by omega)
    have a2 := hq2.1 hlt
    split at a1
    · omega
    · omega
  · by_cases hc : q < rr.2 + 1
    · have a1 := hq.1 hc
      have a2 := hq2.2.2 hge
      have a3 := hq3 hge
      split at a1
      · rename_i e
        have a4 := hq2.2.1 (by omega)
        omega
      · omega
    · exact hq.2.2 (by omega)

theorem isNil_false {t : T} (h : ¬ t.isNil = true) : t ≠ .nil := by rintro rfl; exact h rfl

theorem drop_cq (H : Nat) : ∀ (t : T) (x : List UInt8), (∀ q, H ≤ q → cq q t = 0) → Fresh H t (dropT H x t)
  | .nil, x, _ => ⟨Nat.le_refl _, fun q => ⟨fun _ => Nat.le_refl _, fun _ => rfl, fun _ => Nat.zero_le _⟩⟩
  | .node p y m l r, x, h => by
    have hl := drop_cq H l x (fun q hq => by have := h q hq; simp only [cq] at this; omega)
    have hr := drop_cq H r x (fun q hq => by have := h q hq; simp only [cq] at this; omega)
    have hz := drop_cq H r (firstT r).top (fun q hq => by have := h q hq; simp only [cq] at this; omega)
    unfold dropT
    split
    · exact lvl_l hl h
    · split
      · split
        · refine ⟨Nat.le_refl _, fun q => ?_⟩
          have := h q
          simp only [cq] at this ⊢
          exact ⟨fun _ => by omega, fun hq => by have := this hq; omega, fun hq => by have := this hq; omega⟩
        · split
          · refine ⟨Nat.le_refl _, fun q => ?_⟩
            have := h q
            simp only [cq] at this ⊢
            exact ⟨fun _ => by omega, fun hq => by have := this hq; omega, fun hq => by have := this hq; omega⟩
          · rename_i _ hn
            obtain ⟨q', z', k', b', hf, _⟩ := firstT_kv r (isNil_false hn)
            have : ∀ H' l r, withT H' (firstT r) l r = withT H' (firstT r) l r := fun _ _ _ => rfl
            rw [show withT (dropT H (firstT r).top r).2 (firstT r) l (dropT H (firstT r).top r).1 = .node (dropT H (firstT r).top r).2 z' k' l (dropT H (firstT r).top r).1 by generalize dropT H (firstT r).top r = d; rw [hf]; rfl]
            exact lvl_r hz h
      · exact lvl_r hr h

theorem put_nw (S : List Nat) (x : List UInt8) (n : Int) (H : Nat) : ∀ t : T, nw S t = 0 → nw S (putT H x n t).1 ≤ 3 * t.dep + 1
  | .nil, _ => by simp only [putT, nw]; split <;> omega
  | .node p y m l r, h => by
    simp only [nw] at h
    have hl := put_nw S x n H l (by omega)
    have hr := put_nw S x n H r (by omega)
    unfold putT
    simp only [T.dep]
    split
    · have := even_nw S ((putT H x n l).2 + 1) (putT H x n l).2 y m (putT H x n l).1 r
      omega
    · split
      · simp only [nw]; split <;> omega
      · have := even_nw S ((putT H x n r).2 + 1) (putT H x n r).2 y m l (putT H x n r).1
        omega

theorem drop_nw (S : List Nat) (H : Nat) : ∀ (t : T) (x : List UInt8), nw S t = 0 → nw S (dropT H x t).1 ≤ 3 * t.dep
  | .nil, _, _ => by simp [dropT, nw]
  | .node p y m l r, x, h => by
    simp only [nw] at h
    have hl := drop_nw S H l x (by omega)
    have hr := drop_nw S H r x (by omega)
    have hz := drop_nw S H r (firstT r).top (by omega)
    unfold dropT
    simp only [T.dep]
    split
    · have := even_nw S ((dropT H x l).2 + 1) (dropT H x l).2 y m (dropT H x l).1 r
      omega
    · split
      · split
        · show nw S r ≤ _; omega
        · split
          · show nw S l ≤ _; omega
          · rename_i _ hn
            obtain ⟨q', z', k', b', hf, _⟩ := firstT_kv r (isNil_false hn)
            rw [show withT (dropT H (firstT r).top r).2 (firstT r) l (dropT H (firstT r).top r).1 = .node (dropT H (firstT r).top r).2 z' k' l (dropT H (firstT r).top r).1 by generalize dropT H (firstT r).top r = d; rw [hf]; rfl]
            have := even_nw S ((dropT H (firstT r).top r).2 + 1) (dropT H (firstT r).top r).2 z' k' l (dropT H (firstT r).top r).1
            omega
      · have := even_nw S ((dropT H x r).2 + 1) (dropT H x r).2 y m l (dropT H x r).1
        omega

theorem nw_count (S : List Nat) : ∀ t : T, (adrs t).countP (fun p => decide (p ∈ S)) + nw S t = t.cnt
  | .nil => rfl
  | .node p _ _ l r => by
    have hl := nw_count S l
    have hr := nw_count S r
    simp only [adrs, List.countP_cons, List.countP_append, nw, T.cnt, decide_eq_true_eq]
    split <;> omega

theorem nw_self {S : List Nat} : ∀ {t : T}, (∀ p ∈ adrs t, p ∈ S) → nw S t = 0
  | .nil, _ => rfl
  | .node p _ _ l r, h => by
    have h0 := h p (by simp [adrs])
    have hl := nw_self (t := l) fun q hq => h q (by simp [adrs, hq])
    have hr := nw_self (t := r) fun q hq => h q (by simp [adrs, hq])
    simp [nw, h0, hl, hr]

theorem share_new (t o : T) : shareN t o + nw (adrs o) t = t.cnt := nw_count _ _

theorem share_self (t : T) : shareN t t = t.cnt := by
  have := share_new t t
  rw [nw_self fun p hp => hp] at this
  omega

theorem share_le (t o : T) : shareN t o ≤ t.cnt := by have := share_new t o; omega

theorem nodup_le : ∀ (l m : List Nat), l.Nodup → (∀ a ∈ l, a ∈ m) → l.length ≤ m.length
  | [], _, _, _ => Nat.zero_le _
  | a :: l, m, hn, h => by
    have hn' := List.nodup_cons.1 hn
    have ha := h a (by simp)
    have h1 := nodup_le l (m.erase a) hn'.2 fun b hb => by
      have hne : b ≠ a := by rintro rfl; exact hn'.1 hb
      rw [List.mem_erase_of_ne hne]
      exact h b (by simp [hb])
    have h2 := List.length_erase_of_mem ha
    have h3 := List.length_pos_of_mem ha
    simp only [List.length_cons]
    omega

theorem share_comm {t o : T} (ht : (adrs t).Nodup) : shareN t o ≤ o.cnt := by
  have h1 : ((adrs t).filter fun p => decide (p ∈ adrs o)).length ≤ (adrs o).length := by
    refine nodup_le _ _ (ht.sublist List.filter_sublist) fun p hp => ?_
    simpa using (List.mem_filter.1 hp).2
  unfold shareN
  rw [List.countP_eq_length_filter, ← adrs_len]
  exact h1
end Go.Proofs.Ytegkjnibkilbpaa
