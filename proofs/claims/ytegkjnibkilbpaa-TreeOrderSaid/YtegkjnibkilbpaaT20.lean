import Derived.Test.YtegkjnibkilbpaaT19
namespace Go.Proofs.Ytegkjnibkilbpaa

/-- how often a block stands in a tree -/
def cq (q : Nat) : T → Nat
  | .nil => 0
  | .node p _ _ l r => (if p = q then 1 else 0) + cq q l + cq q r

/-- how many blocks are not of these -/
def nw (S : List Nat) : T → Nat
  | .nil => 0
  | .node p _ _ l r => (if p ∈ S then 0 else 1) + nw S l + nw S r

theorem cq_count (q : Nat) : ∀ t : T, (adrs t).count q = cq q t
  | .nil => rfl
  | .node p _ _ l r => by
    simp only [adrs, List.count_cons, List.count_append, cq_count q l, cq_count q r, cq, beq_iff_eq]
    omega

theorem adrs_nodup {t : T} (h : ∀ q, cq q t ≤ 1) : (adrs t).Nodup := by
  rw [List.nodup_iff_count]
  intro q
  rw [cq_count]; exact h q

theorem mem_adrs {t : T} {q : Nat} : q ∈ adrs t ↔ 0 < cq q t := by
  rw [← cq_count]; exact List.count_pos_iff.symm

theorem if01 (p : Prop) [Decidable p] : (if p then 0 else 1) ≤ 1 := by split <;> omega

theorem even_cq {H : Nat} {t : T} (h : ∀ q, H ≤ q → cq q t = 0) : H ≤ (evenT H t).2 ∧ ∀ q, (q < H → cq q (evenT H t).1 ≤ cq q t) ∧ ((evenT H t).2 ≤ q → cq q (evenT H t).1 = 0) ∧ (H ≤ q → cq q (evenT H t).1 ≤ 1) := by
  cases t with
  | nil => exact ⟨Nat.le_refl _, fun q => ⟨fun _ => Nat.le_refl _, fun _ => rfl, fun _ => Nat.zero_le _⟩⟩
  | node p x n l r =>
    rw [evenT_node]
    split
    · rename_i h1
      obtain ⟨q', y, m, a, b, rfl⟩ : ∃ p x n a b, l = .node p x n a b := dep_node (by omega)
      split
      · rename_i h2
        obtain ⟨q2, z, k, c, d, rfl⟩ : ∃ p x n c d, b = .node p x n c d := dep_node (by simp only [T.lf, T.rg] at h2; omega)
        simp only [turnL, turnR, cq] at h ⊢
        refine ⟨by omega, fun q => ?_⟩
        have hq := h q
        refine ⟨?_, ?_, ?_⟩
        all_goals intro h3; (try have h4 := hq (by omega)); clear hq h; repeat' split
        all_goals try omega
      · simp only [turnR, cq] at h ⊢
        refine ⟨by omega, fun q => ?_⟩
        have hq := h q
        refine ⟨?_, ?_, ?_⟩
        all_goals intro h3; (try have h4 := hq (by omega)); clear hq h; repeat' split
        all_goals try omega
    · split
      · rename_i h1
        obtain ⟨q', y, m, a, b, rfl⟩ : ∃ p x n a b, r = .node p x n a b := dep_node (by omega)
        split
        · rename_i h2
          obtain ⟨q2, z, k, c, d, rfl⟩ : ∃ p x n c d, a = .node p x n c d := dep_node (by simp only [T.lf, T.rg] at h2; omega)
          simp only [turnL, turnR, cq] at h ⊢
          refine ⟨by omega, fun q => ?_⟩
          have hq := h q
          refine ⟨?_, ?_, ?_⟩
          all_goals intro h3; (try have h4 := hq (by omega)); clear hq h; repeat' split
          all_goals try omega
        · simp only [turnL, cq] at h ⊢
          refine ⟨by omega, fun q => ?_⟩
          have hq := h q
          refine ⟨?_, ?_, ?_⟩
          all_goals intro h3; (try have h4 := hq (by omega)); clear hq h; repeat' split
          all_goals try omega
      · exact ⟨Nat.le_refl _, fun q => ⟨fun _ => Nat.le_refl _, fun hq => h q hq, fun hq => by rw [h q hq]; exact Nat.zero_le _⟩⟩

theorem even_nw (S : List Nat) (H p : Nat) (x : List UInt8) (n : Int) (l r : T) : nw S (evenT H (.node p x n l r)).1 ≤ 3 + nw S l + nw S r := by
  rw [evenT_node]
  split
  · rename_i h1
    obtain ⟨q', y, m, a, b, rfl⟩ : ∃ p x n a b, l = .node p x n a b := dep_node (by omega)
    split
    · rename_i h2
      obtain ⟨q2, z, k, c, d, rfl⟩ : ∃ p x n c d, b = .node p x n c d := dep_node (by simp only [T.lf, T.rg] at h2; omega)
      simp only [turnL, turnR, nw]
      repeat' split
      all_goals omega
    · simp only [turnR, nw]
      repeat' split
      all_goals omega
  · split
    · rename_i h1
      obtain ⟨q', y, m, a, b, rfl⟩ : ∃ p x n a b, r = .node p x n a b := dep_node (by omega)
      split
      · rename_i h2
        obtain ⟨q2, z, k, c, d, rfl⟩ : ∃ p x n c d, a = .node p x n c d := dep_node (by simp only [T.lf, T.rg] at h2; omega)
        simp only [turnL, turnR, nw]
        repeat' split
        all_goals omega
      · simp only [turnL, nw]
        repeat' split
        all_goals omega
    · simp only [nw]
      repeat' split
      all_goals omega

/-- what a new tree's blocks are: the elder one's, or new ones, each once -/
def Fresh (H : Nat) (t : T) (r : T × Nat) : Prop := H ≤ r.2 ∧ ∀ q, (q < H → cq q r.1 ≤ cq q t) ∧ (r.2 ≤ q → cq q r.1 = 0) ∧ (H ≤ q → cq q r.1 ≤ 1)

theorem put_cq (x : List UInt8) (n : Int) (H : Nat) : ∀ t : T, (∀ q, H ≤ q → cq q t = 0) → Fresh H t (putT H x n t)
  | .nil, _ => by
    refine ⟨by simp [putT], fun q => ?_⟩
    simp only [putT, cq]
    refine ⟨fun h => ?_, fun h => ?_, fun h => ?_⟩ <;> split <;> omega
  | .node p y m l r, h => by
    have hl := put_cq x n H l (fun q hq => by have := h q hq; simp only [cq] at this; omega)
    have hr := put_cq x n H r (fun q hq => by have := h q hq; simp only [cq] at this; omega)
    unfold putT
    split
    · obtain ⟨h1, h2⟩ := hl
      have he := even_cq (H := (putT H x n l).2 + 1) (t := .node (putT H x n l).2 y m (putT H x n l).1 r) fun q hq => by
        have h3 := (h2 q).2.1 (by omega)
        have h4 := h q (by omega)
        simp only [cq] at h4 ⊢
        split <;> omega
      refine ⟨by have := he.1; omega, fun q => ?_⟩
      have hq := he.2 q
      have hq2 := h2 q
      have hq3 := h q
      simp only [cq] at hq hq3 ⊢
      refine ⟨fun hlt => ?_, fun hge => hq.2.1 hge, fun hge => ?_⟩
      · have a1 := hq.1 (by omega)
        have a2 := hq2.1 hlt
        split at a1
        · omega
        · omega
      · by_cases hc : q < (putT H x n l).2 + 1
        · have a1 := hq.1 hc
          have a2 := hq2.2.2 hge
          have a3 := hq3 hge
          split at a1
          · rename_i e
            have a4 := hq2.2.1 (by omega)
            omega
          · omega
        · exact hq.2.2 (by omega)
    · split
      · refine ⟨by omega, fun q => ?_⟩
        have hq3 := h q
        simp only [cq] at hq3 ⊢
        refine ⟨fun hlt => ?_, fun hge => ?_, fun hge => ?_⟩
        · split
          · omega
          · omega
        · have := hq3 (by omega)
          split
          · omega
          · omega
        · have := hq3 (by omega)
          split <;> omega
      · obtain ⟨h1, h2⟩ := hr
        have he := even_cq (H := (putT H x n r).2 + 1) (t := .node (putT H x n r).2 y m l (putT H x n r).1) fun q hq => by
          have h3 := (h2 q).2.1 (by omega)
          have h4 := h q (by omega)
          simp only [cq] at h4 ⊢
          split <;> omega
        refine ⟨by have := he.1; omega, fun q => ?_⟩
        have hq := he.2 q
        have hq2 := h2 q
        have hq3 := h q
        simp only [cq] at hq hq3 ⊢
        refine ⟨fun hlt => ?_, fun hge => hq.2.1 hge, fun hge => ?_⟩
        · have a1 := hq.1 (by omega)
          have a2 := hq2.1 hlt
          split at a1
          · omega
          · omega
        · by_cases hc : q < (putT H x n r).2 + 1
          · have a1 := hq.1 hc
            have a2 := hq2.2.2 hge
            have a3 := hq3 hge
            split at a1
            · rename_i e
              have a4 := hq2.2.1 (by omega)
              omega
            · omega
          · exact hq.2.2 (by omega)
end Go.Proofs.Ytegkjnibkilbpaa
