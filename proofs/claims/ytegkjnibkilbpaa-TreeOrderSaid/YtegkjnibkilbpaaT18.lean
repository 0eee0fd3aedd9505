import Derived.Test.YtegkjnibkilbpaaT17
namespace Go.Proofs.Ytegkjnibkilbpaa

abbrev KV := List UInt8 × Int

/-- names with their numbers, in order -/
def T.kv : T → List KV
  | .nil => []
  | .node _ x n l r => l.kv ++ (x, n) :: r.kv

theorem kv_names : ∀ t : T, t.kv.map (·.1) = t.names
  | .nil => rfl
  | .node _ _ _ l r => by simp [T.kv, T.names, kv_names l, kv_names r]
theorem kv_len : ∀ t : T, t.kv.length = t.cnt
  | .nil => rfl
  | .node _ _ _ l r => by have := kv_len l; have := kv_len r; simp [T.kv, T.cnt]; omega

def SL (l : List KV) : Prop := l.Pairwise fun a b => a.1 < b.1

theorem srt_iff : ∀ t : T, srt t ↔ SL t.kv
  | .nil => by simp [srt, SL, T.kv]
  | .node p x n l r => by
    have hl := srt_iff l
    have hr := srt_iff r
    unfold SL at *
    simp only [srt, T.kv, hl, hr, List.pairwise_append, List.pairwise_cons, ← kv_names, List.mem_map, forall_exists_index, and_imp, List.mem_cons, less_dec, decide_eq_true_eq]
    constructor
    · rintro ⟨h1, h2, h3, h4⟩
      refine ⟨h1, ⟨fun a ha => h4 _ a ha rfl, h2⟩, fun a ha b hb => ?_⟩
      rcases hb with rfl | hb
      · exact h3 _ a ha rfl
      · exact List.lt_trans (h3 _ a ha rfl) (h4 _ b hb rfl)
    · rintro ⟨h1, ⟨h2, h3⟩, h4⟩
      exact ⟨h1, h3, fun a b hb e => e ▸ h4 b hb (x, n) (Or.inl rfl), fun a b hb e => e ▸ h2 b hb⟩

theorem turnR_kv (H : Nat) (t : T) : (turnR H t).kv = t.kv := by
  unfold turnR; split
  · simp [T.kv]
  · rfl
theorem turnL_kv (H : Nat) (t : T) : (turnL H t).kv = t.kv := by
  unfold turnL; split
  · simp [T.kv]
  · rfl
theorem evenT_kv (H : Nat) (t : T) : (evenT H t).1.kv = t.kv := by
  cases t with
  | nil => rfl
  | node p x n l r =>
    rw [evenT_node]
    split
    · split
      · simp only [turnR_kv, T.kv, turnL_kv]
      · simp only [turnR_kv, T.kv]
    · split
      · split
        · simp only [turnR_kv, T.kv, turnL_kv]
        · simp only [turnL_kv, T.kv]
      · rfl

/-- a row of pairs with one more, in order -/
def insKV (x : List UInt8) (n : Int) : List KV → List KV
  | [] => [(x, n)]
  | a :: l => if x < a.1 then (x, n) :: a :: l else if x = a.1 then (x, n) :: l else a :: insKV x n l

theorem lt_irr (x : List UInt8) : ¬ x < x := by
  have := lt_irrefl x
  rw [less_dec] at this
  simp

theorem insKV_left {x : List UInt8} {n : Int} (y : List UInt8) (m : Int) (r : List KV) (hxy : x < y) : ∀ l : List KV, insKV x n (l ++ (y, m) :: r) = insKV x n l ++ (y, m) :: r
  | [] => by simp [insKV, hxy]
  | a :: l => by
    simp only [List.cons_append, insKV]
    split
    · rfl
    · split
      · rfl
      · simp [insKV_left y m r hxy l]

theorem insKV_right {x : List UInt8} {n : Int} : ∀ (l r : List KV), (∀ a ∈ l, a.1 < x) → insKV x n (l ++ r) = l ++ insKV x n r
  | [], r, _ => rfl
  | a :: l, r, h => by
    have ha := h a (by simp)
    have h1 : ¬ x < a.1 := fun hc => lt_irr _ (List.lt_trans ha hc)
    have h2 : ¬ x = a.1 := fun hc => lt_irr _ (hc ▸ ha)
    simp [insKV, h1, h2, insKV_right l r fun b hb => h b (by simp [hb])]

theorem lt_of_not : ∀ {x y : List UInt8}, ¬ x < y → ¬ x = y → y < x
  | [], [], _, h => absurd rfl h
  | [], b :: y, h, _ => absurd (List.nil_lt_cons b y) h
  | a :: x, [], _, _ => List.nil_lt_cons a x
  | a :: x, b :: y, h, h2 => by
    rw [List.cons_lt_cons_iff] at h ⊢
    by_cases hab : a = b
    · subst hab
      exact Or.inr ⟨rfl, lt_of_not (fun hc => h (Or.inr ⟨rfl, hc⟩)) (fun hc => h2 (by rw [hc]))⟩
    · left
      have h3 : ¬ a < b := fun hc => h (Or.inl hc)
      rw [UInt8.lt_iff_toNat_lt] at h3 ⊢
      have h4 : a.toNat ≠ b.toNat := fun hc => hab (UInt8.toNat_inj.1 hc)
      omega

theorem putT_kv (H : Nat) (x : List UInt8) (n : Int) : ∀ t : T, SL t.kv → (putT H x n t).1.kv = insKV x n t.kv
  | .nil, _ => rfl
  | .node p y m l r, hs => by
    have hsl : SL l.kv := (List.pairwise_append.1 hs).1
    have hsr : SL r.kv := (List.pairwise_cons.1 (List.pairwise_append.1 hs).2.1).2
    have hl := putT_kv H x n l hsl
    have hr := putT_kv H x n r hsr
    have hlt : ∀ a ∈ l.kv, a.1 < y := fun a ha => (List.pairwise_append.1 hs).2.2 a ha (y, m) (by simp)
    unfold putT
    rw [less_dec]
    by_cases h1 : x < y
    · simp only [h1, decide_true, if_true, evenT_kv, T.kv, hl]
      rw [insKV_left y m r.kv h1]
    · by_cases h2 : x = y
      · subst h2
        simp only [h1, decide_false, Bool.false_eq_true, if_false, beq_self_eq_true, if_true, T.kv]
        rw [insKV_right _ _ hlt]
        simp [insKV, h1]
      · have h2' : (x == y) = false := by simpa using h2
        have hyx := lt_of_not h1 h2
        simp only [h1, decide_false, Bool.false_eq_true, if_false, h2', evenT_kv, T.kv, hr]
        rw [insKV_right _ _ fun a ha => List.lt_trans (hlt a ha) hyx]
        simp [insKV, h1, h2]

theorem insKV_mem {x : List UInt8} {n : Int} {a : KV} : ∀ {l : List KV}, SL l → (a ∈ insKV x n l ↔ a = (x, n) ∨ (a ∈ l ∧ a.1 ≠ x))
  | [], _ => by simp [insKV]
  | b :: l, hs => by
    have hb := (List.pairwise_cons.1 hs).1
    have ih := insKV_mem (x := x) (n := n) (a := a) (List.pairwise_cons.1 hs).2
    unfold insKV
    split
    · rename_i h
      simp only [List.mem_cons]
      constructor
      · rintro (h1 | h1 | h1)
        · exact Or.inl h1
        · exact Or.inr ⟨Or.inl h1, fun hc => lt_irr _ (by rw [h1] at hc; rw [hc] at h; exact h)⟩
        · exact Or.inr ⟨Or.inr h1, fun hc => lt_irr x (by have := hb a h1; rw [hc] at this; exact List.lt_trans h this)⟩
      · rintro (h1 | ⟨h1 | h1, _⟩)
        · exact Or.inl h1
        · exact Or.inr (Or.inl h1)
        · exact Or.inr (Or.inr h1)
    · split
      · rename_i h1 h2
        simp only [List.mem_cons]
        constructor
        · rintro (h | h)
          · exact Or.inl h
          · exact Or.inr ⟨Or.inr h, fun hc => lt_irr x (by have := hb a h; rw [hc, ← h2] at this; exact this)⟩
        · rintro (h | ⟨h | h, hne⟩)
          · exact Or.inl h
          · exact absurd (by rw [h]; exact h2.symm) hne
          · exact Or.inr h
      · rename_i h1 h2
        simp only [List.mem_cons, ih]
        constructor
        · rintro (h | h | ⟨h, hne⟩)
          · exact Or.inr ⟨Or.inl h, fun hc => h2 (by rw [← hc, h])⟩
          · exact Or.inl h
          · exact Or.inr ⟨Or.inr h, hne⟩
        · rintro (h | ⟨h | h, hne⟩)
          · exact Or.inr (Or.inl h)
          · exact Or.inl h
          · exact Or.inr (Or.inr ⟨h, hne⟩)

theorem insKV_sl {x : List UInt8} {n : Int} : ∀ {l : List KV}, SL l → SL (insKV x n l)
  | [], _ => by simp [insKV, SL]
  | b :: l, hs => by
    have hb := (List.pairwise_cons.1 hs).1
    have hl := (List.pairwise_cons.1 hs).2
    unfold insKV
    split
    · rename_i h
      refine List.pairwise_cons.2 ⟨fun a ha => ?_, hs⟩
      rcases List.mem_cons.1 ha with rfl | ha
      · exact h
      · exact List.lt_trans h (hb a ha)
    · split
      · rename_i h1 h2
        exact List.pairwise_cons.2 ⟨fun a ha => by have := hb a ha; rw [← h2] at this; exact this, hl⟩
      · rename_i h1 h2
        refine List.pairwise_cons.2 ⟨fun a ha => ?_, insKV_sl hl⟩
        rcases (insKV_mem hl).1 ha with rfl | ⟨ha, _⟩
        · exact lt_of_not h1 h2
        · exact hb a ha

/-- two rows in order with the same members are one -/
theorem SL_ext : ∀ {l m : List KV}, SL l → SL m → (∀ a, a ∈ l ↔ a ∈ m) → l = m
  | [], [], _, _, _ => rfl
  | [], b :: m, _, _, h => absurd ((h b).2 (by simp)) (by simp)
  | a :: l, [], _, _, h => absurd ((h a).1 (by simp)) (by simp)
  | a :: l, b :: m, hl, hm, h => by
    have h1 := (List.pairwise_cons.1 hl).1
    have h2 := (List.pairwise_cons.1 hm).1
    have hab : a = b := by
      rcases List.mem_cons.1 ((h a).1 (by simp)) with e | e
      · exact e
      · rcases List.mem_cons.1 ((h b).2 (by simp)) with e2 | e2
        · exact e2.symm
        · exact absurd (List.lt_trans (h1 b e2) (h2 a e)) (lt_irr _)
    subst hab
    congr 1
    refine SL_ext (List.pairwise_cons.1 hl).2 (List.pairwise_cons.1 hm).2 fun c => ?_
    have hc := h c
    simp only [List.mem_cons] at hc
    constructor
    · intro hcl
      rcases hc.1 (Or.inr hcl) with e | e
      · exact absurd (h1 c hcl) (by rw [e]; exact lt_irr _)
      · exact e
    · intro hcm
      rcases hc.2 (Or.inr hcm) with e | e
      · exact absurd (h2 c hcm) (by rw [e]; exact lt_irr _)
      · exact e
end Go.Proofs.Ytegkjnibkilbpaa
