import Derived.Test.YtegkjnibkilbpaaT18
namespace Go.Proofs.Ytegkjnibkilbpaa

theorem filter_ne {x : List UInt8} {l : List KV} (h : ∀ a ∈ l, a.1 ≠ x) : l.filter (fun a => !(a.1 == x)) = l :=
  List.filter_eq_self.2 fun a ha => by have := h a ha; simp [this]

theorem ne_of_lt {x y : List UInt8} (h : x < y) : x ≠ y := fun e => lt_irr x (by rw [← e] at h; exact h)
theorem ne_of_gt {x y : List UInt8} (h : x < y) : y ≠ x := fun e => lt_irr x (by rw [e] at h; exact h)

theorem firstT_kv : ∀ (t : T), t ≠ .nil → ∃ q z k b, firstT t = .node q z k .nil b ∧ ∃ r, t.kv = (z, k) :: r
  | .nil, h => absurd rfl h
  | .node p y m .nil r, _ => ⟨p, y, m, r, rfl, r.kv, rfl⟩
  | .node p y m (.node q z k a b) r, _ => by
    obtain ⟨q', z', k', b', h1, r', h2⟩ := firstT_kv (.node q z k a b) (fun h => by cases h)
    refine ⟨q', z', k', b', h1, r' ++ (y, m) :: r.kv, ?_⟩
    show (T.node q z k a b).kv ++ (y, m) :: r.kv = _
    rw [h2]
    rfl

theorem isNil_kv {t : T} (h : t.isNil = true) : t.kv = [] := by
  cases t with
  | nil => rfl
  | node => cases h

theorem dropT_kv (H : Nat) : ∀ (t : T) (x : List UInt8), SL t.kv → x ∈ t.names → (dropT H x t).1.kv = t.kv.filter fun a => !(a.1 == x)
  | .nil, x, _, h => by cases h
  | .node p y m l r, x, hs, hx => by
    have hp := List.pairwise_append.1 hs
    have hp2 := List.pairwise_cons.1 hp.2.1
    have hsl : SL l.kv := hp.1
    have hsr : SL r.kv := hp2.2
    have hly : ∀ a ∈ l.kv, a.1 < y := fun a ha => hp.2.2 a ha (y, m) (by simp)
    have hry : ∀ a ∈ r.kv, y < a.1 := fun a ha => hp2.1 a ha
    have hlr : ∀ a ∈ l.kv, ∀ b ∈ r.kv, a.1 < b.1 := fun a ha b hb => hp.2.2 a ha b (by simp [hb])
    have inl : x ∈ l.names → ∃ n, (x, n) ∈ l.kv := fun h => by
      rw [← kv_names] at h
      obtain ⟨a, ha, rfl⟩ := List.mem_map.1 h
      exact ⟨a.2, ha⟩
    have inr : x ∈ r.names → ∃ n, (x, n) ∈ r.kv := fun h => by
      rw [← kv_names] at h
      obtain ⟨a, ha, rfl⟩ := List.mem_map.1 h
      exact ⟨a.2, ha⟩
    have hmem : x ∈ l.names ∨ x = y ∨ x ∈ r.names := by simpa [T.names] using hx
    have hl := dropT_kv H l x hsl
    have hr := dropT_kv H r x hsr
    unfold dropT
    rw [less_dec]
    by_cases h1 : x < y
    · simp only [h1, decide_true, if_true, evenT_kv, T.kv]
      have hxl : x ∈ l.names := by
        rcases hmem with h | h | h
        · exact h
        · exact absurd h1 (by rw [h]; exact lt_irr _)
        · obtain ⟨n, hn⟩ := inr h
          exact absurd (List.lt_trans h1 (hry _ hn)) (lt_irr _)
      rw [hl hxl, List.filter_append, List.filter_cons, filter_ne (l := r.kv) fun a ha => ne_of_gt (List.lt_trans h1 (hry a ha))]
      simp [ne_of_gt h1]
    · by_cases h2 : x = y
      · subst h2
        simp only [h1, decide_false, Bool.false_eq_true, if_false, beq_self_eq_true, if_true, T.kv]
        have hL := filter_ne (l := l.kv) (x := x) fun a ha => ne_of_lt (hly a ha)
        have hR := filter_ne (l := r.kv) (x := x) fun a ha => ne_of_gt (hry a ha)
        rw [List.filter_append, List.filter_cons, hL, hR]
        simp only [beq_self_eq_true, Bool.not_true, Bool.false_eq_true, if_false]
        split
        · rename_i h; simp [isNil_kv h]
        · split
          · rename_i h; simp [isNil_kv h]
          · rename_i hln hrn
            have hne : r ≠ .nil := by rintro rfl; exact hrn rfl
            obtain ⟨q, z, k, b, hf, rest, hkv⟩ := firstT_kv r hne
            have hz : z ∈ r.names := by rw [← kv_names, hkv]; simp
            have hd := dropT_kv H r z hsr hz
            have hrest : ∀ a ∈ rest, a.1 ≠ z := fun a ha => by
              have : SL ((z, k) :: rest) := hkv ▸ hsr
              exact ne_of_gt ((List.pairwise_cons.1 this).1 a ha)
            rw [hf]
            simp only [T.top, withT, evenT_kv, T.kv, hd, hkv]
            rw [List.filter_cons]
            simp only [beq_self_eq_true, Bool.not_true, Bool.false_eq_true, if_false]
            rw [filter_ne hrest]
      · have h2' : (x == y) = false := by simpa using h2
        have hyx := lt_of_not h1 h2
        simp only [h1, decide_false, Bool.false_eq_true, if_false, h2', evenT_kv, T.kv]
        have hxr : x ∈ r.names := by
          rcases hmem with h | h | h
          · obtain ⟨n, hn⟩ := inl h
            exact absurd (List.lt_trans hyx (hly _ hn)) (lt_irr _)
          · exact absurd h h2
          · exact h
        rw [hr hxr, List.filter_append, List.filter_cons, filter_ne (l := l.kv) fun a ha => ne_of_lt (List.lt_trans (hly a ha) hyx)]
        simp [ne_of_lt hyx]

theorem findT_kv {x : List UInt8} : ∀ {t : T}, SL t.kv → (findT x t = .nil ∧ x ∉ t.names) ∨ ∃ p n l r, findT x t = .node p x n l r ∧ (x, n) ∈ t.kv
  | .nil, _ => Or.inl ⟨rfl, by simp [T.names]⟩
  | .node p y m l r, hs => by
    have hp := List.pairwise_append.1 hs
    have hp2 := List.pairwise_cons.1 hp.2.1
    have hly : ∀ a ∈ l.kv, a.1 < y := fun a ha => hp.2.2 a ha (y, m) (by simp)
    have hry : ∀ a ∈ r.kv, y < a.1 := fun a ha => hp2.1 a ha
    have hl := findT_kv (x := x) (t := l) hp.1
    have hr := findT_kv (x := x) (t := r) hp2.2
    rw [findT, less_dec]
    by_cases h2 : y = x
    · subst h2
      simp only [beq_self_eq_true, if_true]
      exact Or.inr ⟨p, m, l, r, rfl, by simp [T.kv]⟩
    · have h2' : (y == x) = false := by simpa using h2
      simp only [h2', Bool.false_eq_true, if_false]
      by_cases h1 : x < y
      · simp only [h1, decide_true, if_true]
        rcases hl with ⟨e, hn⟩ | ⟨p', n', l', r', e, hm⟩
        · refine Or.inl ⟨e, ?_⟩
          simp only [T.names, List.mem_append, List.mem_cons, not_or]
          refine ⟨hn, fun h => h2 h.symm, fun h => ?_⟩
          rw [← kv_names] at h
          obtain ⟨a, ha, rfl⟩ := List.mem_map.1 h
          exact lt_irr _ (List.lt_trans h1 (hry a ha))
        · exact Or.inr ⟨p', n', l', r', e, by simp [T.kv, hm]⟩
      · simp only [h1, decide_false, Bool.false_eq_true, if_false]
        have hyx := lt_of_not h1 (fun e => h2 e.symm)
        rcases hr with ⟨e, hn⟩ | ⟨p', n', l', r', e, hm⟩
        · refine Or.inl ⟨e, ?_⟩
          simp only [T.names, List.mem_append, List.mem_cons, not_or]
          refine ⟨fun h => ?_, fun h => h2 h.symm, hn⟩
          rw [← kv_names] at h
          obtain ⟨a, ha, rfl⟩ := List.mem_map.1 h
          exact lt_irr _ (List.lt_trans hyx (hly a ha))
        · exact Or.inr ⟨p', n', l', r', e, by simp [T.kv, hm]⟩

theorem SL_fun {l : List KV} (h : SL l) {x : List UInt8} {n m : Int} (h1 : (x, n) ∈ l) (h2 : (x, m) ∈ l) : n = m := by
  induction l with
  | nil => cases h1
  | cons a l ih =>
    have hp := List.pairwise_cons.1 h
    rcases List.mem_cons.1 h1 with e1 | e1
    · rcases List.mem_cons.1 h2 with e2 | e2
      · have := e1.trans e2.symm; cases this; rfl
      · exact absurd (hp.1 _ e2) (by rw [← e1]; exact lt_irr _)
    · rcases List.mem_cons.1 h2 with e2 | e2
      · exact absurd (hp.1 _ e1) (by rw [← e2]; exact lt_irr _)
      · exact ih hp.2 e1 e2

theorem getT_eq {s t : T} (hs : SL s.kv) (ht : SL t.kv) (h : s.kv = t.kv) (x : List UInt8) : getT x s = getT x t := by
  have hn : s.names = t.names := by rw [← kv_names, ← kv_names, h]
  unfold getT
  rcases findT_kv (x := x) hs with ⟨e, hx⟩ | ⟨p, n, l, r, e, hm⟩
  · rcases findT_kv (x := x) ht with ⟨e', _⟩ | ⟨p', n', l', r', e', hm'⟩
    · rw [e, e']
    · exact absurd (by rw [hn, ← kv_names]; exact List.mem_map.2 ⟨_, hm', rfl⟩) hx
  · rcases findT_kv (x := x) ht with ⟨e', hx⟩ | ⟨p', n', l', r', e', hm'⟩
    · exact absurd (by rw [← hn, ← kv_names]; exact List.mem_map.2 ⟨_, hm, rfl⟩) hx
    · rw [e, e']
      have := SL_fun hs hm (h ▸ hm')
      rw [this]

theorem getT_true {t : T} (ht : SL t.kv) {x : List UInt8} (hx : x ∈ t.names) : (getT x t).2 = true := by
  unfold getT
  rcases findT_kv (x := x) ht with ⟨_, h⟩ | ⟨p, n, l, r, e, _⟩
  · exact absurd hx h
  · rw [e]

/-- the names from one on -/
theorem fromT_eq (s : List UInt8) : ∀ t : T, SL t.kv → fromT s t = t.names.filter fun y => !(decide (y < s))
  | .nil, _ => rfl
  | .node p y m l r, hs => by
    have hp := List.pairwise_append.1 hs
    have hp2 := List.pairwise_cons.1 hp.2.1
    have hly : ∀ a ∈ l.names, a < y := fun a ha => by
      rw [← kv_names] at ha
      obtain ⟨b, hb, rfl⟩ := List.mem_map.1 ha
      exact hp.2.2 b hb (y, m) (by simp)
    have hl := fromT_eq s l hp.1
    have hr := fromT_eq s r hp2.2
    rw [fromT, less_dec, hl, hr]
    by_cases h : y < s
    · have : l.names.filter (fun a => !(decide (a < s))) = [] := List.filter_eq_nil_iff.2 fun a ha => by
        simp [List.lt_trans (hly a ha) h]
      simp [h, T.names, this]
    · simp [h, T.names]

theorem fromT_all {t : T} (h : SL t.kv) : fromT [] t = t.names := by
  rw [fromT_eq [] t h]
  exact List.filter_eq_self.2 fun a _ => by simp
end Go.Proofs.Ytegkjnibkilbpaa
