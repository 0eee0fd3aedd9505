import Derived.Test.YtegkjnibkilbpaaT28
namespace Go.Proofs.Ytegkjnibkilbpaa
open Go.RowKit

/-- the names that were not there yet -/
def ddStep (L : List CallD) (c : CallD) : List CallD := if L.any (fun d => d.name == c.name) then L else L ++ [⟨0, c.n, c.name, false⟩]
def ddOf (cs : List CallD) : List CallD := cs.foldl ddStep []

theorem ddOf_snoc {cs : List CallD} {k : Nat} {c : CallD} (h : cs[k]? = some c) : ddOf (cs.take (k + 1)) = ddStep (ddOf (cs.take k)) c := by
  have hk : k < cs.length := (List.getElem?_eq_some_iff.1 h).1
  have hc : cs[k] = c := (List.getElem?_eq_some_iff.1 h).2
  unfold ddOf
  rw [List.take_succ_eq_append_getElem hk, List.foldl_append, hc]
  rfl

/-- each name once, no Drop -/
structure Plain (L : List CallD) : Prop where
  nd : (L.map (·.name)).Nodup
  put : ∀ c ∈ L, c.drop = false

theorem Plain.nil : Plain [] := ⟨by simp, by simp⟩
theorem Plain.step {L : List CallD} (h : Plain L) (c : CallD) : Plain (ddStep L c) := by
  unfold ddStep
  split
  · exact h
  · rename_i hn
    refine ⟨?_, ?_⟩
    · rw [List.map_append, List.nodup_append]
      refine ⟨h.nd, by simp, fun a ha b hb => ?_⟩
      simp only [List.map_cons, List.map_nil, List.mem_singleton] at hb
      subst hb
      rintro rfl
      obtain ⟨d, hd, hde⟩ := List.mem_map.1 ha
      exact hn (List.any_eq_true.2 ⟨d, hd, by simp [hde]⟩)
    · intro d hd
      rcases List.mem_append.1 hd with hd | hd
      · exact h.put d hd
      · simp only [List.mem_singleton] at hd; rw [hd]

theorem ddOf_plain (cs : List CallD) : ∀ k, k ≤ cs.length → Plain (ddOf (cs.take k)) ∧ (ddOf (cs.take k)).length ≤ k
  | 0, _ => ⟨by simpa [ddOf] using Plain.nil, by simp [ddOf]⟩
  | k + 1, h => by
    obtain ⟨ih1, ih2⟩ := ddOf_plain cs k (by omega)
    rw [ddOf_snoc (cs := cs) (k := k) (c := cs[k]) (by simp)]
    refine ⟨ih1.step _, ?_⟩
    unfold ddStep
    split
    · omega
    · simp; omega

theorem fold_kv : ∀ (L : List CallD) (acc : List KV), SL acc → (∀ c ∈ L, c.drop = false) → (L.map (·.name)).Nodup → (∀ c ∈ L, ∀ a ∈ acc, a.1 ≠ c.name) →
    SL (L.foldl kvStep acc) ∧ ∀ a, a ∈ L.foldl kvStep acc ↔ a ∈ acc ∨ ∃ c ∈ L, a = (c.name, c.n)
  | [], acc, hs, _, _, _ => ⟨hs, fun a => by simp⟩
  | c :: L, acc, hs, hd, hn, ha => by
    have hn' := List.nodup_cons.1 hn
    have hstep : kvStep acc c = insKV c.name c.n acc := by
      unfold kvStep; rw [if_neg (by rw [hd c (by simp)]; decide)]
    have hmem : ∀ a, a ∈ insKV c.name c.n acc ↔ a = (c.name, c.n) ∨ a ∈ acc := fun a => by
      rw [insKV_mem hs]
      constructor
      · rintro (h | ⟨h, _⟩)
        · exact Or.inl h
        · exact Or.inr h
      · rintro (h | h)
        · exact Or.inl h
        · exact Or.inr ⟨h, ha c (by simp) a h⟩
    obtain ⟨i1, i2⟩ := fold_kv L (insKV c.name c.n acc) (insKV_sl hs) (fun d h => hd d (by simp [h])) hn'.2 fun d hdL a haI => by
      rcases (hmem a).1 haI with rfl | h
      · intro e; exact hn'.1 (List.mem_map.2 ⟨d, hdL, e.symm⟩)
      · exact ha d (by simp [hdL]) a h
    rw [List.foldl_cons, hstep]
    refine ⟨i1, fun a => ?_⟩
    rw [i2, hmem]
    simp only [List.mem_cons, exists_eq_or_imp]
    constructor
    · rintro ((h | h) | h)
      · exact Or.inr (Or.inl h)
      · exact Or.inl h
      · exact Or.inr (Or.inr h)
    · rintro (h | h | h)
      · exact Or.inl (Or.inr h)
      · exact Or.inl (Or.inl h)
      · exact Or.inr h

theorem kvOf_mem {L : List CallD} (h : Plain L) : SL (kvOf L) ∧ ∀ a, a ∈ kvOf L ↔ ∃ c ∈ L, a = (c.name, c.n) := by
  obtain ⟨h1, h2⟩ := fold_kv L [] List.Pairwise.nil h.put h.nd (by simp)
  exact ⟨h1, fun a => by rw [show a ∈ kvOf L ↔ _ from h2 a]; simp⟩

theorem Plain.rev {L : List CallD} (h : Plain L) : Plain L.reverse := ⟨by rw [List.map_reverse]; exact List.pairwise_reverse.2 (List.Pairwise.imp (fun h e => h e.symm) h.nd), fun c hc => h.put c (by simpa using hc)⟩

theorem kvOf_rev {L : List CallD} (h : Plain L) : kvOf L.reverse = kvOf L := by
  obtain ⟨h1, h2⟩ := kvOf_mem h
  obtain ⟨h3, h4⟩ := kvOf_mem h.rev
  exact SL_ext h3 h1 fun a => by rw [h2, h4]; simp

/-- what is left behind Drops -/
def dropAll (L : List CallD) (l : List KV) : List KV := L.foldl (fun l c => l.filter fun a => !(a.1 == c.name)) l
theorem dropAll_snoc {L : List CallD} {k : Nat} {c : CallD} {l : List KV} (h : L[k]? = some c) : dropAll (L.take (k + 1)) l = (dropAll (L.take k) l).filter fun a => !(a.1 == c.name) := by
  have hk : k < L.length := (List.getElem?_eq_some_iff.1 h).1
  have hc : L[k] = c := (List.getElem?_eq_some_iff.1 h).2
  unfold dropAll
  rw [List.take_succ_eq_append_getElem hk, List.foldl_append, hc]
  rfl
theorem dropAll_mem : ∀ (L : List CallD) (l : List KV) (a : KV), a ∈ dropAll L l → a ∈ l ∧ ∀ c ∈ L, a.1 ≠ c.name
  | [], l, a, h => ⟨h, by simp⟩
  | c :: L, l, a, h => by
    obtain ⟨h1, h2⟩ := dropAll_mem L _ a h
    obtain ⟨h3, h4⟩ := List.mem_filter.1 h1
    refine ⟨h3, fun d hd => ?_⟩
    rcases List.mem_cons.1 hd with rfl | hd
    · simpa using h4
    · exact h2 d hd
theorem dropAll_all {L : List CallD} (h : Plain L) : dropAll L (kvOf L) = [] := by
  cases hd : dropAll L (kvOf L) with
  | nil => rfl
  | cons a r =>
    obtain ⟨h1, h2⟩ := dropAll_mem L (kvOf L) a (by rw [hd]; simp)
    obtain ⟨c, hc, rfl⟩ := ((kvOf_mem h).2 a).1 h1
    exact absurd rfl (h2 c hc)
theorem dropAll_sl {L : List CallD} : ∀ {l : List KV}, SL l → SL (dropAll L l) := by
  induction L with
  | nil => intro l h; exact h
  | cons c L ih => intro l h; exact ih (List.Pairwise.sublist List.filter_sublist h)

/-- the cells of Calls -/
def cellsL (L : List CallD) : List Value := L.flatMap fun c => [.int .i64 c.of, .int .i64 c.n, .string ⟨c.name.toArray⟩, .bool c.drop]
theorem cellsL_len : ∀ L : List CallD, (cellsL L).length = L.length * 4
  | [] => rfl
  | c :: L => by have := cellsL_len L; simp [cellsL] at this ⊢; omega
theorem cellsL_get : ∀ (L : List CallD) (j : Nat) (c : CallD), L[j]? = some c → (cellsL L)[j * 4]? = some (.int .i64 c.of) ∧ (cellsL L)[j * 4 + 1]? = some (.int .i64 c.n) ∧ (cellsL L)[j * 4 + 2]? = some (.string ⟨c.name.toArray⟩) ∧ (cellsL L)[j * 4 + 3]? = some (.bool c.drop)
  | [], j, c, h => by simp at h
  | d :: L, 0, c, h => by simp at h; subst h; simp [cellsL]
  | d :: L, j + 1, c, h => by
    have ih := cellsL_get L j c (by simpa using h)
    have e : ∀ i, (cellsL (d :: L))[(j + 1) * 4 + i]? = (cellsL L)[j * 4 + i]? := fun i => by
      rw [show (j + 1) * 4 + i = (j * 4 + i) + 4 by omega]
      simp [cellsL]
    exact ⟨(e 0).trans ih.1, (e 1).trans ih.2.1, (e 2).trans ih.2.2.1, (e 3).trans ih.2.2.2⟩

theorem el22 : ElemT Try.prog 22 24 4 40 := ElemT.mk' (z := .agg #[.int .i64 0, .int .i64 0, .string ⟨#[]⟩, .bool false]) Try.underlying22 (by kernel_rfl) rfl (by decide)

theorem rdC_of_own {w : World} {base : Nat} {v : Value} {L : List CallD} (h : w.ownsRow base 24 4 v L.length (cellsL L)) : rdC w.heap.size w v L := by
  obtain ⟨h0, a, cap, h1, h2, h3, h4, h5⟩ := rd.of_own h
  refine ⟨a, cap, h1, h2, by simpa [maxLen] using h3, h4, fun hn => ?_⟩
  obtain ⟨b, off, e1, e2, e3⟩ := h5 hn
  refine ⟨b, off, e1, e2, fun j c hj => ?_⟩
  obtain ⟨c0, c1, c2, c3⟩ := cellsL_get L j c hj
  exact ⟨e3 _ _ c0, e3 _ _ c1, e3 _ _ c2, e3 _ _ c3⟩
end Go.Proofs.Ytegkjnibkilbpaa
