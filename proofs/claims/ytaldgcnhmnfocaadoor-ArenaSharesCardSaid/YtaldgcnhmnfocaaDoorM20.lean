/-
  Texts put together: Y4, Y5, Y6, Y7, Y8, Y9, Y10, Y11, Y12, Y13, Y14, Y15. No condition.
-/
import Derived.Test.YtaldgcnhmnfocaaDoorM18
import Derived.Test.YtaldgcnhmnfocaaDoorM16
import Derived.Test.YtaldgcnhmnfocaaDoorM17
import Derived.Test.YtaldgcnhmnfocaaDoorM12
import Derived.Test.YtaldgcnhmnfocaaDoorM19
import Derived.Test.YtaldgcnhmnfocaaDoorM15
/-
  Arena, plain: words tell levels apart; nodes that are held. No condition.
-/
namespace Go.Proofs.YtaldgcnhmnfocaaDoor
open Go.RowKit

/-! words -/
theorem split_at_stop {p : UInt8 → Bool} {c : UInt8} (hc : p c = false) : ∀ {a b r r' : List UInt8}, (∀ x ∈ a, p x = true) → (∀ x ∈ b, p x = true) → a ++ c :: r = b ++ c :: r' → a = b ∧ r = r'
  | [], [], r, r', _, _, h => ⟨rfl, (List.cons.inj h).2⟩
  | [], y :: b, r, r', _, hb, h => by
    have := (List.cons.inj h).1
    have h1 := hb y (by simp)
    rw [← this, hc] at h1; cases h1
  | x :: a, [], r, r', ha, _, h => by
    have := (List.cons.inj h).1
    have h1 := ha x (by simp)
    rw [this, hc] at h1; cases h1
  | x :: a, y :: b, r, r', ha, hb, h => by
    obtain ⟨h1, h2⟩ := List.cons.inj h
    obtain ⟨h3, h4⟩ := split_at_stop hc (fun z hz => ha z (List.mem_cons_of_mem _ hz)) (fun z hz => hb z (List.mem_cons_of_mem _ hz)) h2
    exact ⟨by rw [h1, h3], h4⟩
theorem lvW_head (l : Lv) : ∃ c r, lvW l = c :: r ∧ digY c = true := by
  rw [lvW_eq]
  have hd := decY_dig l.kind.toNat
  have hne : decY l.kind.toNat ≠ [] := by rw [decY_step]; simp
  cases h : decY l.kind.toNat with
  | nil => exact absurd h hne
  | cons c r => exact ⟨c, _, rfl, hd c (by rw [h]; simp)⟩
mutual
theorem lvW_inj {n : Int} (hn : n ≤ 4) : ∀ (a b : Lv) (r r' : List UInt8), lvFit n a = true → lvFit n b = true → lvW a ++ r = lvW b ++ r' → a = b ∧ r = r'
  | .mk k m xs, .mk k' m' ys, r, r', ha, hb, h => by
    have h1 := lvFit_in hn ha
    have h2 := lvFit_in hn hb
    simp only [Lv.kind, Lv.n] at h1 h2
    simp only [lvW, List.append_assoc, List.cons_append, List.nil_append] at h
    obtain ⟨e1, h⟩ := split_at_stop (p := digY) (by decide) (decY_dig _) (decY_dig _) h
    obtain ⟨e2, h⟩ := split_at_stop (p := digY) (by decide) (decY_dig _) (decY_dig _) h
    obtain ⟨e3, h⟩ := lvWL_inj hn xs ys r r' (fun x hx => lvFit_arg ha hx) (fun x hx => lvFit_arg hb hx) h
    have e4 := decY_inj _ _ e1
    have e5 := decY_inj _ _ e2
    refine ⟨?_, h⟩
    rw [e3, show k = k' by omega, show m = m' by omega]
theorem lvWL_inj {n : Int} (hn : n ≤ 4) : ∀ (xs ys : List Lv) (r r' : List UInt8), (∀ x ∈ xs, lvFit n x = true) → (∀ x ∈ ys, lvFit n x = true) → lvWL xs ++ 41 :: r = lvWL ys ++ 41 :: r' → xs = ys ∧ r = r'
  | [], [], r, r', _, _, h => ⟨rfl, (List.cons.inj h).2⟩
  | [], y :: ys, r, r', _, _, h => by
    obtain ⟨c, q, e, hc⟩ := lvW_head y
    simp only [lvWL, e, List.cons_append, List.nil_append, List.append_assoc] at h
    rw [← (List.cons.inj h).1] at hc
    cases hc
  | x :: xs, [], r, r', _, _, h => by
    obtain ⟨c, q, e, hc⟩ := lvW_head x
    simp only [lvWL, e, List.cons_append, List.nil_append, List.append_assoc] at h
    rw [(List.cons.inj h).1] at hc
    cases hc
  | x :: xs, y :: ys, r, r', hx, hy, h => by
    simp only [lvWL, List.append_assoc] at h
    obtain ⟨e1, h⟩ := lvW_inj hn x y _ _ (hx x (by simp)) (hy y (by simp)) h
    obtain ⟨e2, h⟩ := lvWL_inj hn xs ys r r' (fun z hz => hx z (List.mem_cons_of_mem _ hz)) (fun z hz => hy z (List.mem_cons_of_mem _ hz)) h
    exact ⟨by rw [e1, e2], h⟩
end
/-- a term's own words may be read back -/
structure WordsOk (t : Tm) : Prop where
  name : (32 : UInt8) ∉ t.name
  lvs : ∀ l ∈ t.levels, lvFit 4 l = true
theorem tmW_inj {a b : Tm} (ha : WordsOk a) (hb : WordsOk b) (h : tmW a = tmW b) : a.name = b.name ∧ a.levels = b.levels := by
  unfold tmW at h
  obtain ⟨e1, e2⟩ := split_at_stop (p := fun c => decide (c ≠ 32)) (by decide) (fun x hx => decide_eq_true fun e => ha.name (by rw [← e]; exact hx)) (fun x hx => decide_eq_true fun e => hb.name (by rw [← e]; exact hx)) h
  exact ⟨e1, (lvWL_inj (Int.le_refl 4) a.levels b.levels [] [] ha.lvs hb.lvs (by rw [e2])).1⟩

/-! nodes -/
structure Nd where
  key : Ky
  t : Tm
  count : Nat
  loose : Int
def Nd.arg (nd : Nd) : Nat → Nat
  | 0 => nd.key.a
  | 1 => nd.key.b
  | 2 => nd.key.c
  | _ => 0
def Nd.ids (nd : Nd) : List Nat := [nd.key.a, nd.key.b, nd.key.c].take nd.count
def mkKy (t : Tm) (ids : List Nat) : Ky := ⟨t.kind, t.n, tmW t, ids.getD 0 0, ids.getD 1 0, ids.getD 2 0⟩
def mkNd (t : Tm) (ids : List Nat) : Nd := ⟨mkKy t ids, .mk t.kind t.n t.name t.levels [], t.args.length, tmNeeds t⟩
def idAt (s : List Nd) (k : Ky) : Option Nat := s.findIdx? fun nd => decide (nd.key = k)
/-- a node, when its parts are held -/
def aNode (t : Tm) (p : List Nd × List Nat) : List Nd × Nat := match idAt p.1 (mkKy t p.2) with
  | some i => (p.1, i + 1)
  | none => (p.1 ++ [mkNd t p.2], p.1.length + 1)
mutual
def aHold : Tm → List Nd → List Nd × Nat
  | .mk k n nm ls xs, s => aNode (.mk k n nm ls xs) (aHoldL xs s)
def aHoldL : List Tm → List Nd → List Nd × List Nat
  | [], s => (s, [])
  | t :: ts, s => ((aHoldL ts (aHold t s).1).1, (aHold t s).2 :: (aHoldL ts (aHold t s).1).2)
end
theorem aHold_eq (t : Tm) (s : List Nd) : aHold t s = aNode t (aHoldL t.args s) := by cases t; rfl
theorem aHoldL_snoc (t : Tm) : ∀ (ts : List Tm) (s : List Nd), aHoldL (ts ++ [t]) s = ((aHold t (aHoldL ts s).1).1, (aHoldL ts s).2 ++ [(aHold t (aHoldL ts s).1).2])
  | [], s => rfl
  | u :: ts, s => by
    rw [List.cons_append, aHoldL, aHoldL, aHoldL_snoc t ts]
    rfl
theorem aHoldL_take {ts : List Tm} {k : Nat} (h : k < ts.length) (s : List Nd) : aHoldL (ts.take (k + 1)) s = ((aHold ts[k] (aHoldL (ts.take k) s).1).1, (aHoldL (ts.take k) s).2 ++ [(aHold ts[k] (aHoldL (ts.take k) s).1).2]) := by
  rw [List.take_succ_eq_append_getElem h, aHoldL_snoc]
theorem idAt_some {s : List Nd} {k : Ky} {i : Nat} (h : idAt s k = some i) : ∃ hi : i < s.length, s[i].key = k := by
  obtain ⟨h1, h2, _⟩ := List.findIdx?_eq_some_iff_getElem.1 h
  exact ⟨h1, by simpa using h2⟩
theorem idAt_none {s : List Nd} {k : Ky} (h : idAt s k = none) : ∀ nd ∈ s, nd.key ≠ k := fun nd hnd => by
  have := List.findIdx?_eq_none_iff.1 h nd hnd
  simpa using this
theorem idAt_pre {s s' : List Nd} (hp : s <+: s') {k : Ky} {i : Nat} (h : idAt s k = some i) : idAt s' k = some i := by
  obtain ⟨r, rfl⟩ := hp
  unfold idAt at h ⊢
  rw [List.findIdx?_append, h]
  rfl
theorem idAt_new {s s' : List Nd} {nd : Nd} (hp : s ++ [nd] <+: s') (h : idAt s nd.key = none) : idAt s' nd.key = some s.length := by
  refine idAt_pre hp ?_
  unfold idAt at h ⊢
  rw [List.findIdx?_append, h]
  simp
theorem aNode_pre (t : Tm) (p : List Nd × List Nat) : p.1 <+: (aNode t p).1 := by
  unfold aNode
  split
  · exact List.prefix_refl _
  · exact List.prefix_append _ _
theorem aNode_id (t : Tm) (p : List Nd × List Nat) : 1 ≤ (aNode t p).2 ∧ (aNode t p).2 ≤ (aNode t p).1.length ∧ (aNode t p).1.length ≤ p.1.length + 1 := by
  unfold aNode
  split
  · rename_i i h
    obtain ⟨hi, _⟩ := idAt_some h
    exact ⟨by simp only; omega, by simp only; omega, by simp only; omega⟩
  · simp only [List.length_append, List.length_cons, List.length_nil]; omega
/-- a node that is there already -/
theorem aNode_again (t : Tm) (p : List Nd × List Nat) {s' : List Nd} (hp : (aNode t p).1 <+: s') : aNode t (s', p.2) = (s', (aNode t p).2) := by
  unfold aNode at hp ⊢
  cases h : idAt p.1 (mkKy t p.2) with
  | some i =>
    rw [h] at hp
    simp only at hp ⊢
    rw [idAt_pre hp h]
  | none =>
    rw [h] at hp
    simp only at hp ⊢
    rw [show mkKy t p.2 = (mkNd t p.2).key from rfl] at h ⊢
    rw [idAt_new hp h]
mutual
theorem aHold_pre : ∀ (t : Tm) (s : List Nd), s <+: (aHold t s).1
  | .mk k n nm ls xs, s => by
    rw [aHold]
    exact (aHoldL_pre xs s).trans (aNode_pre _ _)
theorem aHoldL_pre : ∀ (ts : List Tm) (s : List Nd), s <+: (aHoldL ts s).1
  | [], s => List.prefix_refl _
  | t :: ts, s => by
    rw [aHoldL]
    exact (aHold_pre t s).trans (aHoldL_pre ts _)
end
theorem aHold_id (t : Tm) (s : List Nd) : 1 ≤ (aHold t s).2 ∧ (aHold t s).2 ≤ (aHold t s).1.length := by
  rw [aHold_eq]
  exact ⟨(aNode_id _ _).1, (aNode_id _ _).2.1⟩
mutual
theorem aHold_len : ∀ (t : Tm) (s : List Nd), (aHold t s).1.length ≤ s.length + t.nodes
  | .mk k n nm ls xs, s => by
    have h1 := (aNode_id (.mk k n nm ls xs) (aHoldL xs s)).2.2
    have h2 := aHoldL_len xs s
    rw [aHold]
    simp only [Tm.nodes]
    omega
theorem aHoldL_len : ∀ (ts : List Tm) (s : List Nd), (aHoldL ts s).1.length ≤ s.length + Tm.nodesL ts
  | [], s => Nat.le_add_right _ _
  | t :: ts, s => by
    have h1 := aHold_len t s
    have h2 := aHoldL_len ts (aHold t s).1
    rw [aHoldL]
    simp only [Tm.nodesL]
    omega
end
mutual
/-- held again -/
theorem aHold_again : ∀ (t : Tm) (s s' : List Nd), (aHold t s).1 <+: s' → aHold t s' = (s', (aHold t s).2)
  | .mk k n nm ls xs, s, s', h => by
    rw [aHold] at h ⊢
    have h1 := aHoldL_again xs s s' ((aNode_pre _ _).trans h)
    rw [aHold, h1]
    exact aNode_again _ _ h
theorem aHoldL_again : ∀ (ts : List Tm) (s s' : List Nd), (aHoldL ts s).1 <+: s' → aHoldL ts s' = (s', (aHoldL ts s).2)
  | [], s, s', _ => rfl
  | t :: ts, s, s', h => by
    rw [aHoldL] at h ⊢
    simp only at h ⊢
    have h1 := aHold_again t s s' ((aHoldL_pre ts _).trans h)
    have h2 := aHoldL_again ts (aHold t s).1 s' h
    rw [aHoldL, h1]
    simp only
    rw [h2]
end
theorem aHoldL_ids : ∀ (ts : List Tm) (s : List Nd), (aHoldL ts s).2.length = ts.length ∧ ∀ a ∈ (aHoldL ts s).2, 1 ≤ a ∧ a ≤ (aHoldL ts s).1.length
  | [], s => ⟨rfl, nofun⟩
  | t :: ts, s => by
    obtain ⟨h1, h2⟩ := aHoldL_ids ts (aHold t s).1
    have h3 := aHold_id t s
    have h4 := (aHoldL_pre ts (aHold t s).1).length_le
    rw [aHoldL]
    refine ⟨by simp [h1], fun a ha => ?_⟩
    rcases List.mem_cons.1 ha with rfl | ha
    · exact ⟨h3.1, by simp only; omega⟩
    · exact h2 a ha
end Go.Proofs.YtaldgcnhmnfocaaDoor

/-
  Arena, plain: what nodes stand for, and where they lead. No condition.
-/
namespace Go.Proofs.YtaldgcnhmnfocaaDoor
open Go.RowKit

/-! right terms, part by part -/
def arity (k : Int) : Nat := if k = 4 ∨ k = 5 ∨ k = 6 then 2 else if k = 7 then 3 else 0
def Fit (t : Tm) : Prop := ∃ vars : Int, tmFit 4 t vars = true
theorem nmGo_no32 : ∀ (b : Bool) (l : List UInt8), nmGo b l = true → (32 : UInt8) ∉ l
  | _, [], _ => by simp
  | b, c :: r, h => by
    unfold nmGo at h
    intro hm
    have key : ∀ b', nmGo b' r = true → c ≠ 32 → False := fun b' h1 h2 => by
      rcases List.mem_cons.1 hm with h3 | h3
      · exact h2 h3.symm
      · exact nmGo_no32 b' r h1 h3
    split at h
    · rename_i hc
      cases b with
      | true => cases h
      | false => exact key true h (by intro e; rw [e] at hc; exact absurd hc (by decide))
    · split at h
      · rename_i hc
        refine key false h fun e => ?_
        rw [e] at hc
        rw [Bool.or_eq_true, Bool.and_eq_true] at hc
        rcases hc with hc | hc
        · exact absurd hc (by decide)
        · exact absurd hc.1 (by decide)
      · cases h
theorem fitL_mem {n k : Int} : ∀ {ts : List Tm} {i : Nat} {vars : Int}, tmFitL n k ts i vars = true → ∀ t ∈ ts, ∃ v, tmFit n t v = true
  | [], _, _, _ => nofun
  | t :: ts, i, vars, h => by
    rw [tmFitL, Bool.and_eq_true] at h
    intro u hu
    rcases List.mem_cons.1 hu with rfl | hu
    · exact ⟨_, h.1⟩
    · exact fitL_mem h.2 u hu
theorem Fit.parts {t : Tm} (h : Fit t) : t.args.length = arity t.kind ∧ WordsOk t ∧ (∀ a ∈ t.args, Fit a) ∧ t.name.length ≤ 40 ∧ t.levels.length ≤ 4 ∧ ∀ l ∈ t.levels, l.nodes ≤ 64 := by
  obtain ⟨vars, h⟩ := h
  obtain ⟨k, m, nm, ls, xs⟩ := t
  rw [tmFit, Bool.and_eq_true, Bool.and_eq_true] at h
  obtain ⟨⟨h1, h2⟩, h3⟩ := h
  have hls : ∀ l ∈ ls, lvFit 4 l = true ∧ l.nodes ≤ 64 := fun l hl => by
    have := List.all_eq_true.1 h2 l hl
    unfold lvRight at this
    simp only [Bool.and_eq_true, decide_eq_true_eq] at this
    exact ⟨this.2, this.1.2⟩
  have hargs := fitL_mem h3
  have key : xs.length = arity k ∧ (32 : UInt8) ∉ nm ∧ nm.length ≤ 40 ∧ ls.length ≤ 4 := by
    unfold tmNode at h1
    unfold arity
    by_cases k1 : k = 1
    · subst k1; simp at h1; simp [h1]
    · by_cases k2 : k = 2
      · subst k2; simp at h1; simp [h1]
      · by_cases k3 : k = 3
        · subst k3
          simp at h1
          have hn := h1.1.1.2
          unfold nameOk at hn
          simp only [Bool.and_eq_true, decide_eq_true_eq] at hn
          exact ⟨by simp [h1.2], nmGo_no32 _ _ hn.2, hn.1.2, h1.1.2⟩
        · by_cases k4 : k = 4 ∨ k = 5 ∨ k = 6
          · rw [if_neg k1, if_neg k2, if_neg k3, if_pos k4] at h1
            simp only [Bool.and_eq_true, decide_eq_true_eq] at h1
            rw [if_pos k4]
            exact ⟨h1.2, by simp [h1.1.1.2], by simp [h1.1.1.2], by simp [h1.1.2]⟩
          · by_cases k7 : k = 7
            · subst k7; simp at h1; simp [h1]
            · rw [if_neg k1, if_neg k2, if_neg k3, if_neg k4, if_neg k7] at h1
              cases h1
  exact ⟨key.1, ⟨key.2.1, fun l hl => (hls l hl).1⟩, hargs, key.2.2.1, key.2.2.2, fun l hl => (hls l hl).2⟩
theorem arity_le (k : Int) : arity k ≤ 3 := by unfold arity; split <;> (try split) <;> omega

/-! nodes that are right -/
structure GoodNd (i : Nat) (nd : Nd) : Prop where
  le : nd.count = arity nd.t.kind
  ids : ∀ a ∈ nd.ids, 1 ≤ a ∧ a ≤ i
  args : nd.t.args = []
  k : nd.key.k = nd.t.kind
  n : nd.key.n = nd.t.n
  w : nd.key.w = tmW nd.t
  ok : WordsOk nd.t
  small : nd.t.nodes ≤ 300
def Good (s : List Nd) : Prop := ∀ (i : Nat) (h : i < s.length), GoodNd i s[i]
theorem Good.snoc {s : List Nd} {nd : Nd} (h : Good s) (hn : GoodNd s.length nd) : Good (s ++ [nd]) := by
  intro i hi
  rw [List.getElem_append]
  split
  · rename_i h1; exact h i h1
  · rename_i h1
    have : i = s.length := by
      rw [List.length_append] at hi
      simp only [List.length_cons, List.length_nil] at hi
      omega
    subst this
    simpa using hn
theorem Good.pre {s s' : List Nd} (hp : s <+: s') (h : Good s') : Good s := by
  obtain ⟨r, rfl⟩ := hp
  intro i hi
  have := h i (by rw [List.length_append]; omega)
  rwa [List.getElem_append_left hi] at this
theorem take3 {ids : List Nat} {n : Nat} (h : ids.length = n) (h3 : n ≤ 3) : [ids.getD 0 0, ids.getD 1 0, ids.getD 2 0].take n = ids := by
  match ids, h with
  | [], h => subst h; rfl
  | [a], h => subst h; rfl
  | [a, b], h => subst h; rfl
  | [a, b, c], h => subst h; rfl
  | a :: b :: c :: d :: r, h => simp at h; omega
theorem own_nodes {t : Tm} (h : Fit t) : (Tm.mk t.kind t.n t.name t.levels []).nodes ≤ 300 := by
  obtain ⟨_, _, _, _, h1, h2⟩ := h.parts
  have : ∀ ls : List Lv, (∀ l ∈ ls, l.nodes ≤ 64) → Lv.nodesL ls ≤ 64 * ls.length := by
    intro ls
    induction ls with
    | nil => intro _; exact Nat.le_refl _
    | cons l ls ih =>
      intro hl
      have h1 := hl l (by simp)
      have h2 := ih fun x hx => hl x (List.mem_cons_of_mem _ hx)
      simp only [Lv.nodesL, List.length_cons]
      omega
  have h3 := this t.levels h2
  rw [Tm.nodes_eq]
  show Lv.nodesL t.levels + 0 + 1 ≤ 300
  omega
theorem mkNd_good {t : Tm} (hf : Fit t) {ids : List Nat} {n : Nat} (hl : ids.length = t.args.length) (hi : ∀ a ∈ ids, 1 ≤ a ∧ a ≤ n) : GoodNd n (mkNd t ids) := by
  obtain ⟨h1, h2, h3, _⟩ := hf.parts
  refine ⟨h1, fun a ha => ?_, rfl, rfl, rfl, rfl, ⟨h2.name, h2.lvs⟩, own_nodes hf⟩
  have e : (mkNd t ids).ids = ids := take3 hl (by show t.args.length ≤ 3; rw [h1]; exact arity_le _)
  rw [e] at ha
  exact hi a ha
/-- a node of a term's key is the term's -/
theorem key_node {i : Nat} {nd : Nd} (hg : GoodNd i nd) {t : Tm} (hf : Fit t) {ids : List Nat} (hl : ids.length = t.args.length) (hk : nd.key = mkKy t ids) : nd.t = .mk t.kind t.n t.name t.levels [] ∧ nd.ids = ids ∧ nd.count = t.args.length := by
  obtain ⟨h1, h2, h3, _⟩ := hf.parts
  have e1 : nd.t.kind = t.kind := by rw [← hg.k, hk]; rfl
  have e2 : nd.t.n = t.n := by rw [← hg.n, hk]; rfl
  have e3 : tmW nd.t = tmW t := by rw [← hg.w, hk]; rfl
  obtain ⟨e4, e5⟩ := tmW_inj hg.ok h2 e3
  have e6 : nd.count = t.args.length := by rw [hg.le, e1, h1]
  have e7 : nd.t = .mk t.kind t.n t.name t.levels [] := by
    have : nd.t = .mk nd.t.kind nd.t.n nd.t.name nd.t.levels nd.t.args := by cases nd.t; rfl
    rw [this, e1, e2, e4, e5, hg.args]
  refine ⟨e7, ?_, e6⟩
  unfold Nd.ids
  rw [e6, hk]
  exact take3 hl (by rw [h1]; exact arity_le _)
theorem aNode_good {t : Tm} (hf : Fit t) {p : List Nd × List Nat} (h : Good p.1) (hl : p.2.length = t.args.length) (hi : ∀ a ∈ p.2, 1 ≤ a ∧ a ≤ p.1.length) : Good (aNode t p).1 := by
  unfold aNode
  split
  · exact h
  · exact h.snoc (mkNd_good hf hl hi)
mutual
theorem aHold_good : ∀ (t : Tm) (s : List Nd), Good s → Fit t → Good (aHold t s).1
  | .mk k n nm ls xs, s, hs, hf => by
    obtain ⟨h1, h2⟩ := aHoldL_ids xs s
    rw [aHold]
    exact aNode_good hf (aHoldL_good xs s hs hf.parts.2.2.1) h1 h2
theorem aHoldL_good : ∀ (ts : List Tm) (s : List Nd), Good s → (∀ t ∈ ts, Fit t) → Good (aHoldL ts s).1
  | [], s, hs, _ => hs
  | t :: ts, s, hs, hf => by
    rw [aHoldL]
    exact aHoldL_good ts _ (aHold_good t s hs (hf t (by simp))) fun u hu => hf u (List.mem_cons_of_mem _ hu)
end
/-- the node of what is held -/
theorem aNode_at {t : Tm} (hf : Fit t) {p : List Nd × List Nat} (h : Good p.1) (hl : p.2.length = t.args.length) :
    ∃ i nd, (aNode t p).2 = i + 1 ∧ (aNode t p).1[i]? = some nd ∧ nd.t = .mk t.kind t.n t.name t.levels [] ∧ nd.ids = p.2 ∧ nd.count = t.args.length := by
  unfold aNode
  cases hk : idAt p.1 (mkKy t p.2) with
  | some i =>
    obtain ⟨hi, e⟩ := idAt_some hk
    refine ⟨i, p.1[i], rfl, by simp, key_node (h i hi) hf hl e⟩
  | none =>
    refine ⟨p.1.length, mkNd t p.2, rfl, by simp, rfl, ?_, rfl⟩
    have := hf.parts.1
    exact take3 hl (by show t.args.length ≤ 3; rw [this]; exact arity_le _)

/-! what they stand for -/
def tmZ : Tm := .mk 0 0 [] [] []
def ndTm (acc : List Tm) (nd : Nd) : Tm := .mk nd.t.kind nd.t.n nd.t.name nd.t.levels (nd.ids.map fun a => acc.getD (a - 1) tmZ)
def dens (s : List Nd) : List Tm := s.foldl (fun acc nd => acc ++ [ndTm acc nd]) []
theorem dens_snoc (s : List Nd) (nd : Nd) : dens (s ++ [nd]) = dens s ++ [ndTm (dens s) nd] := by unfold dens; rw [List.foldl_append]; rfl
theorem snoc_ind {α : Type} {P : List α → Prop} (h0 : P []) (h1 : ∀ s a, P s → P (s ++ [a])) (s : List α) : P s := by
  have : ∀ n (s : List α), s.length = n → P s := by
    intro n
    induction n with
    | zero => intro s hs; rw [List.length_eq_zero_iff.1 hs]; exact h0
    | succ n ih =>
      intro s hs
      have hne : s ≠ [] := by rintro rfl; cases hs
      rw [← List.dropLast_concat_getLast hne]
      exact h1 _ _ (ih _ (by rw [List.length_dropLast]; omega))
  exact this _ s rfl
theorem dens_len (s : List Nd) : (dens s).length = s.length := by
  induction s using snoc_ind with
  | h0 => rfl
  | h1 s a ih => rw [dens_snoc, List.length_append, List.length_append, ih]; rfl
theorem dens_pre {s s' : List Nd} (h : s <+: s') : dens s <+: dens s' := by
  obtain ⟨r, rfl⟩ := h
  induction r using snoc_ind with
  | h0 => rw [List.append_nil]; exact List.prefix_refl _
  | h1 r a ih => rw [← List.append_assoc, dens_snoc]; exact ih.trans (List.prefix_append _ _)
theorem getD_pre {α : Type} {a b : List α} (h : a <+: b) {i : Nat} (hi : i < a.length) (z : α) : b.getD i z = a.getD i z := by
  obtain ⟨r, rfl⟩ := h
  rw [List.getD_eq_getElem?_getD, List.getD_eq_getElem?_getD, List.getElem?_append_left hi]
theorem dens_at {s : List Nd} (h : Good s) {i : Nat} {nd : Nd} (hi : s[i]? = some nd) : (dens s)[i]? = some (ndTm (dens s) nd) := by
  obtain ⟨hlt, rfl⟩ := List.getElem?_eq_some_iff.1 hi
  have hp : s.take (i + 1) <+: s := List.take_prefix _ _
  have e1 : dens (s.take (i + 1)) = dens (s.take i) ++ [ndTm (dens (s.take i)) s[i]] := by rw [List.take_succ_eq_append_getElem hlt, dens_snoc]
  have h1 : (dens (s.take (i + 1)))[i]? = some (ndTm (dens (s.take i)) s[i]) := by
    rw [e1, List.getElem?_append_right (by rw [dens_len, List.length_take]; omega), dens_len, List.length_take, Nat.min_eq_left (by omega), Nat.sub_self]
    rfl
  obtain ⟨r, hr⟩ := dens_pre hp
  rw [← hr, List.getElem?_append_left (by rw [dens_len, List.length_take]; omega), h1, hr]
  congr 1
  unfold ndTm
  congr 1
  refine List.map_congr_left fun a ha => ?_
  have := (h i hlt).ids a ha
  exact (getD_pre (dens_pre (List.take_prefix i s)) (by rw [dens_len, List.length_take]; omega) _).symm
mutual
theorem aHold_den : ∀ (t : Tm) (s : List Nd), Good s → Fit t → (dens (aHold t s).1).getD ((aHold t s).2 - 1) tmZ = t
  | .mk k n nm ls xs, s, hs, hf => by
    obtain ⟨h1, h2⟩ := aHoldL_ids xs s
    have hg := aHoldL_good xs s hs hf.parts.2.2.1
    have hd := aHoldL_den xs s hs hf.parts.2.2.1
    have hgn := aNode_good (t := .mk k n nm ls xs) hf hg h1 h2
    obtain ⟨i, nd, e1, e2, e3, e4, _⟩ := aNode_at (t := .mk k n nm ls xs) hf hg h1
    rw [aHold, e1, Nat.add_sub_cancel, List.getD_eq_getElem?_getD, dens_at hgn e2]
    show ndTm _ nd = _
    unfold ndTm
    rw [e3, e4]
    simp only [Tm.kind, Tm.n, Tm.name, Tm.levels]
    congr 1
    refine Eq.trans (List.map_congr_left fun a ha => ?_) hd
    have := h2 a ha
    exact getD_pre (dens_pre (aNode_pre _ _)) (by rw [dens_len]; omega) _
theorem aHoldL_den : ∀ (ts : List Tm) (s : List Nd), Good s → (∀ t ∈ ts, Fit t) → (aHoldL ts s).2.map (fun a => (dens (aHoldL ts s).1).getD (a - 1) tmZ) = ts
  | [], s, _, _ => rfl
  | t :: ts, s, hs, hf => by
    have h1 := aHold_den t s hs (hf t (by simp))
    have hg := aHold_good t s hs (hf t (by simp))
    have h2 := aHoldL_den ts (aHold t s).1 hg fun u hu => hf u (List.mem_cons_of_mem _ hu)
    have h3 := aHold_id t s
    rw [aHoldL, List.map_cons]
    simp only
    rw [h2, getD_pre (dens_pre (aHoldL_pre ts _)) (by rw [dens_len]; omega), h1]
end
end Go.Proofs.YtaldgcnhmnfocaaDoor

/-
  Arena, plain: where nodes lead. No condition.
-/
namespace Go.Proofs.YtaldgcnhmnfocaaDoor
open Go.RowKit

/-- a number leads to another one -/
inductive Rch (s : List Nd) (a : Nat) : Nat → Prop where
  | refl : Rch s a a
  | step {i : Nat} {c : Nat} {nd : Nd} : Rch s a (i + 1) → s[i]? = some nd → c ∈ nd.ids → Rch s a c
theorem Rch.pre {s s' : List Nd} (hp : s <+: s') {a b : Nat} (h : Rch s a b) : Rch s' a b := by
  induction h with
  | refl => exact .refl
  | step _ h1 h2 ih =>
    obtain ⟨r, rfl⟩ := hp
    obtain ⟨h3, rfl⟩ := List.getElem?_eq_some_iff.1 h1
    exact .step ih (by rw [List.getElem?_append_left h3]; exact h1) h2
theorem Rch.trans {s : List Nd} {a b c : Nat} (h : Rch s a b) (k : Rch s b c) : Rch s a c := by
  induction k with
  | refl => exact h
  | step _ h1 h2 ih => exact .step ih h1 h2
theorem Rch.le {s : List Nd} (hg : Good s) {a b : Nat} (h : Rch s a b) : b ≤ a := by
  induction h with
  | refl => exact Nat.le_refl _
  | step _ h1 h2 ih =>
    obtain ⟨h3, rfl⟩ := List.getElem?_eq_some_iff.1 h1
    have := (hg _ h3).ids _ h2
    omega
theorem aNode_rch {t : Tm} (hf : Fit t) {p : List Nd × List Nat} (h : Good p.1) (hl : p.2.length = t.args.length) {m : Nat} (hr : ∀ j, m < j → j ≤ p.1.length → ∃ a ∈ p.2, Rch p.1 a j) :
    ∀ j, m < j → j ≤ (aNode t p).1.length → Rch (aNode t p).1 (aNode t p).2 j := by
  obtain ⟨i, nd, e1, e2, e3, e4, _⟩ := aNode_at hf h hl
  have hpre := aNode_pre t p
  have hlen := (aNode_id t p).2.2
  intro j hj1 hj2
  by_cases hj : j ≤ p.1.length
  · obtain ⟨a, ha, hra⟩ := hr j hj1 hj
    rw [e1]
    exact (Rch.step .refl e2 (by rw [e4]; exact ha)).trans (hra.pre hpre)
  · have hje : j = p.1.length + 1 := by omega
    have : (aNode t p).2 = p.1.length + 1 := by
      unfold aNode at hj2 ⊢
      split
      · rename_i i' hk
        rw [hk] at hj2
        simp only at hj2
        omega
      · rfl
    rw [this, hje]
    exact .refl
mutual
/-- all that is new is led to -/
theorem aHold_rch : ∀ (t : Tm) (s : List Nd), Good s → Fit t → ∀ j, s.length < j → j ≤ (aHold t s).1.length → Rch (aHold t s).1 (aHold t s).2 j
  | .mk k n nm ls xs, s, hs, hf => by
    rw [aHold]
    exact aNode_rch hf (aHoldL_good xs s hs hf.parts.2.2.1) (aHoldL_ids xs s).1 (aHoldL_rch xs s hs hf.parts.2.2.1)
theorem aHoldL_rch : ∀ (ts : List Tm) (s : List Nd), Good s → (∀ t ∈ ts, Fit t) → ∀ j, s.length < j → j ≤ (aHoldL ts s).1.length → ∃ a ∈ (aHoldL ts s).2, Rch (aHoldL ts s).1 a j
  | [], s, _, _, j, h1, h2 => by
    have h2 : j ≤ s.length := h2
    omega
  | t :: ts, s, hs, hf, j, h1, h2 => by
    rw [aHoldL] at h2 ⊢
    simp only at h2 ⊢
    by_cases hj : j ≤ (aHold t s).1.length
    · exact ⟨_, List.mem_cons_self, (aHold_rch t s hs (hf t (by simp)) j h1 hj).pre (aHoldL_pre ts _)⟩
    · obtain ⟨a, ha, hr⟩ := aHoldL_rch ts (aHold t s).1 (aHold_good t s hs (hf t (by simp))) (fun u hu => hf u (List.mem_cons_of_mem _ hu)) j (by omega) h2
      exact ⟨a, List.mem_cons_of_mem _ ha, hr⟩
end
/-- in an arena of its own a term is the last node -/
theorem aHold_last {t : Tm} (hf : Fit t) : (aHold t []).2 = (aHold t []).1.length := by
  have hs : Good [] := fun i h => absurd h (by simp)
  obtain ⟨h1, h2⟩ := aHoldL_ids t.args []
  have hg := aHoldL_good t.args [] hs hf.parts.2.2.1
  have hr := aHoldL_rch t.args [] hs hf.parts.2.2.1
  rw [aHold_eq]
  generalize aHoldL t.args [] = p at *
  unfold aNode
  cases hk : idAt p.1 (mkKy t p.2) with
  | none => simp
  | some i =>
    exfalso
    obtain ⟨hi, e⟩ := idAt_some hk
    obtain ⟨_, e2, _⟩ := key_node (hg i hi) hf h1 e
    obtain ⟨a, ha, hra⟩ := hr (i + 1) (by simp) hi
    have h3 := hra.le hg
    have h4 := (hg i hi).ids a (by rw [e2]; exact ha)
    omega
/-- a term whose parts are the last node is a node more -/
theorem aNode_new {s : List Nd} (hg : Good s) {t : Tm} (hf : Fit t) {ids : List Nat} (hl : ids.length = t.args.length) (hne : s.length ∈ ids) : aNode t (s, ids) = (s ++ [mkNd t ids], s.length + 1) := by
  unfold aNode
  cases hk : idAt s (mkKy t ids) with
  | none => rfl
  | some i =>
    exfalso
    obtain ⟨hi, e⟩ := idAt_some hk
    obtain ⟨_, e2, _⟩ := key_node (hg i hi) hf hl e
    have h4 := (hg i hi).ids s.length (by rw [e2]; exact hne)
    omega

/-! a walk -/
def ndZ : Nd := ⟨⟨0, 0, [], 0, 0, 0⟩, tmZ, 0, 0⟩
def idsOf (s : List Nd) (id : Nat) : List Nat := (s.getD (id - 1) ndZ).ids
def rchP (s : List Nd) : Nat → Nat → List Nat → List Nat
  | 0, id, σ => σ ++ [id]
  | N + 1, id, σ => if id ∈ σ then σ ++ [id] else (idsOf s id).foldl (fun σ k => rchP s N k σ) (σ ++ [id])
theorem rchP_yes {s : List Nd} {N id : Nat} {σ : List Nat} (h : id ∈ σ) : rchP s N id σ = σ ++ [id] := by
  cases N with
  | zero => rfl
  | succ N => rw [rchP, if_pos h]
theorem rchP_no {s : List Nd} {N id : Nat} {σ : List Nat} (h : id ∉ σ) : rchP s (N + 1) id σ = (idsOf s id).foldl (fun σ k => rchP s N k σ) (σ ++ [id]) := by rw [rchP, if_neg h]
theorem idsOf_le {s : List Nd} (hg : Good s) {id : Nat} (h1 : 1 ≤ id) (h2 : id ≤ s.length) : (idsOf s id).length ≤ 3 ∧ ∀ a ∈ idsOf s id, 1 ≤ a ∧ a < id := by
  have hi : id - 1 < s.length := by omega
  unfold idsOf
  rw [List.getD_eq_getElem?_getD, List.getElem?_eq_getElem hi, Option.getD_some]
  refine ⟨by unfold Nd.ids; rw [List.length_take]; simp; omega, fun a ha => ?_⟩
  have := (hg (id - 1) hi).ids a ha
  omega
/-- what a visit does -/
structure Visit (n id : Nat) (σ τ : List Nat) : Prop where
  sub : ∀ x ∈ σ, x ∈ τ
  own : id ∈ τ
  new : ∀ x ∈ τ, x ∈ σ ∨ (1 ≤ x ∧ x ≤ id)
def Shut' (s : List Nd) (m : Nat) (σ : List Nat) : Prop := ∀ x ∈ σ, x < m → ∀ a ∈ idsOf s x, a ∈ σ
theorem visit_all {s : List Nd} (hg : Good s) : ∀ (N id : Nat) (σ : List Nat), id ≤ N → 1 ≤ id → id ≤ s.length → Shut' s (id + 1) σ → Visit s.length id σ (rchP s N id σ) ∧ Shut' s (id + 1) (rchP s N id σ) := by
  intro N
  induction N with
  | zero => intro id σ h1 h2; omega
  | succ N ih =>
    intro id σ hN h1 h2 hs
    by_cases hm : id ∈ σ
    · rw [rchP_yes hm]
      refine ⟨⟨fun x hx => List.mem_append_left _ hx, List.mem_append_left _ hm, fun x hx => ?_⟩, fun x hx hlt a ha => ?_⟩
      · rcases List.mem_append.1 hx with hx | hx
        · exact Or.inl hx
        · rw [List.mem_singleton] at hx; subst hx; exact Or.inl hm
      · have hx' : x ∈ σ := by
          rcases List.mem_append.1 hx with hx | hx
          · exact hx
          · rw [List.mem_singleton] at hx; subst hx; exact hm
        exact List.mem_append_left _ (hs x hx' hlt a ha)
    · rw [rchP_no hm]
      obtain ⟨_, hids⟩ := idsOf_le hg h1 h2
      have key : ∀ (ks : List Nat) (τ : List Nat), (∀ a ∈ ks, a ∈ idsOf s id) → Shut' s id τ → (∀ x ∈ τ, x ∈ ks.foldl (fun σ k => rchP s N k σ) τ) ∧ (∀ a ∈ ks, a ∈ ks.foldl (fun σ k => rchP s N k σ) τ) ∧ (∀ x ∈ ks.foldl (fun σ k => rchP s N k σ) τ, x ∈ τ ∨ (1 ≤ x ∧ x < id)) ∧ Shut' s id (ks.foldl (fun σ k => rchP s N k σ) τ) := by
        intro ks
        induction ks with
        | nil => exact fun τ _ h => ⟨fun x hx => hx, nofun, fun x hx => Or.inl hx, h⟩
        | cons k ks ihk =>
          intro τ hin hτ
          have hk := hids k (hin k (by simp))
          obtain ⟨v1, v2⟩ := ih k τ (by omega) hk.1 (by omega) (fun x hx hlt => hτ x hx (by omega))
          have hτ2 : Shut' s id (rchP s N k τ) := fun x hx hlt a ha => by
            rcases v1.new x hx with h | h
            · exact v1.sub a (hτ x h hlt a ha)
            · exact v2 x hx (by omega) a ha
          obtain ⟨g1, g2, g3, g4⟩ := ihk (rchP s N k τ) (fun a ha => hin a (List.mem_cons_of_mem _ ha)) hτ2
          rw [List.foldl_cons]
          refine ⟨fun x hx => g1 x (v1.sub x hx), fun a ha => ?_, fun x hx => ?_, g4⟩
          · rcases List.mem_cons.1 ha with rfl | ha
            · exact g1 _ v1.own
            · exact g2 a ha
          · rcases g3 x hx with h | h
            · rcases v1.new x h with h | h
              · exact Or.inl h
              · exact Or.inr ⟨h.1, by omega⟩
            · exact Or.inr h
      have hs1 : Shut' s id (σ ++ [id]) := fun x hx hlt a ha => by
        rcases List.mem_append.1 hx with hx | hx
        · exact List.mem_append_left _ (hs x hx (by omega) a ha)
        · rw [List.mem_singleton] at hx; omega
      obtain ⟨g1, g2, g3, g4⟩ := key (idsOf s id) (σ ++ [id]) (fun a h => h) hs1
      refine ⟨⟨fun x hx => g1 x (List.mem_append_left _ hx), g1 _ (by simp), fun x hx => ?_⟩, fun x hx hlt a ha => ?_⟩
      · rcases g3 x hx with h | h
        · rcases List.mem_append.1 h with h | h
          · exact Or.inl h
          · rw [List.mem_singleton] at h; exact Or.inr ⟨by omega, by omega⟩
        · exact Or.inr ⟨h.1, by omega⟩
      · by_cases hxi : x = id
        · subst hxi; exact g2 a ha
        · exact g4 x hx (by omega) a ha
/-- how far it goes -/
def freeR (n : Nat) (σ : List Nat) : Nat := ((List.range' 1 n).filter fun x => !decide (x ∈ σ)).length
theorem freeR_same {n : Nat} {σ τ : List Nat} (h : ∀ x, x ∈ τ ↔ x ∈ σ) : freeR n τ = freeR n σ := by
  unfold freeR
  congr 1
  refine List.filter_congr fun x _ => ?_
  rw [decide_eq_decide.2 (h x)]
theorem freeR_cut {n id : Nat} {σ : List Nat} (h1 : 1 ≤ id) (h2 : id ≤ n) (h : id ∉ σ) : freeR n (σ ++ [id]) + 1 = freeR n σ := by
  unfold freeR
  have hm : id ∈ List.range' 1 n := by rw [List.mem_range'_1]; omega
  have hn : (List.range' 1 n).Nodup := List.nodup_range'
  generalize List.range' 1 n = l at hm hn
  induction l with
  | nil => cases hm
  | cons a l ih =>
    rw [List.nodup_cons] at hn
    rw [List.filter_cons, List.filter_cons]
    by_cases ha : a = id
    · subst ha
      have e : l.filter (fun x => !decide (x ∈ σ ++ [a])) = l.filter fun x => !decide (x ∈ σ) := List.filter_congr fun x hx => by
        have : x ≠ a := by rintro rfl; exact hn.1 hx
        simp [this]
      rw [e]
      simp [h]
    · have := ih ((List.mem_cons.1 hm).resolve_left (Ne.symm ha)) hn.2
      have e1 : decide (a ∈ σ ++ [id]) = decide (a ∈ σ) := decide_eq_decide.2 (by simp [ha])
      rw [e1]
      by_cases hs : a ∈ σ
      · rw [decide_eq_true hs, if_neg (by simp), if_neg (by simp)]
        exact this
      · rw [decide_eq_false hs, if_pos (by simp), if_pos (by simp), List.length_cons, List.length_cons]
        omega
theorem rchP_pot {s : List Nd} (hg : Good s) : ∀ (N id : Nat) (σ : List Nat), id ≤ N → 1 ≤ id → id ≤ s.length → (rchP s N id σ).length + 3 * freeR s.length (rchP s N id σ) ≤ σ.length + 3 * freeR s.length σ + 1 := by
  intro N
  induction N with
  | zero => intro id σ h1 h2; omega
  | succ N ih =>
    intro id σ hN h1 h2
    by_cases hm : id ∈ σ
    · rw [rchP_yes hm, freeR_same (σ := σ) (fun x => by simp only [List.mem_append, List.mem_singleton]; exact ⟨fun h => h.elim (fun h => h) fun h => h ▸ hm, Or.inl⟩), List.length_append]
      simp only [List.length_cons, List.length_nil]
      omega
    · rw [rchP_no hm]
      obtain ⟨hl, hids⟩ := idsOf_le hg h1 h2
      have key : ∀ (ks : List Nat) (τ : List Nat), (∀ a ∈ ks, a ∈ idsOf s id) → (ks.foldl (fun σ k => rchP s N k σ) τ).length + 3 * freeR s.length (ks.foldl (fun σ k => rchP s N k σ) τ) ≤ τ.length + 3 * freeR s.length τ + ks.length := by
        intro ks
        induction ks with
        | nil => exact fun τ _ => Nat.le_refl _
        | cons k ks ihk =>
          intro τ hin
          have hk := hids k (hin k (by simp))
          have g1 := ih k τ (by omega) hk.1 (by omega)
          have g2 := ihk (rchP s N k τ) fun a ha => hin a (List.mem_cons_of_mem _ ha)
          rw [List.foldl_cons, List.length_cons]
          omega
      have g := key (idsOf s id) (σ ++ [id]) fun a h => h
      have hc := freeR_cut h1 h2 hm
      rw [List.length_append] at g
      simp only [List.length_cons, List.length_nil] at g
      omega
theorem freeR_le (n : Nat) (σ : List Nat) : freeR n σ ≤ n := by
  unfold freeR
  have := List.length_filter_le (fun x => !decide (x ∈ σ)) (List.range' 1 n)
  rw [List.length_range'] at this
  exact this
/-- all that a number leads to -/
def rchAll (s : List Nd) (id : Nat) : List Nat := rchP s id id []
theorem rchAll_le {s : List Nd} (hg : Good s) {id : Nat} (h1 : 1 ≤ id) (h2 : id ≤ s.length) : (firsts (rchAll s id)).length ≤ id := by
  obtain ⟨v, _⟩ := visit_all hg id id [] (Nat.le_refl _) h1 h2 nofun
  obtain ⟨f1, f2⟩ := firsts_spec (rchAll s id)
  have := f1.length_le_of_subset (l₂ := List.range' 1 id) fun x hx => by
    rcases v.new x ((f2 x).1 hx) with h | h
    · cases h
    · rw [List.mem_range'_1]; omega
  rwa [List.length_range'] at this
theorem rchAll_eq {s : List Nd} (hg : Good s) {id : Nat} (h1 : 1 ≤ id) (h2 : id ≤ s.length) (hr : ∀ j, 1 ≤ j → j ≤ id → Rch s id j) : (firsts (rchAll s id)).length = id := by
  obtain ⟨v, c⟩ := visit_all hg id id [] (Nat.le_refl _) h1 h2 nofun
  obtain ⟨f1, f2⟩ := firsts_spec (rchAll s id)
  have hin : ∀ j, Rch s id j → j ∈ rchAll s id := by
    intro j hj
    induction hj with
    | refl => exact v.own
    | step h3 h4 h5 ih =>
      have hle := h3.le hg
      refine c _ ih (by omega) _ ?_
      unfold idsOf
      rw [Nat.add_sub_cancel, List.getD_eq_getElem?_getD, h4]
      exact h5
  refine Nat.le_antisymm (rchAll_le hg h1 h2) ?_
  have hnd : (List.range' 1 id).Nodup := List.nodup_range'
  have := hnd.length_le_of_subset (l₂ := firsts (rchAll s id)) fun x hx => by
    rw [List.mem_range'_1] at hx
    exact (f2 x).2 (hin x (hr x hx.1 (by omega)))
  rwa [List.length_range'] at this
end Go.Proofs.YtaldgcnhmnfocaaDoor

/-
  Arenas: New, Count, node, Kind, Arg, Loose. No condition.
-/
namespace Go.Proofs.YtaldgcnhmnfocaaDoor
open Go.RowKit

def ndC (nd : Nd) : List AV := [.i nd.key.k, .i nd.key.n, .str nd.key.w, .i (nd.key.a : Nat), .i (nd.key.b : Nat), .i (nd.key.c : Nat), .i nd.t.kind, .i nd.t.n, .str nd.t.name, .sl .no 3 (nd.t.levels.map lvA), .sl .no 5 (nd.t.args.map tmA), .i (nd.count : Nat), .i nd.loose]
def ndA (nd : Nd) : AV := .agg (ndC nd)
/-- the map's entries -/
def aEs : Nat → List Nd → List (Nat × AV × AV)
  | _, [] => []
  | n, nd :: s => (n, kyA nd.key, .i ((n + 1 : Nat) : Int)) :: aEs (n + 1) s
theorem aEs_find (k : Ky) : ∀ (s : List Nd) (n : Nat), mpFind (kyA k) (aEs n s) = (idAt s k).map fun i => (n + i, .i ((n + i + 1 : Nat) : Int))
  | [], _ => rfl
  | nd :: s, n => by
    have ih := aEs_find k s (n + 1)
    rw [aEs, mpFind, ky_eq]
    unfold idAt at ih ⊢
    rw [List.findIdx?_cons]
    by_cases h : nd.key = k
    · rw [decide_eq_true h.symm, decide_eq_true h]
      rfl
    · rw [decide_eq_false (Ne.symm h), decide_eq_false h, cond_false, ih]
      simp only [Bool.false_eq_true, if_false]
      cases s.findIdx? fun nd => decide (nd.key = k) with
      | none => rfl
      | some i => simp only [Option.map_some]; rw [show n + 1 + i = n + (i + 1) by omega]
theorem aEs_app : ∀ (s : List Nd) (nd : Nd) (n : Nat), aEs n (s ++ [nd]) = aEs n s ++ [(n + s.length, kyA nd.key, .i ((n + s.length + 1 : Nat) : Int))]
  | [], nd, n => rfl
  | x :: s, nd, n => by
    rw [List.cons_append, aEs, aEs_app s nd (n + 1), aEs, List.length_cons, List.cons_append]
    rw [show n + 1 + s.length = n + (s.length + 1) by omega]
theorem aEs_put {s : List Nd} {nd : Nd} (h : idAt s nd.key = none) {z : Int} (hz : z = ((s.length + 1 : Nat) : Int)) : mpPut (kyA nd.key) (.i z) (aEs 0 s) s.length = (aEs 0 (s ++ [nd]), (s ++ [nd]).length) := by
  subst hz
  unfold mpPut
  rw [aEs_find, h, aEs_app, List.length_append]
  simp only [Option.map_none, Nat.zero_add]
  rfl
theorem aEs_keys (k : Ky) (s : List Nd) : KeysP Tryd.prog 54 (.struct []) (kyA k) (aEs 0 s) := by
  refine ⟨isKy, kyLaw, ⟨k, rfl⟩, ?_⟩
  have : ∀ (s : List Nd) (n : Nat), ∀ p ∈ aEs n s, isKy p.2.1 := by
    intro s
    induction s with
    | nil => intro n p hp; cases hp
    | cons nd s ih =>
      intro n p hp
      rcases List.mem_cons.1 hp with rfl | hp
      · exact ⟨nd.key, rfl⟩
      · exact ih _ p hp
  exact this s 0
/-- an arena -/
structure Ar where
  ab : Nat
  bm : Nat
  most : Int
  s : List Nd
  q : Option Cap
def Ar.O (a : Ar) : Heap := [(a.ab, .cells [.i a.most, .sl (ownQ a.q) 13 (a.s.map ndA), .mp a.bm]), (a.bm, .mp (aEs 0 a.s) a.s.length)]
def HasA (a : Ar) (X H : Heap) : Prop := H.Perm (bufH a.q (a.O ++ X))
theorem bufH_mem {q : Option Cap} {R : Heap} {p : Nat × AObj} (h : p ∈ R) : p ∈ bufH q R := by
  cases q with
  | none => exact h
  | some c => exact List.mem_cons_of_mem _ h
section
variable {a : Ar} {X H : Heap}
theorem HasA.st (h : HasA a X H) : (a.ab, AObj.cells [.i a.most, .sl (ownQ a.q) 13 (a.s.map ndA), .mp a.bm]) ∈ H := h.mem_iff.2 (bufH_mem List.mem_cons_self)
theorem HasA.mp (h : HasA a X H) : (a.bm, AObj.mp (aEs 0 a.s) a.s.length) ∈ H := h.mem_iff.2 (bufH_mem (List.mem_cons_of_mem _ List.mem_cons_self))
theorem bufH_cons (q : Option Cap) (p : Nat × AObj) (R : Heap) : (bufH q (p :: R)).Perm (p :: bufH q R) := by
  cases q with
  | none => exact List.Perm.refl _
  | some c => exact List.Perm.swap _ _ _
theorem HasA.cons (h : HasA a X H) (p : Nat × AObj) : HasA a (p :: X) (p :: H) := by
  have h1 : (p :: H).Perm (p :: bufH a.q (a.O ++ X)) := List.Perm.cons p h
  refine h1.trans ((bufH_cons _ _ _).symm.trans ?_)
  cases a.q with
  | none => exact List.perm_middle.symm
  | some c => exact List.Perm.cons _ List.perm_middle.symm
theorem nds_len (s : List Nd) : (s.map ndA).length = s.length := List.length_map _
theorem nds_at {s : List Nd} {k : Nat} (h : k < s.length) : (s.map ndA)[k]? = some (ndA s[k]) := by simp [h]
/-- objects that are at least others, behind a call -/
theorem Con.hle {P : Program} {f : FuncId} {args : List AV} {H : Heap} {Q : AV → Heap → Prop} (h : Con P f args H fun r H' => ∃ H2, HLe H' H2 ∧ Q r H2) : Con P f args H Q :=
  fun M w vs h0 h1 h2 => (h M w vs h0 h1 h2).mono fun v w' ⟨M', r, H', a, b, c, d, H2, ⟨H3, e1, e2⟩, e3⟩ =>
    ⟨M', r, H2, a, ⟨b.mem, e2.objs (fun k x hx => b.obj k x (e1.subset hx)), by rw [e2.keys]; exact b.nodup.sublist (e1.map _)⟩, fun k hk => c k (by rw [e2.keys] at hk; exact (e1.map _).subset hk), d, e3⟩
set_option maxRecDepth 100000 in
theorem arNew_con (most : Int) (h1 : 1 ≤ most) (h2 : most ≤ 1048576) {Q : AV → Heap → Prop} (hq : ∀ ab bm H', HasA ⟨ab, bm, most, [], none⟩ H H' → Q (.tup [.ptr ab 0, .i 0]) H') : Con Tryd.prog 8 [.i most] H Q := by
  refine Con.hle ?_
  refine con_of_awp (esc := ([13].contains ·)) tab_ok mixed Tryd.func8 rfl (ent Tryd.func8 (by kernel_rfl) rfl) (by kernel_rfl) ?_
  intro hw hn
  clear hw hn
  refine ifB_f (show ¬ most < 1 by omega) ?_
  refine ifB_f (show ¬ 1048576 < most by omega) ?_
  intro bm hbm
  intro ab hab
  refine ⟨_, _, Le.refl _, List.Sublist.refl _, _, ?_, hq ab bm _ (List.Perm.refl _)⟩
  exact HLe.here ⟨Le.refl _, Le.nil' _, Le.refl _, trivial⟩ (HLe.refl _)
set_option maxRecDepth 100000 in
theorem arCount_con (h : HasA a X H) {Q : AV → Heap → Prop} (hq : Q (.i (a.s.length : Nat)) H) : Con Tryd.prog 10 [.ptr a.ab 0] H Q := by
  have hl := nds_len a.s
  refine con_of_awp (esc := fun _ => false) tab_ok mixed Tryd.func10 rfl (ent Tryd.func10 (by kernel_rfl) rfl) (by kernel_rfl) ?_
  intro hw hn
  clear hw hn
  refine ⟨_, h.st, ?_⟩
  exact ⟨_, H, ret_i (congrArg Int.ofNat hl), List.Sublist.refl _, hq⟩
set_option maxRecDepth 100000 in
theorem arNode_con (h : HasA a X H) (hs : a.s.length ≤ 1000000000) (id : Int) {Q : AV → Heap → Prop} (h0 : (id < 1 ∨ (a.s.length : Int) < id) → Q (.tup [ndA ndZ, .b false]) H)
    (h1 : ∀ (k : Nat) (hk : k < a.s.length), id = ((k + 1 : Nat) : Int) → Q (.tup [ndA a.s[k], .b true]) H) : Con Tryd.prog 24 [.ptr a.ab 0, .i id] H Q := by
  have hl := nds_len a.s
  have hz : Le (.tup [.agg [.i 0, .i 0, .str [], .i 0, .i 0, .i 0, .i 0, .i 0, .str [], .sl .full 0 [], .sl .full 0 [], .i 0, .i 0], .b false]) (.tup [ndA ndZ, .b false]) :=
    Le.tup ⟨Le.agg ⟨Le.refl _, Le.refl _, Le.refl _, Le.refl _, Le.refl _, Le.refl _, Le.refl _, Le.refl _, Le.refl _, Le.nil _ _, Le.nil _ _, Le.refl _, Le.refl _, trivial⟩, Le.refl _, trivial⟩
  refine con_of_awp (esc := fun _ => false) tab_ok mixed Tryd.func24 rfl (ent Tryd.func24 (by kernel_rfl) rfl) (by kernel_rfl) ?_
  intro hw hn
  clear hw hn
  refine ifB_dec (fun g1 => ?_) (fun g1 => ?_)
  · exact ⟨_, H, hz, List.Sublist.refl _, h0 (Or.inl g1)⟩
  · refine ⟨_, h.st, ?_⟩
    refine ifB_dec (fun g2 => ?_) (fun g2 => ?_)
    · exact ⟨_, H, hz, List.Sublist.refl _, h0 (Or.inr (by omega))⟩
    · obtain ⟨k, hk⟩ : ∃ k : Nat, id = ((k + 1 : Nat) : Int) := ⟨(id - 1).toNat, by omega⟩
      have hlt : k < a.s.length := by omega
      refine ⟨_, h.st, ?_⟩
      refine ⟨in64_of (by first | omega | (dsimp only; omega)) (by first | omega | (dsimp only; omega)), ?_⟩
      refine ⟨k, (by omega), _, nds_at hlt, ?_⟩
      exact ⟨_, H, Le.refl _, List.Sublist.refl _, h1 k hlt hk⟩
set_option maxRecDepth 100000 in
theorem arKind_con (h : HasA a X H) (hs : a.s.length ≤ 1000000000) {k : Nat} (hk : k < a.s.length) {Q : AV → Heap → Prop} (hq : Q (.i a.s[k].key.k) H) : Con Tryd.prog 12 [.ptr a.ab 0, .i ((k + 1 : Nat) : Int)] H Q := by
  refine con_of_awp (esc := fun _ => false) tab_ok mixed Tryd.func12 rfl (ent Tryd.func12 (by kernel_rfl) rfl) (by kernel_rfl) ?_
  intro hw hn
  clear hw hn
  refine ⟨_, LeL.refl _, arNode_con h hs _ (fun h => absurd h (by omega)) fun j hj e => ?_⟩
  obtain rfl : k = j := by omega
  intro hz1 hz2; clear hz1 hz2
  exact ⟨_, H, Le.refl _, List.Sublist.refl _, hq⟩
set_option maxRecDepth 100000 in
theorem arLoose_con (h : HasA a X H) (hs : a.s.length ≤ 1000000000) {k : Nat} (hk : k < a.s.length) {Q : AV → Heap → Prop} (hq : Q (.i a.s[k].loose) H) : Con Tryd.prog 19 [.ptr a.ab 0, .i ((k + 1 : Nat) : Int)] H Q := by
  refine con_of_awp (esc := fun _ => false) tab_ok mixed Tryd.func19 rfl (ent Tryd.func19 (by kernel_rfl) rfl) (by kernel_rfl) ?_
  intro hw hn
  clear hw hn
  refine ⟨_, LeL.refl _, arNode_con h hs _ (fun h => absurd h (by omega)) fun j hj e => ?_⟩
  obtain rfl : k = j := by omega
  intro hz1 hz2; clear hz1 hz2
  exact ⟨_, H, Le.refl _, List.Sublist.refl _, hq⟩
/-- a part's number -/
def argI (nd : Nd) (at' : Int) : Nat := if at' < 0 ∨ (nd.count : Int) ≤ at' then 0 else nd.arg at'.toNat
set_option maxRecDepth 100000 in
set_option maxHeartbeats 1000000 in
theorem arArg_con (h : HasA a X H) (hs : a.s.length ≤ 1000000000) {k : Nat} (hk : k < a.s.length) (hc : a.s[k].count ≤ 3) (z : Int) {Q : AV → Heap → Prop} (hq : Q (.i (argI a.s[k] z : Nat)) H) : Con Tryd.prog 13 [.ptr a.ab 0, .i ((k + 1 : Nat) : Int), .i z] H Q := by
  unfold argI at hq
  refine con_of_awp (esc := fun _ => false) tab_ok mixed Tryd.func13 rfl (ent Tryd.func13 (by kernel_rfl) rfl) (by kernel_rfl) ?_
  intro hw hn
  clear hw hn
  refine ⟨_, LeL.refl _, arNode_con h hs _ (fun h => absurd h (by omega)) fun j hj e => ?_⟩
  obtain rfl : k = j := by omega
  intro hz1 hz2; clear hz1 hz2
  refine ifB_dec (fun g1 => ?_) (fun g1 => ?_)
  · rw [if_pos (Or.inl g1)] at hq
    exact ⟨_, H, Le.refl _, List.Sublist.refl _, hq⟩
  · refine ifB_dec (fun g2 => ?_) (fun g2 => ?_)
    · rw [if_pos (Or.inr g2)] at hq
      exact ⟨_, H, Le.refl _, List.Sublist.refl _, hq⟩
    · rw [if_neg (by omega)] at hq
      have hz : z = 0 ∨ z = 1 ∨ z = 2 := by omega
      rcases hz with rfl | rfl | rfl
      · refine ⟨0, rfl, by decide, ?_⟩
        exact ⟨_, H, Le.refl _, List.Sublist.refl _, hq⟩
      · refine ⟨1, rfl, by decide, ?_⟩
        exact ⟨_, H, Le.refl _, List.Sublist.refl _, hq⟩
      · refine ⟨2, rfl, by decide, ?_⟩
        exact ⟨_, H, Le.refl _, List.Sublist.refl _, hq⟩
end
end Go.Proofs.YtaldgcnhmnfocaaDoor

/-
  Arenas: hold, Hold. No condition.
-/
namespace Go.Proofs.YtaldgcnhmnfocaaDoor
open Go.RowKit

theorem hle_at {b : Nat} {x y : AObj} {H H' : Heap} (h : Heap.At b x y H H') (hl : AObj.le x y) : HLe H H' := by
  induction h with
  | here => exact ⟨_, List.Sublist.refl _, rfl, hl, Heap.w.refl _⟩
  | there _ ih => exact HLe.cons _ ih
theorem own_ofP' {q : Option Cap} {H0 HH : Heap} {b : Bool} {R1 : Cap → Prop} {R : Cap → Heap → Prop} (hH : HH.Perm (bufH q H0)) (hb : b = true) (hR : ∀ c, R c HH → R1 c) (h : ∀ (c : Cap) (H1 : Heap), H1.Perm H0 → R c H1) :
    (match ownQ q with
      | .no => False
      | .full => ∀ c : Cap, c.b ∉ HH.keys → R1 c
      | .own c0 => bif b then (∃ H0, Heap.Rem (c0.b, .cap c0) HH H0 ∧ ∀ c : Cap, c.b ∉ H0.keys → R c H0) else False) := by
  subst hb
  cases q with
  | none => exact fun c hc => hR c (h c HH hH)
  | some c0 =>
    have hm : (c0.b, AObj.cap c0) ∈ HH := hH.mem_iff.2 List.mem_cons_self
    obtain ⟨A, B, rfl⟩ := List.append_of_mem hm
    have hp : (A ++ B).Perm H0 := (List.perm_middle.symm.trans hH).cons_inv
    refine ⟨A ++ B, ?_, fun c _ => h c _ hp⟩
    clear hH hm hR h hp
    induction A with
    | nil => exact .here
    | cons p A ih => exact .there ih
theorem atP {b : Nat} {x y : AObj} {H R : Heap} (h : H.Perm ((b, x) :: R)) : ∃ H', Heap.At b x y H H' ∧ H'.Perm ((b, y) :: R) := by
  have hm : (b, x) ∈ H := h.mem_iff.2 List.mem_cons_self
  obtain ⟨A, B, rfl⟩ := List.append_of_mem hm
  refine ⟨A ++ (b, y) :: B, ?_, List.perm_middle.trans (List.Perm.cons _ (List.perm_middle.symm.trans h).cons_inv)⟩
  clear h hm
  induction A with
  | nil => exact .here
  | cons p A ih => exact .there ih
theorem HasA.top {a : Ar} {X H : Heap} (h : HasA a X H) : H.Perm ((a.ab, .cells [.i a.most, .sl (ownQ a.q) 13 (a.s.map ndA), .mp a.bm]) :: bufH a.q ((a.bm, .mp (aEs 0 a.s) a.s.length) :: X)) := by
  have h1 : H.Perm (bufH a.q ((a.ab, .cells [.i a.most, .sl (ownQ a.q) 13 (a.s.map ndA), .mp a.bm]) :: (a.bm, .mp (aEs 0 a.s) a.s.length) :: X)) := h
  exact h1.trans (bufH_cons _ _ _)
/-- a slice of one's own that grows, and the object that takes it -/
theorem own_ofS {q : Option Cap} {H0 HH : Heap} {ab : Nat} {x : AObj} {b : Bool} {R1 : Cap → Prop} {R : Cap → Heap → Prop} (y : Cap → AObj) (hH : HH.Perm (bufH q ((ab, x) :: H0))) (hb : b = true) (hR : ∀ c, R c HH → R1 c)
    (h : ∀ (c : Cap) (H1 H3 : Heap), (∀ p ∈ [(ab, x)], p ∈ (c.b, AObj.cap c) :: H1) → Heap.At ab x (y c) ((c.b, .cap c) :: H1) H3 → (ab, y c) ∈ H3 → H3.Perm ((c.b, AObj.cap c) :: (ab, y c) :: H0) → R c H1) :
    (match ownQ q with
      | .no => False
      | .full => ∀ c : Cap, c.b ∉ HH.keys → R1 c
      | .own c0 => bif b then (∃ H0, Heap.Rem (c0.b, .cap c0) HH H0 ∧ ∀ c : Cap, c.b ∉ H0.keys → R c H0) else False) := by
  refine own_ofP' hH hb hR fun c H1 hp => ?_
  obtain ⟨H3, hat, hp3⟩ := atP (y := y c) ((List.Perm.cons (c.b, AObj.cap c) hp).trans (List.Perm.swap _ _ _))
  exact h c H1 H3 (fun p hx => by rw [List.mem_singleton.1 hx]; exact List.mem_cons_of_mem _ (hp.mem_iff.2 List.mem_cons_self)) hat (hp3.mem_iff.2 List.mem_cons_self) (hp3.trans (List.Perm.swap _ _ _))
/-- an arena that grows -/
theorem own_ofN {q : Option Cap} {X HH : Heap} {ab bm : Nat} {most : Int} {s : List Nd} {nd : Nd} {raw : AV} {b : Bool} {R1 : Cap → Prop} {R : Cap → Heap → Prop} (Fin : Heap → Prop) (hraw : LeL raw.cells (ndA nd).cells)
    (hfin : ∀ c H4 H5, HLe H4 H5 → HasA ⟨ab, bm, most, s ++ [nd], some c⟩ X H5 → Fin H4)
    (hH : HH.Perm (bufH q ((ab, .cells [.i most, .sl (ownQ q) 13 (s.map ndA), .mp bm]) :: (bm, .mp (aEs 0 s) s.length) :: X))) (hb : b = true) (hR : ∀ c, R c HH → R1 c)
    (h : ∀ (c : Cap) (H1 H3 H4 : Heap), (∀ p ∈ [(ab, AObj.cells [.i most, .sl (ownQ q) 13 (s.map ndA), .mp bm])], p ∈ (c.b, AObj.cap c) :: H1) →
      Heap.At ab (.cells [.i most, .sl (ownQ q) 13 (s.map ndA), .mp bm]) (.cells [.i most, .sl (.own c) 13 (s.map ndA ++ [raw]), .mp bm]) ((c.b, .cap c) :: H1) H3 →
      (∀ p ∈ [(ab, AObj.cells [.i most, .sl (.own c) 13 (s.map ndA ++ [raw]), .mp bm])], p ∈ H3) →
      Heap.At bm (.mp (aEs 0 s) s.length) (.mp (aEs 0 (s ++ [nd])) (s ++ [nd]).length) H3 H4 →
      (ab, AObj.cells [.i most, .sl (.own c) 13 (s.map ndA ++ [raw]), .mp bm]) ∈ H4 → Fin H4 → R c H1) :
    (match ownQ q with
      | .no => False
      | .full => ∀ c : Cap, c.b ∉ HH.keys → R1 c
      | .own c0 => bif b then (∃ H0, Heap.Rem (c0.b, .cap c0) HH H0 ∧ ∀ c : Cap, c.b ∉ H0.keys → R c H0) else False) := by
  refine own_ofS (fun c => .cells [.i most, .sl (.own c) 13 (s.map ndA ++ [raw]), .mp bm]) hH hb hR fun c H1 H3 k1 k2 k3 k4 => ?_
  have hp : H3.Perm ((bm, .mp (aEs 0 s) s.length) :: (ab, .cells [.i most, .sl (.own c) 13 (s.map ndA ++ [raw]), .mp bm]) :: (c.b, .cap c) :: X) := by
    refine k4.trans ?_
    refine (List.Perm.cons _ (List.Perm.swap _ _ _)).trans ?_
    refine (List.Perm.swap _ _ _).trans (List.Perm.cons _ (List.Perm.swap _ _ _))
  obtain ⟨H4, a4, p4⟩ := atP (y := .mp (aEs 0 (s ++ [nd])) (s ++ [nd]).length) hp
  have i4 : (ab, AObj.cells [.i most, .sl (.own c) 13 (s.map ndA ++ [raw]), .mp bm]) ∈ H4 := p4.mem_iff.2 (List.mem_cons_of_mem _ List.mem_cons_self)
  obtain ⟨H5, a5, p5⟩ := atP (y := .cells [.i most, .sl (.own c) 13 ((s ++ [nd]).map ndA), .mp bm]) (p4.trans (List.Perm.swap _ _ _))
  refine h c H1 H3 H4 k1 k2 (fun p hp => by rw [List.mem_singleton.1 hp]; exact k3) a4 i4 (hfin c H4 H5 (hle_at a5 ?_) ?_)
  · refine ⟨Le.refl _, ?_, Le.refl _, trivial⟩
    rw [List.map_append]
    exact Le.slO (LeE.append (LeE.refl _) ⟨hraw, trivial⟩)
  · exact p5.trans ((List.Perm.cons _ (List.Perm.swap _ _ _)).trans (List.Perm.swap _ _ _))
theorem len_two {α : Type} {l : List α} (h : l.length = 2) : ∃ x y, l = [x, y] := by
  match l, h with
  | [x, y], _ => exact ⟨x, y, rfl⟩
/-- a node as it is first written -/
def rawA (t : Tm) (ids : List Nat) : AV := .agg [.i t.kind, .i t.n, .str (tmW t), .i (ids.getD 0 0 : Nat), .i (ids.getD 1 0 : Nat), .i (ids.getD 2 0 : Nat), .i t.kind, .i t.n, .str t.name, .sl .no 3 (t.levels.map lvA), .sl .full 0 [], .i ((t.args.map tmA).length : Nat), .i (tmNeeds t)]
theorem Fit.nodes {t : Tm} {i : Nat} (h : i < t.args.length) : t.args[i].nodes < t.nodes := by
  have := Tm.nodesL_mem (List.getElem_mem h)
  have := t.nodes_eq
  omega
set_option maxRecDepth 100000 in
set_option maxHeartbeats 4000000 in
theorem hold_con : ∀ (N : Nat) (t : Tm) (a : Ar) (X H : Heap) (Q : AV → Heap → Prop), t.nodes ≤ N → t.nodes ≤ 2000 → Fit t → HasA a X H → Good a.s → (a.s.length : Int) + t.nodes ≤ a.most → a.most ≤ 1048576 →
    (∀ q' H', HasA ⟨a.ab, a.bm, a.most, (aHold t a.s).1, q'⟩ X H' → Q (.i ((aHold t a.s).2 : Nat)) H') → Con Tryd.prog 23 [.ptr a.ab 0, tmX t] H Q := by
  intro N
  induction N with
  | zero => intro t _ _ _ _ h; have := t.nodes_pos; omega
  | succ N ih =>
    intro t a X H Q hN hN2 hf hA hg hm1 hm2 hq
    have hfp := hf.parts
    have hne := t.nodes_eq
    have har := arity_le t.kind
    have hal := hfp.1
    have hlm : Lv.nodesL t.levels ≤ 1000000 := by omega
    refine Con.hle ?_
    refine con_of_awp (esc := fun _ => false) tab_ok mixed Tryd.func23 rfl (ent Tryd.func23 (by kernel_rfl) rfl) (by kernel_rfl) ?_
    intro hw hn
    clear hw hn
    refine ⟨[0, 1, 2, 3, 4, 7, 5, 6, 8], [], by kernel_rfl, by simp, ?_⟩
    refine ⟨_, LeL.refl _, words_con 4 (Int.le_refl 4) t (by omega) hfp.2.1.lvs hlm _ _ ?_⟩
    intro hz1 hz2; clear hz1 hz2
    refine ⟨Nat × Option Cap × Heap, fun x => ⟨[(0, .g (.ptr a.ab 0)), (3, .lp 3 0), (4, .g (.i 0)), (5, .lp 5 0), (19, .g (.sl .no 5 (t.args.map tmA))), (20, .g (.i t.args.length)), (21, .g (.i x.1))], [(5, kyC (mkKy t (aHoldL (t.args.take x.1) a.s).2)), (3, (tmX t).cells)], x.2.2⟩,
      fun x => x.1 ≤ t.args.length ∧ HasA ⟨a.ab, a.bm, a.most, (aHoldL (t.args.take x.1) a.s).1, x.2.1⟩ X x.2.2, fun x => t.args.length - x.1, ⟨(0, a.q, H), ⟨Nat.zero_le _, hA⟩, ?_⟩, ?_⟩
    · refine ⟨⟨Le.refl _, ⟨rfl, rfl⟩, Le.refl _, ⟨rfl, rfl⟩, Le.refl _, le_of_eq (by show AV.i _ = AV.i _; rw [List.length_map]), Le.refl _, trivial⟩, ⟨⟨rfl, LeL.refl _⟩, ⟨rfl, LeL.refl _⟩, trivial⟩, List.Sublist.refl _⟩
    · rintro ⟨k, q, Hk⟩ ⟨hk, hA⟩
      simp only at hk hA
      have hlen := aHoldL_len (t.args.take k) a.s
      have hids := aHoldL_ids (t.args.take k) a.s
      have hnl := nodesTL_le t.args k
      refine ifB_dec (fun h1 => ?_) (fun h1 => ?_)
      · have hlt : k < t.args.length := by omega
        have htk := aHoldL_take hlt a.s
        have hnd := Fit.nodes hlt
        have hid := aHold_id t.args[k] (aHoldL (t.args.take k) a.s).1
        have hns := nodesTL_snoc hlt
        have hnl1 := nodesTL_le t.args (k + 1)
        have hil := hids.1
        rw [List.length_take, Nat.min_eq_left (by omega)] at hil
        have hk3 : k = 0 ∨ k = 1 ∨ k = 2 := by omega
        rcases hk3 with rfl | rfl | rfl
        · have hlx : ∃ ids, (aHoldL (t.args.take 0) a.s).2 = ids ∧ ids = [] := ⟨_, rfl, List.length_eq_zero_iff.1 hil⟩
          obtain ⟨ids, hie, rfl⟩ := hlx
          refine ⟨0, rfl, _, tmAt' hlt, ?_⟩
          refine ⟨_, LeL.refl _, ih t.args[0] ⟨a.ab, a.bm, a.most, (aHoldL (t.args.take 0) a.s).1, q⟩ X Hk _ (by omega) (by omega) (hfp.2.2.1 _ (List.getElem_mem hlt)) hA (aHoldL_good _ _ hg fun u hu => hfp.2.2.1 u (List.mem_of_mem_take hu)) (by simp only; omega) hm2 fun q' H' hA' => ?_⟩
          intro hz1 hz2; clear hz1 hz2
          refine ⟨0, rfl, by decide, ?_⟩
          refine ⟨0, rfl, by decide, ?_⟩
          refine ifB_f (show ¬ (((aHold t.args[0] (aHoldL (t.args.take 0) a.s).1).2 : Nat) : Int) = 0 by omega) ?_
          refine ⟨in64_of (by first | omega | (dsimp only; omega)) (by first | omega | (dsimp only; omega)), ?_⟩
          refine ⟨(0 + 1, q', H'), ⟨by simp only; omega, by simp only; rw [htk]; exact hA'⟩, by (try dsimp only); omega, ?_⟩
          refine ⟨⟨Le.refl _, ⟨rfl, rfl⟩, Le.refl _, ⟨rfl, rfl⟩, Le.refl _, Le.refl _, Le.refl _, trivial⟩, ⟨⟨rfl, ?_⟩, ⟨rfl, LeL.refl _⟩, trivial⟩, List.Sublist.refl _⟩
          simp only
          rw [htk]
          rw [hie]
          exact LeL.refl _
        · have hlx : ∃ ids x, (aHoldL (t.args.take 1) a.s).2 = ids ∧ ids = [x] := ⟨_, _, rfl, (List.length_eq_one_iff.1 hil).choose_spec⟩
          obtain ⟨ids, x, hie, rfl⟩ := hlx
          refine ⟨1, rfl, _, tmAt' hlt, ?_⟩
          refine ⟨_, LeL.refl _, ih t.args[1] ⟨a.ab, a.bm, a.most, (aHoldL (t.args.take 1) a.s).1, q⟩ X Hk _ (by omega) (by omega) (hfp.2.2.1 _ (List.getElem_mem hlt)) hA (aHoldL_good _ _ hg fun u hu => hfp.2.2.1 u (List.mem_of_mem_take hu)) (by simp only; omega) hm2 fun q' H' hA' => ?_⟩
          intro hz1 hz2; clear hz1 hz2
          refine ⟨1, rfl, by decide, ?_⟩
          refine ⟨1, rfl, by decide, ?_⟩
          refine ifB_f (show ¬ (((aHold t.args[1] (aHoldL (t.args.take 1) a.s).1).2 : Nat) : Int) = 0 by omega) ?_
          refine ⟨in64_of (by first | omega | (dsimp only; omega)) (by first | omega | (dsimp only; omega)), ?_⟩
          refine ⟨(1 + 1, q', H'), ⟨by simp only; omega, by simp only; rw [htk]; exact hA'⟩, by (try dsimp only); omega, ?_⟩
          refine ⟨⟨Le.refl _, ⟨rfl, rfl⟩, Le.refl _, ⟨rfl, rfl⟩, Le.refl _, Le.refl _, Le.refl _, trivial⟩, ⟨⟨rfl, ?_⟩, ⟨rfl, LeL.refl _⟩, trivial⟩, List.Sublist.refl _⟩
          simp only
          rw [htk]
          rw [hie]
          exact LeL.refl _
        · have hlx : ∃ ids x y, (aHoldL (t.args.take 2) a.s).2 = ids ∧ ids = [x, y] := by
            obtain ⟨x, y, e⟩ := len_two hil
            exact ⟨_, x, y, rfl, e⟩
          obtain ⟨ids, x, y, hie, rfl⟩ := hlx
          refine ⟨2, rfl, _, tmAt' hlt, ?_⟩
          refine ⟨_, LeL.refl _, ih t.args[2] ⟨a.ab, a.bm, a.most, (aHoldL (t.args.take 2) a.s).1, q⟩ X Hk _ (by omega) (by omega) (hfp.2.2.1 _ (List.getElem_mem hlt)) hA (aHoldL_good _ _ hg fun u hu => hfp.2.2.1 u (List.mem_of_mem_take hu)) (by simp only; omega) hm2 fun q' H' hA' => ?_⟩
          intro hz1 hz2; clear hz1 hz2
          refine ⟨2, rfl, by decide, ?_⟩
          refine ⟨2, rfl, by decide, ?_⟩
          refine ifB_f (show ¬ (((aHold t.args[2] (aHoldL (t.args.take 2) a.s).1).2 : Nat) : Int) = 0 by omega) ?_
          refine ⟨in64_of (by first | omega | (dsimp only; omega)) (by first | omega | (dsimp only; omega)), ?_⟩
          refine ⟨(2 + 1, q', H'), ⟨by simp only; omega, by simp only; rw [htk]; exact hA'⟩, by (try dsimp only); omega, ?_⟩
          refine ⟨⟨Le.refl _, ⟨rfl, rfl⟩, Le.refl _, ⟨rfl, rfl⟩, Le.refl _, Le.refl _, Le.refl _, trivial⟩, ⟨⟨rfl, ?_⟩, ⟨rfl, LeL.refl _⟩, trivial⟩, List.Sublist.refl _⟩
          simp only
          rw [htk]
          rw [hie]
          exact LeL.refl _
      · have hke : k = t.args.length := by omega
        subst hke
        rw [List.take_length] at hA hlen hids hnl
        have hg1 := aHoldL_good t.args a.s hg hfp.2.2.1
        have hqq : ∀ q' H', HasA ⟨a.ab, a.bm, a.most, (aNode t (aHoldL t.args a.s)).1, q'⟩ X H' → Q (.i ((aNode t (aHoldL t.args a.s)).2 : Nat)) H' := by rw [← aHold_eq]; exact hq
        obtain ⟨p, hp⟩ : ∃ p, p = aHoldL t.args a.s := ⟨_, rfl⟩
        rw [← hp] at hA hlen hids hg1 hqq
        obtain ⟨s1, ids⟩ := p
        simp only at hA hlen hids hg1 hqq
        have hkey : (aHoldL (t.args.take t.args.length) a.s).2 = ids := by rw [List.take_length, ← hp]
        have hpin : ∀ x ∈ [(a.ab, AObj.cells [.i a.most, .sl (ownQ q) 13 (s1.map ndA), .mp a.bm])], x ∈ Hk := fun x hx => by rw [List.mem_singleton.1 hx]; exact hA.st
        have hnl' := nds_len s1
        refine ⟨[0, 1, 2, 3, 4, 5, 6, 7, 8, 9, 10], [(a.ab, AObj.cells [.i a.most, .sl (ownQ q) 13 (s1.map ndA), .mp a.bm])], by kernel_rfl, hpin, ?_⟩
        refine ⟨_, .head _, ?_⟩
        cases hk : idAt s1 (mkKy t ids) with
        | some i =>
          refine ⟨aEs 0 s1, s1.length, _, rfl, hA.mp, aEs_keys _ _, (by show mpFind (kyA (mkKy t (aHoldL (t.args.take t.args.length) a.s).2)) _ = _; rw [hkey, aEs_find, hk]), ?_⟩
          refine ⟨hpin, ?_⟩
          have hno : aNode t (s1, ids) = (s1, i + 1) := by rw [aNode]; simp only; rw [hk]
          rw [hno] at hqq
          exact ⟨_, Hk, ret_i (by omega), List.Sublist.refl _, _, HLe.refl _, hqq _ _ hA⟩
        | none =>
          refine ⟨aEs 0 s1, s1.length, _, rfl, hA.mp, aEs_keys _ _, (by show mpFind (kyA (mkKy t (aHoldL (t.args.take t.args.length) a.s).2)) _ = _; rw [hkey, aEs_find, hk]), ?_⟩
          refine ⟨hpin, ?_⟩
          have hno : aNode t (s1, ids) = (s1 ++ [mkNd t ids], s1.length + 1) := by rw [aNode]; simp only; rw [hk]
          rw [hno] at hqq
          refine ⟨[0, 1, 2, 3, 4, 5, 6, 7, 8, 9], [(a.ab, AObj.cells [.i a.most, .sl (ownQ q) 13 (s1.map ndA), .mp a.bm])], by kernel_rfl, hpin, ?_⟩
          refine ⟨_, .head _, ?_⟩
          refine ⟨_, .head _, ?_⟩
          refine ifB_f (show ¬ a.most ≤ ((s1.map ndA).length : Nat) by omega) ?_
          refine ⟨_, LeL.refl _, App0_con t (by omega) _ _ ?_⟩
          intro hz1 hz2; clear hz1 hz2
          refine ⟨[0, 1, 2, 3, 4, 5, 6, 7, 8, 9, 10, 11, 12, 13, 14, 15, 16, 17], [(a.ab, AObj.cells [.i a.most, .sl (ownQ q) 13 (s1.map ndA), .mp a.bm])], by kernel_rfl, hpin, ?_⟩
          refine ⟨_, .head _, ?_⟩
          refine ⟨_, LeL.refl _, Loose_con t _ _ ?_⟩
          intro hz1 hz2; clear hz1 hz2
          refine ⟨hpin, ?_⟩
          refine ⟨(by show ((s1.map ndA).length + 1) * (152 + 1) ≤ 140737488355328; omega), ?_⟩
          have hA0 : Hk.Perm (bufH q ((a.ab, .cells [.i a.most, .sl (ownQ q) 13 (s1.map ndA), .mp a.bm]) :: (a.bm, .mp (aEs 0 s1) s1.length) :: X)) := hA
          have hz : ∀ r : AV, (((s1.map ndA ++ [r]).length : Nat) : Int) = ((s1.length + 1 : Nat) : Int) := fun r => by rw [List.length_append, List.length_map]; rfl
          have hr : LeL (rawA t (aHoldL (t.args.take t.args.length) a.s).2).cells (ndA (mkNd t ids)).cells := by
            rw [hkey]
            exact ⟨Le.refl _, Le.refl _, Le.refl _, Le.refl _, Le.refl _, Le.refl _, Le.refl _, Le.refl _, Le.refl _, Le.refl _, Le.nil _ _, (by rw [List.length_map]; exact Le.refl _), Le.refl _, trivial⟩
          refine own_ofN (q := q) (HH := Hk) (X := X) (fun H4 => ∀ z : Int, z = ((s1.length + 1 : Nat) : Int) → ∃ r H', Le (.i z) r ∧ List.Sublist H' H4 ∧ ∃ H2, HLe H' H2 ∧ Q r H2) hr (fun c H4 H5 k1 k2 z hz => ⟨_, H4, ret_i hz, List.Sublist.refl _, H5, k1, hqq _ _ k2⟩) hA0 rfl (fun _ h => h) fun c H2 H3 H4 h3 hat hin hat2 hin2 hfin => ?_
          refine ⟨h3, ?_⟩
          refine ⟨_, _, hat, Nat.le_succ 2, ?_⟩
          refine ⟨[0, 1, 2, 3, 4, 5, 6, 7, 8, 9, 10], _, by kernel_rfl, hin, ?_⟩
          refine ⟨_, .head _, ?_⟩
          refine ⟨_, .head _, ?_⟩
          refine ⟨aEs 0 s1, s1.length, _, _, H4, hat2, aEs_keys _ _, (by show mpPut (kyA (mkKy t (aHoldL (t.args.take t.args.length) a.s).2)) (.i ((s1.map ndA ++ [rawA t (aHoldL (t.args.take t.args.length) a.s).2]).length : Nat)) _ _ = _; rw [hkey]; exact aEs_put (nd := mkNd t ids) hk (hz _)), ?_⟩
          refine ⟨fun p hp => by rw [List.mem_singleton.1 hp]; exact hin2, ?_⟩
          refine ⟨_, hin2, ?_⟩
          exact hfin _ (hz _)
end Go.Proofs.YtaldgcnhmnfocaaDoor

/-
  Arenas: Hold; a term without parts, fresh. No condition.
-/
namespace Go.Proofs.YtaldgcnhmnfocaaDoor
open Go.RowKit

set_option maxRecDepth 100000 in
theorem HoldT_con (t : Tm) (a : Ar) (X H : Heap) {Q : AV → Heap → Prop} (hr : tmRight 4 1125899906842624 t = true) (hN2 : t.nodes ≤ 2000) (hA : HasA a X H) (hg : Good a.s) (hm1 : (a.s.length : Int) + t.nodes ≤ a.most) (hm2 : a.most ≤ 1048576)
    (hq : ∀ q' H', HasA ⟨a.ab, a.bm, a.most, (aHold t a.s).1, q'⟩ X H' → Q (.tup [.i ((aHold t a.s).2 : Nat), .i 0]) H') : Con Tryd.prog 9 [.ptr a.ab 0, tmX t] H Q := by
  have h2 := hr
  unfold tmRight at h2
  simp only [Bool.and_eq_true, decide_eq_true_eq] at h2
  have hid := aHold_id t a.s
  refine con_of_awp (esc := fun _ => false) tab_ok mixed Tryd.func9 rfl (ent Tryd.func9 (by kernel_rfl) rfl) (by kernel_rfl) ?_
  intro hw hn
  clear hw hn
  refine ⟨_, LeL.refl _, (tmRight_con 4 1125899906842624 t).yes hr _ _ ?_⟩
  intro hz1 hz2; clear hz1 hz2
  refine ⟨_, LeL.refl _, hold_con t.nodes t a X H _ (Nat.le_refl _) hN2 ⟨_, h2.2⟩ hA hg hm1 hm2 fun q' H' h' => ?_⟩
  intro hz1 hz2; clear hz1 hz2
  refine ifB_f (show ¬ (((aHold t a.s).2 : Nat) : Int) = 0 by omega) ?_
  exact ⟨_, H', Le.refl _, List.Sublist.refl _, hq q' H' h'⟩

/-- a term without parts, as it is made anew -/
def tmF (t : Tm) : AV := .agg [.i t.kind, .i t.n, .str t.name, .sl .no 3 (t.levels.map lvA), .sl .full 0 []]
set_option maxRecDepth 100000 in
set_option maxHeartbeats 1000000 in
theorem fresh0_con (t : Tm) (h0 : t.args = []) (hN : t.nodes ≤ 1000000) : Ans Tryd.prog 34 [tmX t] (tmF t) := by
  intro H Q hq
  have hnd := t.nodes_eq
  have hll : t.levels.length ≤ Lv.nodesL t.levels := by
    rw [lvNodes_sum]
    generalize t.levels = xs
    induction xs with
    | nil => simp
    | cons a xs ih => have := a.nodes_pos; simp; omega
  refine con_of_awp (esc := fun _ => false) tab_ok mixed Tryd.func34 rfl (ent Tryd.func34 (by kernel_rfl) rfl) (by kernel_rfl) ?_
  intro hw hn
  refine ⟨Option Cap × Nat, fun p => ⟨[(1, .lp 1 0), (2, .lp 2 0), (3, .lp 3 0), (16, .g (.sl .no 3 (t.levels.map lvA))), (17, .g (.i t.levels.length)), (18, .g (.i p.2))], [(3, [.i t.kind, .i t.n, .str t.name, rowS p.1 3 ((t.levels.take p.2).map lvA), .sl .full 0 []]), (2, [.i 0, .i 0, .str [], .sl .full 0 [], .sl .full 0 []]), (1, (tmX t).cells)], bufH p.1 H⟩,
    fun p => p.2 ≤ t.levels.length ∧ (p.1 = none → p.2 = 0), fun p => t.levels.length - p.2, ⟨(none, 0), ⟨Nat.zero_le _, fun _ => rfl⟩, ?_⟩, ?_⟩
  · refine ⟨⟨⟨rfl, rfl⟩, ⟨rfl, rfl⟩, ⟨rfl, rfl⟩, Le.refl _, le_of_eq ?_, Le.refl _, trivial⟩, ⟨⟨rfl, LeL.refl _⟩, ⟨rfl, LeL.refl _⟩, ⟨rfl, LeL.refl _⟩, trivial⟩, List.Sublist.refl _⟩
    show AV.i _ = AV.i _
    rw [List.length_map]
  · rintro ⟨q, j⟩ ⟨hj, hz⟩
    simp only at hj hz
    refine ifB_dec (fun h1 => ?_) (fun h1 => ?_)
    · simp only at h1
      have hlt : j < t.levels.length := by omega
      have hmem := Lv.nodesL_mem (List.getElem_mem hlt)
      have hsn : (t.levels.take j).map lvA ++ [lvX t.levels[j]] = (t.levels.take (j + 1)).map lvA := by rw [List.take_succ_eq_append_getElem hlt, List.map_append, ← lvA_eq]; rfl
      have hnext : ∀ c' : Cap, Le (.sl (.own c') 3 ((t.levels.take j).map lvA ++ [lvX t.levels[j]])) (rowS (some c') 3 ((t.levels.take (j + 1)).map lvA)) := fun c' => by rw [hsn]; exact Le.refl _
      refine ⟨j, rfl, _, lvAt hlt, ?_⟩
      refine ⟨[0, 1, 2, 3, 4, 5, 6, 7, 8], [], by kernel_rfl, by simp, ?_⟩
      refine ⟨_, LeL.refl _, Max1_con _ t.levels[j] (by omega) _ _ ?_⟩
      intro hz1 hz2; clear hz1 hz2
      cases q with
      | none =>
        obtain rfl := hz rfl
        refine ⟨(by show (0 + 1) * (40 + 1) ≤ 140737488355328; decide), fun c hc => ?_⟩
        refine ⟨in64_of (by first | omega | (dsimp only; omega)) (by first | omega | (dsimp only; omega)), ?_⟩
        refine ⟨(some c, 1), ⟨by simp only; omega, nofun⟩, by (try dsimp only); omega, ⟨⟨⟨rfl, rfl⟩, ⟨rfl, rfl⟩, ⟨rfl, rfl⟩, Le.refl _, Le.refl _, Le.refl _, trivial⟩, ⟨⟨rfl, ⟨Le.refl _, Le.refl _, Le.refl _, hnext c, Le.refl _, trivial⟩⟩, ⟨rfl, LeL.refl _⟩, ⟨rfl, LeL.refl _⟩, trivial⟩, List.Sublist.refl _⟩⟩
      | some c0 =>
        refine ⟨?_, _, Heap.Rem.here, fun c hc => ?_⟩
        · simp only [List.length_map, List.length_cons, List.length_nil, List.length_take]
          show _ * (40 + 1) ≤ _
          omega
        · refine ⟨in64_of (by first | omega | (dsimp only; omega)) (by first | omega | (dsimp only; omega)), ?_⟩
          refine ⟨(some c, j + 1), ⟨by simp only; omega, nofun⟩, by (try dsimp only); omega, ⟨⟨⟨rfl, rfl⟩, ⟨rfl, rfl⟩, ⟨rfl, rfl⟩, Le.refl _, Le.refl _, Le.refl _, trivial⟩, ⟨⟨rfl, ⟨Le.refl _, Le.refl _, Le.refl _, hnext c, Le.refl _, trivial⟩⟩, ⟨rfl, LeL.refl _⟩, ⟨rfl, LeL.refl _⟩, trivial⟩, List.Sublist.refl _⟩⟩
    · simp only at h1
      have hj' : t.levels.length = j := by omega
      subst hj'
      have hlv : Le (rowS q 3 ((t.levels.take t.levels.length).map lvA)) (.sl .no 3 (t.levels.map lvA)) := Le.trans (rowS_le fun h => by rw [hz h]; rfl) (le_of_eq (by rw [List.take_length]))
      refine ⟨Unit, fun _ => ⟨[(2, .lp 2 0), (3, .lp 3 0), (32, .g (.sl .no 5 [])), (33, .g (.i 0)), (34, .g (.i 0))], [(3, [.i t.kind, .i t.n, .str t.name, .sl .no 3 (t.levels.map lvA), .sl .full 0 []]), (2, [.i 0, .i 0, .str [], .sl .full 0 [], .sl .full 0 []]), (1, (tmX t).cells)], bufH q H⟩,
        fun _ => True, fun _ => 0, ⟨(), trivial, ?_⟩, ?_⟩
      · refine ⟨⟨⟨rfl, rfl⟩, ⟨rfl, rfl⟩, le_of_eq (by show AV.sl .no 5 (t.args.map tmA) = AV.sl .no 5 []; rw [h0]; rfl), le_of_eq ?_, Le.refl _, trivial⟩, ⟨⟨rfl, ⟨Le.refl _, Le.refl _, Le.refl _, hlv, Le.refl _, trivial⟩⟩, ⟨rfl, LeL.refl _⟩, ⟨rfl, LeL.refl _⟩, trivial⟩, List.Sublist.refl _⟩
        show AV.i _ = AV.i _
        rw [h0]
        rfl
      · intro u hu
        exact ⟨_, H, Le.refl _, bufH_sub q _, hq⟩
set_option maxRecDepth 100000 in
theorem App0F_con (t : Tm) (h0 : t.args = []) (hl : t.nodes ≤ 1000000) : Ans Tryd.prog 26 [tmX t, .sl .full 0 []] (tmF t) := by
  intro H Q hq
  refine con_of_awp (esc := fun _ => false) tab_ok mixed Tryd.func26 rfl (ent Tryd.func26 (by kernel_rfl) rfl) (by kernel_rfl) ?_
  intro hw hn
  refine ⟨_, LeL.refl _, fresh0_con t h0 hl _ _ ?_⟩
  intro hz1 hz2; clear hz1 hz2
  refine ⟨Unit, fun _ => ⟨[(4, .lp 4 0), (5, .lp 5 0), (10, .g (.sl .full 0 [])), (11, .g (.i 0)), (12, .g (.i 0))], [(5, (tmF t).cells), (4, [.i 0, .i 0, .str [], .sl .full 0 [], .sl .full 0 []]), (2, (tmX t).cells)], H⟩, fun _ => True, fun _ => 0, ⟨(), trivial, ?_⟩, ?_⟩
  · exact ⟨⟨⟨rfl, rfl⟩, ⟨rfl, rfl⟩, Le.refl _, Le.refl _, Le.refl _, trivial⟩, ⟨⟨rfl, LeL.refl _⟩, ⟨rfl, LeL.refl _⟩, ⟨rfl, LeL.refl _⟩, trivial⟩, List.Sublist.refl _⟩
  · intro u hu
    exact ⟨_, H, Le.refl _, List.Sublist.refl _, hq⟩
end Go.Proofs.YtaldgcnhmnfocaaDoor

/-
  Arenas: where numbers lead. No condition.
-/
namespace Go.Proofs.YtaldgcnhmnfocaaDoor
open Go.RowKit

theorem rn_cells {f : List AV → Rs} {K : T → Prop} {a r : List AV} (hd : a = r) (h : (f r).run K) : (f a).run K := by subst hd; exact h
theorem talN_len (l : List Nat) : (talE nI l).length = (firsts l).length := by
  rw [talE]
  generalize firsts l = ks
  generalize (0 : Nat) = n
  induction ks generalizing n with
  | nil => rfl
  | cons a ks ih => rw [kE, List.length_cons, ih, List.length_cons]
theorem keyN_nI (a b : Nat) : keyEq (nI a) (nI b) = decide (a = b) := key_nat a b
theorem rN_yes {l : List Nat} {s : Nat} (h : s ∈ l) : mpFind (nI s) (talE nI l) = some (idxN s (firsts l), .i ((cntN s l : Nat) : Int)) := by rw [tal_find keyN_nI, if_pos h]
theorem rN_no {l : List Nat} {s : Nat} (h : s ∉ l) : mpFind (nI s) (talE nI l) = none := by rw [tal_find keyN_nI, if_neg h]
theorem rN_keys (l : List Nat) (s : Nat) : KeysOk (.int .i64) (nI s) (talE nI l) := keys_nat s
/-- the map of what was seen -/
def seenM (σ : List Nat) : AObj := .mp (talE nI σ) (firsts σ).length
theorem HasA.front {a : Ar} {p : Nat × AObj} {X H : Heap} (h : HasA a (p :: X) H) : ∃ R : Heap, H.Perm (p :: R) ∧ ∀ (H' : Heap) (p' : Nat × AObj), H'.Perm (p' :: R) → HasA a (p' :: X) H' := by
  refine ⟨bufH a.q (a.O ++ X), ?_, fun H' p' h' => ?_⟩
  · have h1 : H.Perm (bufH a.q (a.O ++ p :: X)) := h
    refine h1.trans (List.Perm.trans ?_ (bufH_cons a.q p (a.O ++ X)))
    cases a.q with
    | none => exact List.perm_middle
    | some c => exact List.Perm.cons _ List.perm_middle
  · refine List.Perm.trans h' (List.Perm.trans (bufH_cons a.q p' (a.O ++ X)).symm ?_)
    cases a.q with
    | none => exact List.perm_middle.symm
    | some c => exact List.Perm.cons _ List.perm_middle.symm
theorem HasA.at {a : Ar} {b : Nat} {x : AObj} {X H : Heap} (h : HasA a ((b, x) :: X) H) (y : AObj) : ∃ H', Heap.At b x y H H' ∧ HasA a ((b, y) :: X) H' := by
  obtain ⟨R, h1, h2⟩ := h.front
  obtain ⟨H', h3, h4⟩ := atP (y := y) h1
  exact ⟨H', h3, h2 H' _ h4⟩
theorem HasA.mem {a : Ar} {p : Nat × AObj} {X H : Heap} (h : HasA a (p :: X) H) : p ∈ H := by
  obtain ⟨R, h1, _⟩ := h.front
  exact h1.mem_iff.2 List.mem_cons_self
theorem HasA.perm {a : Ar} {X Y H : Heap} (h : HasA a X H) (hp : X.Perm Y) : HasA a Y H := by
  have h1 : H.Perm (bufH a.q (a.O ++ X)) := h
  refine h1.trans ?_
  show List.Perm _ (bufH a.q (a.O ++ Y))
  cases a.q with
  | none => exact List.Perm.append_left _ hp
  | some c => exact List.Perm.cons _ (List.Perm.append_left _ hp)
theorem perm_drop {α : Type} {p : α} {H R : List α} (h : H.Perm (p :: R)) : ∃ H' : List α, H'.Sublist H ∧ H'.Perm R := by
  obtain ⟨A, B, rfl⟩ := List.append_of_mem (h.mem_iff.2 List.mem_cons_self)
  exact ⟨A ++ B, List.Sublist.append_left (List.sublist_cons_self _ _) A, (List.perm_middle.symm.trans h).cons_inv⟩
theorem HasA.drop {a : Ar} {p : Nat × AObj} {X H : Heap} (h : HasA a (p :: X) H) : ∃ H' : Heap, List.Sublist H' H ∧ HasA a X H' := by
  have h1 : H.Perm (bufH a.q (a.O ++ p :: X)) := h
  obtain ⟨H', h2, h3⟩ := perm_drop (h1.trans (show List.Perm _ (p :: bufH a.q (a.O ++ X)) from by
    refine List.Perm.trans ?_ (bufH_cons a.q p (a.O ++ X))
    cases a.q with
    | none => exact List.perm_middle
    | some c => exact List.Perm.cons _ List.perm_middle))
  exact ⟨H', h2, h3⟩
theorem idsOf_eq {s : List Nd} {k : Nat} (hk : k < s.length) : idsOf s (k + 1) = s[k].ids := by
  unfold idsOf
  rw [Nat.add_sub_cancel, List.getD_eq_getElem?_getD, List.getElem?_eq_getElem hk]
  rfl
theorem foldR_pot {s : List Nd} (hg : Good s) {N : Nat} : ∀ (ks : List Nat) (τ : List Nat), (∀ a ∈ ks, a ≤ N ∧ 1 ≤ a ∧ a ≤ s.length) → (ks.foldl (fun σ k => rchP s N k σ) τ).length + 3 * freeR s.length (ks.foldl (fun σ k => rchP s N k σ) τ) ≤ τ.length + 3 * freeR s.length τ + ks.length
  | [], τ, _ => Nat.le_refl _
  | k :: ks, τ, hin => by
    have hk := hin k (by simp)
    have g1 := rchP_pot hg N k τ hk.1 hk.2.1 hk.2.2
    have g2 := foldR_pot hg ks (rchP s N k τ) fun a ha => hin a (List.mem_cons_of_mem _ ha)
    rw [List.foldl_cons, List.length_cons]
    omega
theorem ndC_ids {nd : Nd} (h3 : nd.count ≤ 3) {j : Nat} (hj : j < nd.ids.length) : ∃ r, (ndC nd).drop (3 + j * 1) = .i (nd.ids[j] : Nat) :: r := by
  have hl : nd.ids.length = nd.count := by
    unfold Nd.ids
    rw [List.length_take]
    simp
    omega
  have hj3 : j = 0 ∨ j = 1 ∨ j = 2 := by omega
  have e : nd.ids[j]? = [nd.key.a, nd.key.b, nd.key.c][j]? := by
    show ([nd.key.a, nd.key.b, nd.key.c].take nd.count)[j]? = _
    rw [List.getElem?_take]
    exact if_pos (by omega)
  rw [List.getElem?_eq_getElem hj] at e
  rcases hj3 with rfl | rfl | rfl <;> (rw [Option.some.inj e]; exact ⟨_, rfl⟩)
theorem fold_take {α β : Type} (f : β → α → β) (b : β) {l : List α} {k : Nat} (h : k < l.length) : (l.take (k + 1)).foldl f b = f ((l.take k).foldl f b) l[k] := by
  rw [List.take_succ_eq_append_getElem h, List.foldl_append]
  rfl
set_option maxRecDepth 100000 in
set_option maxHeartbeats 4000000 in
theorem reach_con {a : Ar} (hg : Good a.s) (hs : a.s.length ≤ 100000) : ∀ (N id : Nat) (σ : List Nat) (bs : Nat) (X H : Heap) (Q : AV → Heap → Prop), id ≤ N → 1 ≤ id → id ≤ a.s.length → σ.length + 3 * freeR a.s.length σ + 1 ≤ 1000000 → HasA a ((bs, seenM σ) :: X) H →
    (∀ H', HasA a ((bs, seenM (rchP a.s N id σ)) :: X) H' → Q (.tup []) H') → Con Tryd.prog 25 [.ptr a.ab 0, .i (id : Nat), .mp bs] H Q := by
  intro N
  induction N with
  | zero => intro id σ bs X H Q h1 h2; omega
  | succ N ih =>
    intro id σ bs X H Q hN h1 h2 hpot hA hq
    have hcl := cntN_le id σ
    have hcs := cntN_snoc id σ
    have hin : id ∈ σ ++ [id] := by simp
    obtain ⟨H1, hat, hA1⟩ := hA.at (seenM (σ ++ [id]))
    by_cases hm : id ∈ σ
    · rw [rchP_yes hm] at hq
      have hcp := cntN_pos hm
      refine con_of_awp (esc := ([6].contains ·)) tab_ok mixed Tryd.func25 rfl (ent Tryd.func25 (by kernel_rfl) rfl) (by kernel_rfl) ?_
      intro hw hn
      clear hw hn
      refine ⟨talE nI σ, (firsts σ).length, _, rfl, hA.mem, rN_keys _ _, rN_yes hm, ?_⟩
      refine ⟨in64_of (by first | omega | (dsimp only; omega)) (by first | omega | (dsimp only; omega)), ?_⟩
      refine ⟨talE nI σ, (firsts σ).length, talE nI (σ ++ [id]), (firsts (σ ++ [id])).length, H1, hat, rN_keys _ _, tal_put keyN_nI σ id, ?_⟩
      refine ⟨talE nI (σ ++ [id]), (firsts (σ ++ [id])).length, _, rfl, hA1.mem, rN_keys _ _, rN_yes hin, ?_⟩
      refine ifB_t (show (1 : Int) < ((cntN id (σ ++ [id]) : Nat) : Int) by omega) ?_
      exact ⟨_, H1, Le.refl _, List.Sublist.refl _, hq H1 hA1⟩
    · rw [rchP_no hm] at hq
      have hcz := cntN_zero hm
      have hnew : mpPut (nI id) (.i (0 + 1)) (talE nI σ) (firsts σ).length = (talE nI (σ ++ [id]), (firsts (σ ++ [id])).length) := by
        have := tal_put keyN_nI σ id
        rw [hcz] at this
        exact this
      obtain ⟨k, rfl⟩ : ∃ k, id = k + 1 := ⟨id - 1, by omega⟩
      have hk : k < a.s.length := by omega
      have hids := idsOf_le hg h1 h2
      have hgd := hg k hk
      rw [idsOf_eq hk] at hq hids
      have hcnt : a.s[k].ids.length = a.s[k].count := by
        have := arity_le a.s[k].t.kind
        have := hgd.le
        unfold Nd.ids
        rw [List.length_take]
        simp
        omega
      refine con_of_awp (esc := ([6].contains ·)) tab_ok mixed Tryd.func25 rfl (ent Tryd.func25 (by kernel_rfl) rfl) (by kernel_rfl) ?_
      intro hw hn
      clear hw hn
      refine ⟨talE nI σ, (firsts σ).length, _, rfl, hA.mem, rN_keys _ _, rN_no hm, ?_⟩
      refine ⟨in64_of (by first | omega | (dsimp only; omega)) (by first | omega | (dsimp only; omega)), ?_⟩
      refine ⟨talE nI σ, (firsts σ).length, talE nI (σ ++ [k + 1]), (firsts (σ ++ [k + 1])).length, H1, hat, rN_keys _ _, hnew, ?_⟩
      refine ⟨talE nI (σ ++ [k + 1]), (firsts (σ ++ [k + 1])).length, _, rfl, hA1.mem, rN_keys _ _, rN_yes hin, ?_⟩
      refine ifB_f (show ¬ (1 : Int) < ((cntN (k + 1) (σ ++ [k + 1]) : Nat) : Int) by omega) ?_
      refine ⟨_, LeL.refl _, arNode_con hA1 (by omega) _ (fun h => absurd h (by omega)) fun j hj e => ?_⟩
      obtain rfl : k = j := by omega
      intro hz1 hz2; clear hz1 hz2
      intro b6 hb6
      refine ⟨_, _, .here, (by decide), ?_⟩
      refine ⟨_, .head _, ?_⟩
      clear hb6
      have hle := hgd.le
      have har := arity_le a.s[k].t.kind
      refine ⟨a.s[k].count, rfl, ?_⟩
      refine ⟨(by omega), 3, rfl, ?_⟩
      refine ⟨Nat × List Nat × Heap, fun x => ⟨[(0, .g (.ptr a.ab 0)), (2, .g (.mp bs)), (28, .g (.v (.slice (some ⟨b6, 3, none⟩) a.s[k].count 3))), (29, .g (.i a.s[k].count)), (30, .g (.i x.1))], [], x.2.2⟩,
        fun x => x.1 ≤ a.s[k].count ∧ (a.s[k].ids.take x.1).foldl (fun σ k => rchP a.s N k σ) (σ ++ [k + 1]) = x.2.1 ∧ HasA a ((bs, seenM x.2.1) :: (b6, .cells (ndC a.s[k])) :: X) x.2.2, fun x => a.s[k].count - x.1, ⟨(0, σ ++ [k + 1], (b6, .cells (ndC a.s[k])) :: H1), ⟨Nat.zero_le _, rfl, (hA1.cons _).perm (List.Perm.swap _ _ _)⟩, ?_⟩, ?_⟩
      · exact ⟨⟨Le.refl _, Le.refl _, Le.refl _, Le.refl _, Le.refl _, trivial⟩, trivial, List.Sublist.refl _⟩
      · rintro ⟨j, τ, Hk⟩ ⟨hj, hτ, hk'⟩
        simp only at hj hτ hk'
        refine ifB_dec (fun g1 => ?_) (fun g1 => ?_)
        · have hlt : j < a.s[k].ids.length := by omega
          have hmem := List.getElem_mem hlt
          have hid := hids.2 _ hmem
          have hmb : (b6, AObj.cells (ndC a.s[k])) ∈ Hk := (hk'.perm (List.Perm.swap _ _ _)).mem
          obtain ⟨r, hr⟩ := ndC_ids (nd := a.s[k]) (by omega) hlt
          have hp1 := foldR_pot hg (N := N) (a.s[k].ids.take j) (σ ++ [k + 1]) fun x hx => by have := hids.2 x (List.mem_of_mem_take hx); omega
          have hcut := freeR_cut h1 h2 hm
          have hsn := fold_take (fun σ k => rchP a.s N k σ) (σ ++ [k + 1]) hlt
          rw [hτ] at hp1 hsn
          rw [List.length_append, List.length_take, Nat.min_eq_left (by omega)] at hp1
          simp only [List.length_cons, List.length_nil] at hp1
          refine ⟨j, rfl, (by omega), ?_⟩
          refine ⟨_, hmb, rn_cells hr ?_⟩
          refine ⟨_, LeL.refl _, ih a.s[k].ids[j] τ bs ((b6, .cells (ndC a.s[k])) :: X) Hk _ (by omega) hid.1 (by omega) (by omega) hk' fun H' hA' => ?_⟩
          intro hz1 hz2; clear hz1 hz2
          refine ⟨in64_of (by first | omega | (dsimp only; omega)) (by first | omega | (dsimp only; omega)), ?_⟩
          refine ⟨(j + 1, rchP a.s N a.s[k].ids[j] τ, H'), ⟨by simp only; omega, hsn, hA'⟩, by (try dsimp only); omega, ?_⟩
          exact ⟨⟨Le.refl _, Le.refl _, Le.refl _, Le.refl _, Le.refl _, trivial⟩, trivial, List.Sublist.refl _⟩
        · have hje : j = a.s[k].count := by omega
          rw [hje, ← hcnt, List.take_length] at hτ
          rw [hτ] at hq
          obtain ⟨H2, hs2, hA2⟩ := (hk'.perm (List.Perm.swap _ _ _)).drop
          exact ⟨_, H2, Le.refl _, hs2, hq H2 hA2⟩
set_option maxRecDepth 100000 in
theorem arShared_con {a : Ar} (hg : Good a.s) (hs : a.s.length ≤ 100000) {X H : Heap} {k : Nat} (hk : k < a.s.length) (hA : HasA a X H) {Q : AV → Heap → Prop} (hq : ∀ H', HasA a X H' → Q (.i ((firsts (rchAll a.s (k + 1))).length : Nat)) H') : Con Tryd.prog 11 [.ptr a.ab 0, .i ((k + 1 : Nat) : Int)] H Q := by
  have hfr := freeR_le a.s.length []
  refine con_of_awp (esc := fun _ => false) tab_ok mixed Tryd.func11 rfl (ent Tryd.func11 (by kernel_rfl) rfl) (by kernel_rfl) ?_
  intro hw hn
  clear hw hn
  intro bs hbs
  clear hbs
  have hA1 : HasA a ((bs, seenM []) :: X) ((bs, seenM []) :: H) := hA.cons _
  refine ⟨_, LeL.refl _, arNode_con hA1 (by omega) _ (fun h => absurd h (by omega)) fun j hj e => ?_⟩
  obtain rfl : k = j := by omega
  intro hz1 hz2; clear hz1 hz2
  refine ⟨_, LeL.refl _, reach_con hg hs (k + 1) (k + 1) [] bs X _ _ (Nat.le_refl _) (by omega) (by omega) (by simp only [List.length_nil]; omega) hA1 fun H2 hA2 => ?_⟩
  intro hz1 hz2; clear hz1 hz2
  refine ⟨_, _, hA2.mem, ?_⟩
  obtain ⟨H3, hs3, hA3⟩ := hA2.drop
  exact ⟨_, H3, ret_i (by rw [talN_len]; rfl), hs3, hq H3 hA3⟩
end Go.Proofs.YtaldgcnhmnfocaaDoor

/-
  Arenas: Term. No condition.
-/
namespace Go.Proofs.YtaldgcnhmnfocaaDoor
open Go.RowKit

theorem ntm_eq {nd : Nd} (h : nd.t.args = []) : Tm.mk nd.t.kind nd.t.n nd.t.name nd.t.levels [] = nd.t := by
  obtain ⟨_, ⟨k, n, nm, ls, xs⟩, _, _⟩ := nd
  simp only [Tm.args] at h
  subst h
  rfl
theorem HasA.buf {a : Ar} {q : Option Cap} {Y H : Heap} (h : HasA a (bufH q Y) H) : H.Perm (bufH q (bufH a.q (a.O ++ Y))) := by
  have h1 : H.Perm (bufH a.q (a.O ++ bufH q Y)) := h
  cases q with
  | none => exact h1
  | some c =>
    refine h1.trans ?_
    show List.Perm _ ((c.b, AObj.cap c) :: bufH a.q (a.O ++ Y))
    refine List.Perm.trans ?_ (bufH_cons a.q (c.b, AObj.cap c) (a.O ++ Y))
    cases a.q with
    | none => exact List.perm_middle
    | some c => exact List.Perm.cons _ List.perm_middle
theorem HasA.tobuf {a : Ar} {c : Cap} {Y H : Heap} (h : H.Perm (bufH a.q (a.O ++ Y))) : HasA a (bufH (some c) Y) ((c.b, .cap c) :: H) := HasA.cons (show HasA a Y H from h) _
theorem HasA.unbuf {a : Ar} {q : Option Cap} {Y H : Heap} (h : HasA a (bufH q Y) H) : ∃ H' : Heap, List.Sublist H' H ∧ HasA a Y H' := by
  cases q with
  | none => exact ⟨H, List.Sublist.refl _, h⟩
  | some c => exact h.drop
/-- a node's term -/
def denT (s : List Nd) (id : Nat) : Tm := (dens s).getD (id - 1) tmZ
theorem denT_eq {s : List Nd} (hg : Good s) {k : Nat} (hk : k < s.length) : denT s (k + 1) = .mk s[k].t.kind s[k].t.n s[k].t.name s[k].t.levels (s[k].ids.map fun a => denT s a) := by
  have := dens_at hg (List.getElem?_eq_getElem hk)
  unfold denT
  rw [Nat.add_sub_cancel, List.getD_eq_getElem?_getD, this]
  rfl
set_option maxRecDepth 100000 in
set_option maxHeartbeats 4000000 in
theorem arTerm_con {a : Ar} (hg : Good a.s) (hs : a.s.length ≤ 100000) : ∀ (N k : Nat) (X H : Heap) (Q : AV → Heap → Prop), k ≤ N → (hk : k < a.s.length) → HasA a X H → (∀ H', HasA a X H' → Q (.tup [tmX (denT a.s (k + 1)), .b true]) H') →
    Con Tryd.prog 14 [.ptr a.ab 0, .i ((k + 1 : Nat) : Int)] H Q := by
  intro N
  induction N using Nat.strongRecOn with
  | ind N ih =>
  intro k X H Q hN hk hA hq
  have hgd := hg k hk
  have hids := idsOf_le hg (show 1 ≤ k + 1 by omega) hk
  rw [idsOf_eq hk] at hids
  have hle := hgd.le
  have har := arity_le a.s[k].t.kind
  have hcnt : a.s[k].ids.length = a.s[k].count := by
    unfold Nd.ids
    rw [List.length_take]
    simp
    omega
  have hden := denT_eq hg hk
  have hsm := hgd.small
  obtain ⟨nd, hnd⟩ : ∃ nd, a.s[k] = nd := ⟨_, rfl⟩
  rw [hnd] at hgd hids hle har hcnt hden hsm
  have hlen : ∀ xs : List Nat, ((xs.map fun a_1 => denT a.s a_1).map tmA).length = xs.length := fun xs => by rw [List.length_map, List.length_map]
  refine con_of_awp (esc := ([6].contains ·)) tab_ok mixed Tryd.func14 rfl (ent Tryd.func14 (by kernel_rfl) rfl) (by kernel_rfl) ?_
  intro hw hn
  clear hw hn
  refine ⟨_, LeL.refl _, arNode_con hA (by omega) _ (fun h => absurd h (by omega)) fun j hj e => ?_⟩
  obtain rfl : k = j := by omega
  rw [hnd]
  intro hz1 hz2; clear hz1 hz2
  intro b6 hb6
  clear hb6
  refine ⟨_, _, .here, (by decide), ?_⟩
  refine ⟨_, .head _, ?_⟩
  refine ⟨[tmX nd.t, .sl .full 0 []], ⟨Le.agg ⟨Le.refl _, Le.refl _, Le.refl _, Le.refl _, Le.refl _, trivial⟩, Le.refl _, trivial⟩, App0F_con nd.t hgd.args (by omega) _ _ ?_⟩
  intro hz1 hz2; clear hz1 hz2
  refine ⟨_, .head _, ?_⟩
  refine ⟨nd.count, rfl, ?_⟩
  refine ⟨(by omega), 3, rfl, ?_⟩
  refine ⟨Nat × Option Cap × Heap, fun x => ⟨[(0, .g (.ptr a.ab 0)), (4, .lp 4 0), (5, .g (.b false)), (8, .lp 8 0), (29, .g (.v (.slice (some ⟨b6, 3, none⟩) nd.count 3))), (30, .g (.i nd.count)), (31, .g (.i x.1))],
      [(8, [.i nd.t.kind, .i nd.t.n, .str nd.t.name, .sl .no 3 (nd.t.levels.map lvA), .sl (ownQ x.2.1) 5 (((nd.ids.take x.1).map fun a_1 => denT a.s a_1).map tmA)]), (4, [.i 0, .i 0, .str [], .sl .full 0 [], .sl .full 0 []])], x.2.2⟩,
    fun x => x.1 ≤ nd.count ∧ HasA a (bufH x.2.1 ((b6, .cells (ndC nd)) :: X)) x.2.2, fun x => nd.count - x.1, ⟨(0, none, (b6, .cells (ndC nd)) :: H), ⟨Nat.zero_le _, hA.cons _⟩, ?_⟩, ?_⟩
  · refine ⟨⟨Le.refl _, ⟨rfl, rfl⟩, Le.refl _, ⟨rfl, rfl⟩, Le.refl _, Le.refl _, Le.refl _, trivial⟩, ⟨⟨rfl, ⟨Le.refl _, Le.refl _, Le.refl _, Le.refl _, Le.nil' _, trivial⟩⟩, ⟨rfl, LeL.refl _⟩, trivial⟩, List.Sublist.refl _⟩
  · rintro ⟨j, q, Hk⟩ ⟨hj, hk'⟩
    simp only at hj hk'
    refine ifB_dec (fun g1 => ?_) (fun g1 => ?_)
    · have hlt : j < nd.ids.length := by omega
      have hmem := List.getElem_mem hlt
      have hid := hids.2 _ hmem
      have hmb : (b6, AObj.cells (ndC nd)) ∈ Hk := hk'.buf.mem_iff.2 (bufH_mem (bufH_mem (List.mem_append_right _ List.mem_cons_self)))
      obtain ⟨r, hr⟩ := ndC_ids (nd := nd) (by omega) hlt
      obtain ⟨k', hk1⟩ : ∃ k', nd.ids[j] = k' + 1 := ⟨nd.ids[j] - 1, by omega⟩
      have hsn : ((nd.ids.take j).map fun a_1 => denT a.s a_1).map tmA ++ [tmX (denT a.s (k' + 1))] = ((nd.ids.take (j + 1)).map fun a_1 => denT a.s a_1).map tmA := by
        rw [List.take_succ_eq_append_getElem hlt, List.map_append, List.map_append, ← tmA_eq, hk1]
        rfl
      rw [hk1] at hr hid
      refine ⟨j, rfl, (by omega), ?_⟩
      refine ⟨_, hmb, rn_cells hr ?_⟩
      refine ⟨_, LeL.refl _, ih k' (by omega) k' (bufH q ((b6, .cells (ndC nd)) :: X)) Hk _ (Nat.le_refl _) (by omega) hk' fun H' hA' => ?_⟩
      intro hz1 hz2; clear hz1 hz2
      refine ⟨(by show ((((nd.ids.take j).map fun a_1 => denT a.s a_1).map tmA).length + 1) * (80 + 1) ≤ 140737488355328; rw [hlen, List.length_take]; omega), ?_⟩
      refine own_ofP' (q := q) (HH := H') (H0 := bufH a.q (a.O ++ (b6, .cells (ndC nd)) :: X)) hA'.buf rfl (fun _ h => h) fun c H2 hp => ?_
      refine ⟨in64_of (by first | omega | (dsimp only; omega)) (by first | omega | (dsimp only; omega)), ?_⟩
      refine ⟨(j + 1, some c, (c.b, .cap c) :: H2), ⟨by simp only; omega, HasA.tobuf hp⟩, by (try dsimp only); omega, ?_⟩
      refine ⟨⟨Le.refl _, ⟨rfl, rfl⟩, Le.refl _, ⟨rfl, rfl⟩, Le.refl _, Le.refl _, Le.refl _, trivial⟩, ⟨⟨rfl, ⟨Le.refl _, Le.refl _, Le.refl _, Le.refl _, le_of_eq ?_, trivial⟩⟩, ⟨rfl, LeL.refl _⟩, trivial⟩, List.Sublist.refl _⟩
      show AV.sl (.own c) 5 _ = AV.sl (.own c) 5 _
      rw [← hsn]
      rfl
    · have hje : j = nd.count := by omega
      subst hje
      obtain ⟨H2, hs2, hA2⟩ := hk'.unbuf
      obtain ⟨H3, hs3, hA3⟩ := hA2.drop
      have hw : Le (.sl (ownQ q) 5 (((nd.ids.take nd.count).map fun a_1 => denT a.s a_1).map tmA)) (.sl .no 5 ((nd.ids.map fun a_1 => denT a.s a_1).map tmA)) := by
        rw [← hcnt, List.take_length]
        exact Le.own _ _ _
      have hle2 : Le (.tup [.agg [.i nd.t.kind, .i nd.t.n, .str nd.t.name, .sl .no 3 (nd.t.levels.map lvA), .sl (ownQ q) 5 (((nd.ids.take nd.count).map fun a_1 => denT a.s a_1).map tmA)], .b true]) (.tup [tmX (denT a.s (k + 1)), .b true]) := by
        rw [hden]
        exact Le.tup ⟨Le.agg ⟨Le.refl _, Le.refl _, Le.refl _, Le.refl _, hw, trivial⟩, Le.refl _, trivial⟩
      exact ⟨_, H3, hle2, hs3.trans hs2, hq H3 hA3⟩
end Go.Proofs.YtaldgcnhmnfocaaDoor

/-
  Arenas: the law's small functions. No condition.
-/
namespace Go.Proofs.YtaldgcnhmnfocaaDoor
open Go.RowKit

def bothT (t : Tm) : Tm := .mk 4 0 [] [] [t, t]
def var0 : Tm := .mk 1 0 [] [] []
set_option maxRecDepth 100000 in
theorem both05_con (t : Tm) : Ans Tryd.prog 17 [tmX t] (tmX (bothT t)) := by
  intro H Q hq
  refine con_of_awp (esc := fun _ => false) tab_ok mixed Tryd.func17 rfl (ent Tryd.func17 (by kernel_rfl) rfl) (by kernel_rfl) ?_
  intro hw hn
  clear hw hn
  have hle : ∀ o, Le (.agg [.i 4, .i 0, .str [], .sl .full 0 [], .sl o 5 [tmX t, tmX t]]) (tmX (bothT t)) := fun o => by
    show Le _ (.agg [.i 4, .i 0, .str [], .sl .no 3 [], .sl .no 5 [tmA t, tmA t]])
    rw [tmA_eq]
    exact Le.agg ⟨Le.refl _, Le.refl _, Le.refl _, Le.nil _ _, Le.own _ _ _, trivial⟩
  exact ⟨_, H, hle _, List.Sublist.refl _, hq⟩
set_option maxRecDepth 100000 in
theorem variable05_con : Ans Tryd.prog 18 [.i 0] (tmX var0) := by
  intro H Q hq
  refine con_of_awp (esc := fun _ => false) tab_ok mixed Tryd.func18 rfl (ent Tryd.func18 (by kernel_rfl) rfl) (by kernel_rfl) ?_
  intro hw hn
  clear hw hn
  have hle : Le (.agg [.i 1, .i 0, .str [], .sl .full 0 [], .sl .full 0 []]) (tmX var0) := Le.agg ⟨Le.refl _, Le.refl _, Le.refl _, Le.nil _ _, Le.nil _ _, trivial⟩
  exact ⟨_, H, hle, List.Sublist.refl _, hq⟩
set_option maxRecDepth 100000 in
theorem great05_con (o : Own) (t : Tm) : Ans Tryd.prog 6 [.sl o 5 [tmX t]] (.b false) := by
  intro H Q hq
  have hb : ((min t.big (300 + 1) : Nat) : Int) ≤ 301 := by omega
  refine con_of_awp (esc := fun _ => false) tab_ok mixed Tryd.func6 rfl (ent Tryd.func6 (by kernel_rfl) rfl) (by kernel_rfl) ?_
  intro hw hn
  clear hw hn
  refine ⟨Nat × Int, fun x => ⟨[(0, .g (.sl o 5 [tmX t])), (2, .g (.b false)), (3, .g (.i x.2)), (4, .g (.i x.1))], [], H⟩, fun x => x.1 ≤ 1 ∧ x.2 ≤ 301 * x.1 ∧ 0 ≤ x.2, fun x => 1 - x.1, ⟨(0, 0), ⟨Nat.zero_le _, by decide, by decide⟩, ?_⟩, ?_⟩
  · exact ⟨⟨Le.refl _, Le.refl _, Le.refl _, Le.refl _, trivial⟩, trivial, List.Sublist.refl _⟩
  · rintro ⟨k, n⟩ ⟨hk, hn, hn0⟩
    simp only at hk hn hn0
    refine ifB_dec (fun h1 => ?_) (fun h1 => ?_)
    · obtain rfl : k = 0 := by have h1 : (k : Int) < 1 := h1; omega
      refine ⟨0, rfl, _, rfl, ?_⟩
      refine ⟨_, LeL.refl _, tmBig_con 300 (by decide) _ t (Nat.le_refl _) _ _ ?_⟩
      intro hz1 hz2; clear hz1 hz2
      refine ⟨in64_of (by first | omega | (dsimp only; omega)) (by first | omega | (dsimp only; omega)), ?_⟩
      refine ifB_f (show ¬ (600 : Int) < n + ((min t.big (300 + 1) : Nat) : Int) by omega) ?_
      refine ⟨in64_of (by first | omega | (dsimp only; omega)) (by first | omega | (dsimp only; omega)), ?_⟩
      refine ⟨(1, n + ((min t.big (300 + 1) : Nat) : Int)), ⟨Nat.le_refl _, by simp only; omega, by simp only; omega⟩, by (try dsimp only); omega, ?_⟩
      exact ⟨⟨Le.refl _, Le.refl _, Le.refl _, Le.refl _, trivial⟩, trivial, List.Sublist.refl _⟩
    · exact ⟨_, H, Le.refl _, List.Sublist.refl _, hq⟩

/-! plain -/
theorem fit_right {t : Tm} (h : tmRight 4 1125899906842624 t = true) : Fit t ∧ t.nodes ≤ 2000 := by
  unfold tmRight at h
  simp only [Bool.and_eq_true, decide_eq_true_eq] at h
  exact ⟨⟨_, h.2⟩, by omega⟩
theorem good_nil : Good [] := fun i h => absurd h (by simp)
theorem aHold_both {t : Tm} (hf : Fit (bothT t)) {s : List Nd} (hg : Good s) (hl : (aHold t s).2 = (aHold t s).1.length) :
    aHold (bothT t) s = ((aHold t s).1 ++ [mkNd (bothT t) [(aHold t s).2, (aHold t s).2]], (aHold t s).1.length + 1) := by
  have hft : Fit t := hf.parts.2.2.1 t (by simp [bothT, Tm.args])
  have h2 : aHoldL (bothT t).args s = ((aHold t s).1, [(aHold t s).2, (aHold t s).2]) := by
    show aHoldL [t, t] s = _
    rw [aHoldL, aHoldL, aHoldL, aHold_again t s _ (List.prefix_refl _)]
  rw [aHold_eq, h2]
  exact aNode_new (aHold_good t s hg hft) hf rfl (by rw [hl]; simp)
theorem aHold_all {t : Tm} (hf : Fit t) : (firsts (rchAll (aHold t []).1 (aHold t []).1.length)).length = (aHold t []).1.length := by
  have hg := aHold_good t [] good_nil hf
  have hl := aHold_last hf
  have h1 := (aHold_id t []).1
  refine rchAll_eq hg (by omega) (Nat.le_refl _) fun j hj1 hj2 => ?_
  have := aHold_rch t [] good_nil hf j hj1 hj2
  rwa [hl] at this
/-- the last node -/
theorem aHold_top {t : Tm} (hf : Fit t) : ∃ (K : Nat) (hK : K < (aHold t []).1.length), (aHold t []).1.length = K + 1 ∧ (aHold t []).2 = K + 1 ∧ (aHold t []).1[K].key.k = t.kind ∧ (aHold t []).1[K].count = t.args.length ∧ denT (aHold t []).1 (K + 1) = t ∧
    ∀ (i : Nat) (h : i < t.args.length), ∃ c, argI (aHold t []).1[K] i = c + 1 ∧ c < K ∧ denT (aHold t []).1 (c + 1) = t.args[i] := by
  have hg := aHold_good t [] good_nil hf
  have hl := aHold_last hf
  have h1 := (aHold_id t []).1
  have hd := aHold_den t [] good_nil hf
  have hids := aHoldL_ids t.args []
  have hgl := aHoldL_good t.args [] good_nil hf.parts.2.2.1
  have hat := aNode_at hf hgl hids.1
  rw [← aHold_eq] at hat
  obtain ⟨i, nd, e1, e2, e3, e4, e5⟩ := hat
  obtain ⟨hK, e6⟩ := List.getElem?_eq_some_iff.1 e2
  refine ⟨i, hK, by omega, e1, ?_⟩
  have hgn := hg i hK
  have hden := denT_eq hg hK
  have hdt : denT (aHold t []).1 (i + 1) = t := by
    rw [e1] at hd
    exact hd
  rw [e6] at hgn hden ⊢
  have hle := hgn.le
  have har := arity_le nd.t.kind
  have hal := hf.parts.1
  have hk : nd.t.kind = t.kind := by rw [e3]; rfl
  have hc : nd.count = t.args.length := by rw [hle, hk, hal]
  refine ⟨by rw [hgn.k, hk], hc, hdt, fun j hj => ?_⟩
  have hlt : j < nd.ids.length := by rw [e4, hids.1]; exact hj
  have hmem := hgn.ids _ (List.getElem_mem hlt)
  have harg : argI nd j = nd.ids[j] := by
    unfold argI
    rw [if_neg (by omega)]
    have e : nd.ids[j]? = [nd.key.a, nd.key.b, nd.key.c][j]? := by
      show ([nd.key.a, nd.key.b, nd.key.c].take nd.count)[j]? = _
      rw [List.getElem?_take]
      exact if_pos (by omega)
    rw [List.getElem?_eq_getElem hlt] at e
    have hj3 : j = 0 ∨ j = 1 ∨ j = 2 := by omega
    rcases hj3 with rfl | rfl | rfl <;> exact (Option.some.inj e).symm
  refine ⟨nd.ids[j] - 1, by rw [harg]; omega, by omega, ?_⟩
  have hargs : t.args = nd.ids.map fun a => denT (aHold t []).1 a := by
    have := congrArg Tm.args (hdt.symm.trans hden)
    exact this
  have : t.args[j] = denT (aHold t []).1 nd.ids[j] := by
    have h := congrArg (·[j]?) hargs
    simp only [List.getElem?_map, List.getElem?_eq_getElem hlt, List.getElem?_eq_getElem hj, Option.map_some] at h
    exact Option.some.inj h
  rw [this, show nd.ids[j] - 1 + 1 = nd.ids[j] by omega]
end Go.Proofs.YtaldgcnhmnfocaaDoor

/-
  Arenas: the law is alive. No condition.
-/
namespace Go.Proofs.YtaldgcnhmnfocaaDoor
open Go.RowKit

section
variable {a : Ar} {X H : Heap} {Q : AV → Heap → Prop}
theorem arKind_as (h : HasA a X H) (hs : a.s.length ≤ 1000000000) {k : Nat} (hk : k < a.s.length) {z : Int} (e : a.s[k].key.k = z) (hq : Q (.i z) H) : Con Tryd.prog 12 [.ptr a.ab 0, .i ((k + 1 : Nat) : Int)] H Q := by
  subst e
  exact arKind_con h hs hk hq
theorem arLoose_as (h : HasA a X H) (hs : a.s.length ≤ 1000000000) {k : Nat} (hk : k < a.s.length) {z : Int} (e : a.s[k].loose = z) (hq : Q (.i z) H) : Con Tryd.prog 19 [.ptr a.ab 0, .i ((k + 1 : Nat) : Int)] H Q := by
  subst e
  exact arLoose_con h hs hk hq
theorem arArg_as (h : HasA a X H) (hs : a.s.length ≤ 1000000000) {k : Nat} (hk : k < a.s.length) (hc : a.s[k].count ≤ 3) (i : Int) {z : Nat} (e : argI a.s[k] i = z) (hq : Q (.i (z : Nat)) H) : Con Tryd.prog 13 [.ptr a.ab 0, .i ((k + 1 : Nat) : Int), .i i] H Q := by
  subst e
  exact arArg_con h hs hk hc i hq
theorem arCount_as (h : HasA a X H) {z : Nat} (e : a.s.length = z) (hq : Q (.i (z : Nat)) H) : Con Tryd.prog 10 [.ptr a.ab 0] H Q := by
  subst e
  exact arCount_con h hq
theorem arShared_as (hg : Good a.s) (hs : a.s.length ≤ 100000) {k : Nat} (hk : k < a.s.length) (hA : HasA a X H) {z : Nat} (e : (firsts (rchAll a.s (k + 1))).length = z) (hq : ∀ H', HasA a X H' → Q (.i (z : Nat)) H') : Con Tryd.prog 11 [.ptr a.ab 0, .i ((k + 1 : Nat) : Int)] H Q := by
  subst e
  exact arShared_con hg hs hk hA hq
theorem arTerm_as (hg : Good a.s) (hs : a.s.length ≤ 100000) {k : Nat} (hk : k < a.s.length) (hA : HasA a X H) {t : Tm} (e : denT a.s (k + 1) = t) (hq : ∀ H', HasA a X H' → Q (.tup [tmX t, .b true]) H') : Con Tryd.prog 14 [.ptr a.ab 0, .i ((k + 1 : Nat) : Int)] H Q := by
  subst e
  exact arTerm_con hg hs k k X H Q (Nat.le_refl _) hk hA hq
theorem HoldT_as (t : Tm) (hr : tmRight 4 1125899906842624 t = true) (hA : HasA a X H) (hg : Good a.s) (hm1 : (a.s.length : Int) + t.nodes ≤ a.most) (hm2 : a.most ≤ 1048576) {s : List Nd} {n : Nat} (e : aHold t a.s = (s, n))
    (hq : ∀ q' H', HasA ⟨a.ab, a.bm, a.most, s, q'⟩ X H' → Q (.tup [.i (n : Nat), .i 0]) H') : Con Tryd.prog 9 [.ptr a.ab 0, tmX t] H Q :=
  HoldT_con t a X H hr (fit_right hr).2 hA hg hm1 hm2 (by rw [e]; exact hq)
end
theorem Con.hperm {P : Program} {f : FuncId} {args : List AV} {H : Heap} {Q : AV → Heap → Prop} (h : Con P f args H fun r H' => ∃ H2 : Heap, H2.Perm H' ∧ Q r H2) : Con P f args H Q :=
  fun M w vs h0 h1 h2 => (h M w vs h0 h1 h2).mono fun _ _ ⟨M', r, _, a, b, c, d, H2, e, e3⟩ =>
    ⟨M', r, H2, a, ⟨b.mem, fun k x hx => b.obj k x (e.subset hx), ((e.map Prod.fst).nodup_iff).2 b.nodup⟩, fun k hk => c k ((e.map Prod.fst).subset hk), d, e3⟩
theorem HasA.out {a : Ar} {X H : Heap} (h : HasA a X H) : ∃ H' : Heap, List.Sublist H' H ∧ X.Perm H' := by
  have h1 : H.Perm (bufH a.q (a.O ++ X)) := h
  have h2 : ∃ H' : Heap, List.Sublist H' H ∧ H'.Perm (a.O ++ X) := by
    cases hq : a.q with
    | none => rw [hq] at h1; exact ⟨H, List.Sublist.refl _, h1⟩
    | some c => rw [hq] at h1; exact perm_drop h1
  obtain ⟨H1, s1, p1⟩ := h2
  obtain ⟨H2, s2, p2⟩ := perm_drop (show H1.Perm (_ :: _ :: X) from p1)
  obtain ⟨H3, s3, p3⟩ := perm_drop p2
  exact ⟨H3, s3.trans (s2.trans s1), p3.symm⟩
def tm2 : Tm := bothT (bothT var0)
def s3 : List Nd := [mkNd var0 [], mkNd (bothT var0) [1, 1], mkNd tm2 [2, 2]]
theorem right0 : tmRight 4 1125899906842624 var0 = true := by decide
theorem right2 : tmRight 4 1125899906842624 tm2 = true := by decide
theorem right1 : tmRight 4 1125899906842624 (bothT var0) = true := by decide
theorem hold0 : aHold var0 [] = ([mkNd var0 []], 1) := by
  rw [aHold_eq]
  rfl
theorem hold2 : aHold tm2 [] = (s3, 3) := by
  have h1 : aHold (bothT var0) [] = ([mkNd var0 [], mkNd (bothT var0) [1, 1]], 2) := by
    have := aHold_both (t := var0) (fit_right right1).1 good_nil (by rw [hold0]; rfl)
    rw [hold0] at this
    exact this
  have := aHold_both (t := bothT var0) (fit_right right2).1 good_nil (by rw [h1]; rfl)
  rw [h1] at this
  exact this
theorem hold02 : aHold var0 s3 = (s3, 1) := by
  have := aHold_again var0 [] s3 (by rw [hold0]; exact ⟨_, rfl⟩)
  rw [hold0] at this
  exact this
theorem s3_good : Good s3 := by
  have := aHold_good tm2 [] good_nil (fit_right right2).1
  rw [hold2] at this
  exact this
theorem s3_den : denT s3 3 = tm2 := by
  have := aHold_den tm2 [] good_nil (fit_right right2).1
  rw [hold2] at this
  exact this
theorem s3_all : (firsts (rchAll s3 (2 + 1))).length = 3 := by
  have := aHold_all (fit_right right2).1
  rw [hold2] at this
  exact this
theorem s3_needs : tmNeeds tm2 = 1 := by decide
set_option maxRecDepth 100000 in
set_option maxHeartbeats 4000000 in
theorem alive05_con : Ans Tryd.prog 5 [] (.b true) := by
  intro H Q hq
  refine Con.hperm ?_
  refine con_of_sem tab_ok Tryd.func5 rfl (ent Tryd.func5 (by kernel_rfl) rfl) (by kernel_rfl) ?_
  intro hw hn
  clear hw hn
  refine sem_seq (esc := fun _ => false) tab_ok mixed ?_
  refine sem_seq (esc := fun _ => false) tab_ok mixed ?_
  refine ⟨_, LeL.refl _, arNew_con 10 (by decide) (by decide) fun ab bm H1 hA => ?_⟩
  intro hz1 hz2; clear hz1 hz2
  refine sem_le ⟨[(0, .g (.b false)), (1, .g (.ptr ab 0)), (2, .g (.i 0))], [], H1⟩ ?_ ?_
  · exact ⟨⟨Le.refl _, Le.refl _, Le.refl _, trivial⟩, trivial, List.Sublist.refl _⟩
  have hA : HasA ⟨ab, bm, 10, [], none⟩ H H1 := hA
  refine sem_seq (esc := fun _ => false) tab_ok mixed ?_
  refine sem_seq (esc := fun _ => false) tab_ok mixed ?_
  refine ⟨_, LeL.refl _, variable05_con _ _ ?_⟩
  intro hz1 hz2; clear hz1 hz2
  refine ⟨_, LeL.refl _, both05_con var0 _ _ ?_⟩
  intro hz1 hz2; clear hz1 hz2
  refine ⟨_, LeL.refl _, both05_con (bothT var0) _ _ ?_⟩
  intro hz1 hz2; clear hz1 hz2
  refine sem_le ⟨[(0, .g (.b false)), (1, .g (.ptr ab 0)), (2, .g (.i 0)), (3, .lp 3 0)], [(3, (tmX tm2).cells)], H1⟩ ?_ ?_
  · exact ⟨⟨Le.refl _, Le.refl _, Le.refl _, ⟨rfl, rfl⟩, trivial⟩, ⟨⟨rfl, LeL.refl _⟩, trivial⟩, List.Sublist.refl _⟩
  refine sem_seq (esc := fun _ => false) tab_ok mixed ?_
  refine ⟨_, LeL.refl _, HoldT_as (a := ⟨ab, bm, 10, [], none⟩) tm2 right2 hA good_nil (show (([] : List Nd).length : Int) + tm2.nodes ≤ 10 by decide) (show (10 : Int) ≤ 1048576 by decide) hold2 fun q1 H2 hA => ?_⟩
  intro hz1 hz2; clear hz1 hz2
  refine sem_le ⟨[(0, .g (.b false)), (1, .g (.ptr ab 0)), (2, .g (.i 0)), (3, .lp 3 0), (4, .g (.i 3))], [(3, (tmX tm2).cells)], H2⟩ ?_ ?_
  · exact ⟨⟨Le.refl _, Le.refl _, Le.refl _, ⟨rfl, rfl⟩, Le.refl _, trivial⟩, ⟨⟨rfl, LeL.refl _⟩, trivial⟩, List.Sublist.refl _⟩
  have hA : HasA ⟨ab, bm, 10, s3, q1⟩ H H2 := hA
  refine sem_seq (esc := fun _ => false) tab_ok mixed ?_
  refine ⟨_, LeL.refl _, variable05_con _ _ ?_⟩
  intro hz1 hz2; clear hz1 hz2
  refine ⟨_, LeL.refl _, HoldT_as (a := ⟨ab, bm, 10, s3, q1⟩) var0 right0 hA s3_good (show (s3.length : Int) + var0.nodes ≤ 10 by decide) (show (10 : Int) ≤ 1048576 by decide) hold02 fun q2 H3 hA => ?_⟩
  intro hz1 hz2; clear hz1 hz2
  refine sem_le ⟨[(0, .g (.b false)), (1, .g (.ptr ab 0)), (2, .g (.i 0)), (3, .lp 3 0), (4, .g (.i 3)), (5, .g (.i 1)), (6, .g (.i 0))], [(3, (tmX tm2).cells)], H3⟩ ?_ ?_
  · exact ⟨⟨Le.refl _, Le.refl _, Le.refl _, ⟨rfl, rfl⟩, Le.refl _, Le.refl _, Le.refl _, trivial⟩, ⟨⟨rfl, LeL.refl _⟩, trivial⟩, List.Sublist.refl _⟩
  have hA : HasA ⟨ab, bm, 10, s3, q2⟩ H H3 := hA
  refine sem_seq (esc := fun _ => false) tab_ok mixed ?_
  refine ⟨_, LeL.refl _, arTerm_as (a := ⟨ab, bm, 10, s3, q2⟩) s3_good (show s3.length ≤ 100000 by decide) (k := 2) (show 2 < s3.length by decide) hA s3_den fun H4 hA => ?_⟩
  intro hz1 hz2; clear hz1 hz2
  refine sem_le ⟨[(0, .g (.b false)), (1, .g (.ptr ab 0)), (2, .g (.i 0)), (3, .lp 3 0), (4, .g (.i 3)), (5, .g (.i 1)), (6, .g (.i 0)), (7, .lp 7 0), (8, .g (.b true))], [(7, (tmX tm2).cells), (3, (tmX tm2).cells)], H4⟩ ?_ ?_
  · exact ⟨⟨Le.refl _, Le.refl _, Le.refl _, ⟨rfl, rfl⟩, Le.refl _, Le.refl _, Le.refl _, ⟨rfl, rfl⟩, Le.refl _, trivial⟩, ⟨⟨rfl, LeL.refl _⟩, ⟨rfl, LeL.refl _⟩, trivial⟩, List.Sublist.refl _⟩
  refine sem_of (esc := fun _ => false) tab_ok mixed ?_
  refine ⟨[tmX tm2, tmX tm2], LeL.refl _, (SameTerm_con _ tm2 tm2 (Nat.le_refl _)).as ((tmEq_iff _ _).2 rfl) _ _ ?_⟩
  intro hz1 hz2; clear hz1 hz2
  refine ⟨_, LeL.refl _, arCount_as hA (z := 3) rfl ?_⟩
  intro hz1 hz2; clear hz1 hz2
  refine ⟨_, LeL.refl _, arKind_as hA (show s3.length ≤ 1000000000 by decide) (k := 2) (show 2 < s3.length by decide) (z := 4) rfl ?_⟩
  intro hz1 hz2; clear hz1 hz2
  refine ⟨_, LeL.refl _, arArg_as hA (show s3.length ≤ 1000000000 by decide) (k := 2) (show 2 < s3.length by decide) (show s3[2].count ≤ 3 by decide) 1 (z := 2) rfl ?_⟩
  intro hz1 hz2; clear hz1 hz2
  refine ⟨_, LeL.refl _, arLoose_as hA (show s3.length ≤ 1000000000 by decide) (k := 2) (show 2 < s3.length by decide) (z := 1) s3_needs ?_⟩
  intro hz1 hz2; clear hz1 hz2
  refine ⟨_, LeL.refl _, arShared_as s3_good (show s3.length ≤ 100000 by decide) (k := 2) (show 2 < s3.length by decide) hA s3_all fun H5 hA => ?_⟩
  intro hz1 hz2; clear hz1 hz2
  obtain ⟨H6, hs6, hp6⟩ := hA.out
  exact ⟨_, H6, Le.refl _, hs6, _, hp6, hq⟩
end Go.Proofs.YtaldgcnhmnfocaaDoor

/-
  ArenaParts: the law answers true. No condition.
-/
namespace Go.Proofs.YtaldgcnhmnfocaaDoor
open Go.RowKit

theorem argI_neg (nd : Nd) : argI nd (-1) = 0 := by unfold argI; rw [if_pos (Or.inl (by decide))]
theorem argI_out (nd : Nd) {n : Nat} (h : nd.count = n) : argI nd (n : Nat) = 0 := by unfold argI; rw [if_pos (Or.inr (by omega))]
set_option maxRecDepth 100000 in
set_option maxHeartbeats 4000000 in
theorem arenaParts_con (t : Tm) : Ans Tryd.prog 3 [tmX t] (.b true) := by
  intro H Q hq
  refine Con.hperm ?_
  refine con_of_sem tab_ok Tryd.func3 rfl (ent Tryd.func3 (by kernel_rfl) rfl) (by kernel_rfl) ?_
  intro hw hn
  clear hw hn
  refine sem_seq (esc := fun _ => false) tab_ok mixed ?_
  refine sem_seq (esc := fun _ => false) tab_ok mixed ?_
  refine ⟨_, LeL.refl _, alive05_con _ _ ?_⟩
  intro hz1 hz2; clear hz1 hz2
  refine sem_seq (esc := fun _ => false) tab_ok mixed ?_
  refine ⟨[.sl .no 5 [tmX t]], ⟨Le.own _ _ _, trivial⟩, great05_con .no t _ _ ?_⟩
  intro hz1 hz2; clear hz1 hz2
  by_cases hr : tmRight 4 1125899906842624 t = true
  rotate_left
  · refine ⟨_, LeL.refl _, (ref04Any_con t 4).no hr _ _ ?_⟩
    intro hz1 hz2; clear hz1 hz2
    exact ⟨_, H, Le.refl _, List.Sublist.refl _, _, List.Perm.refl _, hq⟩
  refine ⟨_, LeL.refl _, (ref04Any_con t 4).yes hr _ _ ?_⟩
  intro hz1 hz2; clear hz1 hz2
  refine sem_le ⟨[(1, .lp 1 0), (2, .g (.b false))], [(1, (tmX t).cells)], H⟩ ?_ ?_
  · exact ⟨⟨⟨rfl, rfl⟩, Le.refl _, trivial⟩, ⟨⟨rfl, LeL.refl _⟩, trivial⟩, List.Sublist.refl _⟩
  obtain ⟨hf, hn2⟩ := fit_right hr
  have hg := aHold_good t [] good_nil hf
  have hall := aHold_all hf
  have hlen := aHold_len t []
  obtain ⟨K, hK, e1, e2, e3, e4, e5, e6⟩ := aHold_top hf
  obtain ⟨S, hS⟩ : ∃ S, aHold t [] = (S, K + 1) := ⟨(aHold t []).1, by rw [← e2]⟩
  rw [hS] at hg hall hlen
  simp only [hS] at hK e1 e3 e4 e5 e6
  rw [e1] at hall
  have hlen : K + 1 ≤ t.nodes := by simpa [e1] using hlen
  have hc3 : S[K].count ≤ 3 := by rw [e4, hf.parts.1]; exact arity_le _
  refine sem_seq (esc := fun _ => false) tab_ok mixed ?_
  refine ⟨_, LeL.refl _, arNew_con 1048576 (by decide) (by decide) fun ab bm H1 hA => ?_⟩
  intro hz1 hz2; clear hz1 hz2
  refine sem_le ⟨[(1, .lp 1 0), (2, .g (.b false)), (3, .g (.ptr ab 0)), (4, .g (.i 0))], [(1, (tmX t).cells)], H1⟩ ?_ ?_
  · exact ⟨⟨⟨rfl, rfl⟩, Le.refl _, Le.refl _, Le.refl _, trivial⟩, ⟨⟨rfl, LeL.refl _⟩, trivial⟩, List.Sublist.refl _⟩
  have hA : HasA ⟨ab, bm, 1048576, [], none⟩ H H1 := hA
  refine sem_seq (esc := fun _ => false) tab_ok mixed ?_
  refine sem_seq (esc := fun _ => false) tab_ok mixed ?_
  refine ⟨_, LeL.refl _, HoldT_as (a := ⟨ab, bm, 1048576, [], none⟩) t hr hA good_nil (show (([] : List Nd).length : Int) + t.nodes ≤ 1048576 by simp only [List.length_nil]; omega) (show (1048576 : Int) ≤ 1048576 by decide) hS fun q1 H2 hA => ?_⟩
  intro hz1 hz2; clear hz1 hz2
  refine sem_le ⟨[(1, .lp 1 0), (2, .g (.b false)), (3, .g (.ptr ab 0)), (4, .g (.i 0)), (5, .g (.i ((K + 1 : Nat) : Int)))], [(1, (tmX t).cells)], H2⟩ ?_ ?_
  · exact ⟨⟨⟨rfl, rfl⟩, Le.refl _, Le.refl _, Le.refl _, Le.refl _, trivial⟩, ⟨⟨rfl, LeL.refl _⟩, trivial⟩, List.Sublist.refl _⟩
  have hA : HasA ⟨ab, bm, 1048576, S, q1⟩ H H2 := hA
  have hS1 : S.length ≤ 100000 := by omega
  have hS2 : S.length ≤ 1000000000 := by omega
  refine sem_seq (esc := fun _ => false) tab_ok mixed ?_
  refine ⟨[0, 1, 2, 3, 4, 5, 6, 7, 8, 9, 10, 12, 11, 13, 14, 15, 16, 17, 19, 20, 18, 21, 22], [], ord_fast (by kernel_rfl), by simp, ?_⟩
  refine ⟨_, LeL.refl _, arCount_as hA (z := K + 1) e1 ?_⟩
  intro hz1 hz2; clear hz1 hz2
  refine ifB_t rfl ?_
  refine ⟨_, LeL.refl _, arShared_as (a := ⟨ab, bm, 1048576, S, q1⟩) hg hS1 hK hA hall fun H3 hA => ?_⟩
  intro hz1 hz2; clear hz1 hz2
  refine ifB_t rfl ?_
  refine ⟨_, LeL.refl _, arKind_as (a := ⟨ab, bm, 1048576, S, q1⟩) hA hS2 hK e3 ?_⟩
  intro hz1 hz2; clear hz1 hz2
  refine ifB_t rfl ?_
  have hA : HasA ⟨ab, bm, 1048576, S, q1⟩ H H3 := hA
  refine sem_le ⟨[(1, .lp 1 0), (2, .g (.b false)), (3, .g (.ptr ab 0)), (4, .g (.i 0)), (5, .g (.i ((K + 1 : Nat) : Int)))], [(1, (tmX t).cells)], H3⟩ ?_ ?_
  · exact ⟨⟨⟨rfl, rfl⟩, Le.refl _, Le.refl _, Le.refl _, Le.refl _, trivial⟩, ⟨⟨rfl, LeL.refl _⟩, trivial⟩, List.Sublist.refl _⟩
  refine sem_seq (esc := fun _ => false) tab_ok mixed ?_
  refine ⟨Nat × Heap, fun x => ⟨[(1, .lp 1 0), (2, .g (.b false)), (3, .g (.ptr ab 0)), (5, .g (.i ((K + 1 : Nat) : Int))), (6, .g (.i x.1))], [(1, (tmX t).cells)], x.2⟩, fun x => x.1 ≤ t.args.length ∧ HasA ⟨ab, bm, 1048576, S, q1⟩ H x.2, fun x => t.args.length - x.1, ⟨(0, H3), ⟨Nat.zero_le _, hA⟩, ?_⟩, ?_⟩
  · exact ⟨⟨⟨rfl, rfl⟩, Le.refl _, Le.refl _, Le.refl _, Le.refl _, trivial⟩, ⟨⟨rfl, LeL.refl _⟩, trivial⟩, List.Sublist.refl _⟩
  · rintro ⟨i, Hk⟩ ⟨hi, hA⟩
    simp only at hi hA
    have hml : (t.args.map tmA).length = t.args.length := List.length_map _
    refine ifB_dec (fun g1 => ?_) (fun g1 => ?_)
    · have hlt : i < t.args.length := by
        have g1 : (i : Int) < ((t.args.map tmA).length : Nat) := g1
        omega
      obtain ⟨c, c1, c2, c3⟩ := e6 i hlt
      have hle := rchAll_le hg (show 1 ≤ c + 1 by omega) (show c + 1 ≤ S.length by omega)
      obtain ⟨m, hm⟩ : ∃ m, (firsts (rchAll S (c + 1))).length = m := ⟨_, rfl⟩
      rw [hm] at hle
      refine ⟨_, LeL.refl _, arArg_as (a := ⟨ab, bm, 1048576, S, q1⟩) hA hS2 hK hc3 i c1 ?_⟩
      intro hz1 hz2; clear hz1 hz2
      refine ⟨_, LeL.refl _, arTerm_as (a := ⟨ab, bm, 1048576, S, q1⟩) hg hS1 (k := c) (show c < S.length by omega) hA c3 fun H4 hA => ?_⟩
      intro hz1 hz2; clear hz1 hz2
      refine ⟨[0, 1, 2, 3, 4, 5, 6, 7, 8, 9, 10, 11, 12, 13, 14, 15, 16, 17, 18, 19, 20, 21, 22, 23, 25, 26, 24, 27, 28, 29], [], ord_fast (by kernel_rfl), by simp, ?_⟩
      refine ifB_f (show ¬ ((K + 1 : Nat) : Int) ≤ ((c + 1 : Nat) : Int) by omega) ?_
      refine ⟨i, rfl, _, tmAt' hlt, ?_⟩
      refine ⟨[tmX t.args[i], tmX t.args[i]], LeL.refl _, (SameTerm_con _ t.args[i] t.args[i] (Nat.le_refl _)).as ((tmEq_iff _ _).2 rfl) _ _ ?_⟩
      intro hz1 hz2; clear hz1 hz2
      refine ⟨_, LeL.refl _, arShared_as (a := ⟨ab, bm, 1048576, S, q1⟩) hg hS1 (k := c) (show c < S.length by omega) hA hm fun H5 hA => ?_⟩
      intro hz1 hz2; clear hz1 hz2
      refine ⟨_, LeL.refl _, arShared_as (a := ⟨ab, bm, 1048576, S, q1⟩) hg hS1 hK hA hall fun H6 hA => ?_⟩
      intro hz1 hz2; clear hz1 hz2
      refine ifB_f (show ¬ ((K + 1 : Nat) : Int) ≤ (m : Nat) by omega) ?_
      refine ⟨in64_of (by first | omega | (dsimp only; omega)) (by first | omega | (dsimp only; omega)), ?_⟩
      refine ⟨(i + 1, H6), ⟨by simp only; omega, hA⟩, by (try dsimp only); omega, ?_⟩
      exact ⟨⟨⟨rfl, rfl⟩, Le.refl _, Le.refl _, Le.refl _, Le.refl _, trivial⟩, ⟨⟨rfl, LeL.refl _⟩, trivial⟩, List.Sublist.refl _⟩
    · refine sem_of (esc := fun _ => false) tab_ok mixed ?_
      refine ⟨[0, 1, 2, 3, 4, 5, 6, 7, 8, 9, 10, 11, 12, 13, 14, 15, 17, 16, 18, 19, 20, 21], [], ord_fast (by kernel_rfl), by simp, ?_⟩
      refine ⟨_, LeL.refl _, arArg_as (a := ⟨ab, bm, 1048576, S, q1⟩) hA hS2 hK hc3 ((t.args.map tmA).length : Nat) (z := 0) (argI_out _ (by rw [e4, hml])) ?_⟩
      intro hz1 hz2; clear hz1 hz2
      refine ⟨_, LeL.refl _, arArg_as (a := ⟨ab, bm, 1048576, S, q1⟩) hA hS2 hK hc3 (-1) (z := 0) (argI_neg _) ?_⟩
      intro hz1 hz2; clear hz1 hz2
      refine ⟨_, LeL.refl _, arShared_as (a := ⟨ab, bm, 1048576, S, q1⟩) hg hS1 hK hA hall fun H4 hA => ?_⟩
      intro hz1 hz2; clear hz1 hz2
      refine ⟨_, LeL.refl _, ref04Nodes_con 2000 (by decide) _ t (Nat.le_refl _) _ _ ?_⟩
      intro hz1 hz2; clear hz1 hz2
      refine ifB_t (show ((K + 1 : Nat) : Int) ≤ ((min t.nodes (2000 + 1) : Nat) : Int) by omega) ?_
      obtain ⟨H6, hs6, hp6⟩ := hA.out
      exact ⟨_, H6, Le.refl _, hs6, _, hp6, hq⟩
end Go.Proofs.YtaldgcnhmnfocaaDoor

/-
  ArenaShares: the law answers true. No condition.
-/
namespace Go.Proofs.YtaldgcnhmnfocaaDoor
open Go.RowKit

def itB (t : Tm) : Nat → Tm
  | 0 => t
  | j + 1 => bothT (itB t j)
theorem right_both {t : Tm} (h : tmRight 4 1125899906842624 t = true) (hn : (bothT t).nodes ≤ 2000) : tmRight 4 1125899906842624 (bothT t) = true := by
  unfold tmRight at h ⊢
  simp only [Bool.and_eq_true, decide_eq_true_eq] at h ⊢
  refine ⟨⟨⟨⟨by decide, by decide⟩, by decide⟩, hn⟩, ?_⟩
  have h2 := h.2
  generalize min (1125899906842624 : Int) 1125899906842624 = v at h2 ⊢
  show (tmNode v 4 0 [] 0 2 && lvRightL 4 [] && (tmFit 4 t v && (tmFit 4 t v && tmFitL 4 4 [] 2 v))) = true
  rw [h2]
  rfl
theorem both_nodes (t : Tm) : (bothT t).nodes = 2 * t.nodes + 1 := by
  have : (bothT t).nodes = Lv.nodesL [] + Tm.nodesL [t, t] + 1 := (bothT t).nodes_eq
  rw [this]
  simp [Lv.nodesL, Tm.nodesL]
  omega
theorem aHold_step {t : Tm} (hf : Fit t) (hb : Fit (bothT t)) : aHold (bothT t) (aHold t []).1 = ((aHold t []).1 ++ [mkNd (bothT t) [(aHold t []).1.length, (aHold t []).1.length]], (aHold t []).1.length + 1) := by
  have hg := aHold_good t [] good_nil hf
  have hl := aHold_last hf
  have h1 := aHold_again t [] _ (List.prefix_refl (aHold t []).1)
  have h2 : aHoldL (bothT t).args (aHold t []).1 = ((aHold t []).1, [(aHold t []).1.length, (aHold t []).1.length]) := by
    show aHoldL [t, t] _ = _
    rw [aHoldL, aHoldL, aHoldL, h1, hl]
    simp only
    rw [h1, hl]
  rw [aHold_eq, h2]
  exact aNode_new hg hb rfl (by simp)
theorem aHold_stepE {t : Tm} (hf : Fit t) (hb : Fit (bothT t)) : (aHold (bothT t) []).1 = (aHold t []).1 ++ [mkNd (bothT t) [(aHold t []).1.length, (aHold t []).1.length]] := by
  have hl := aHold_last hf
  rw [aHold_both hb good_nil hl, hl]
theorem at_snoc {α : Type} {s : List α} {x : α} {S : List α} (e : S = s ++ [x]) : ∃ h : s.length < S.length, S[s.length] = x := by
  subst e
  exact ⟨by simp, by simp⟩
set_option maxRecDepth 100000 in
set_option maxHeartbeats 4000000 in
theorem arenaShares_con (t : Tm) (n : Int) : Ans Tryd.prog 4 [tmX t, .i n] (.b true) := by
  intro H Q hq
  refine Con.hperm ?_
  refine con_of_sem tab_ok Tryd.func4 rfl (ent Tryd.func4 (by kernel_rfl) rfl) (by kernel_rfl) ?_
  intro hw hn
  clear hw hn
  refine sem_seq (esc := fun _ => false) tab_ok mixed ?_
  refine sem_seq (esc := fun _ => false) tab_ok mixed ?_
  refine ⟨_, LeL.refl _, alive05_con _ _ ?_⟩
  intro hz1 hz2; clear hz1 hz2
  refine sem_seq (esc := fun _ => false) tab_ok mixed ?_
  refine ⟨[.sl .no 5 [tmX t]], ⟨Le.own _ _ _, trivial⟩, great05_con .no t _ _ ?_⟩
  intro hz1 hz2; clear hz1 hz2
  by_cases hr : tmRight 4 1125899906842624 t = true
  rotate_left
  · refine ⟨_, LeL.refl _, (ref04Any_con t 4).no hr _ _ ?_⟩
    intro hz1 hz2; clear hz1 hz2
    exact ⟨_, H, Le.refl _, List.Sublist.refl _, _, List.Perm.refl _, hq⟩
  refine ⟨_, LeL.refl _, (ref04Any_con t 4).yes hr _ _ ?_⟩
  intro hz1 hz2; clear hz1 hz2
  refine ifB_dec (fun n1 => ?_) (fun n1 => ?_)
  · exact ⟨_, H, Le.refl _, List.Sublist.refl _, _, List.Perm.refl _, hq⟩
  refine ifB_dec (fun n2 => ?_) (fun n2 => ?_)
  · exact ⟨_, H, Le.refl _, List.Sublist.refl _, _, List.Perm.refl _, hq⟩
  refine sem_le ⟨[(1, .g (.i n)), (2, .lp 2 0), (4, .g (.b false))], [(2, (tmX t).cells)], H⟩ ?_ ?_
  · exact ⟨⟨Le.refl _, ⟨rfl, rfl⟩, Le.refl _, trivial⟩, ⟨⟨rfl, LeL.refl _⟩, trivial⟩, List.Sublist.refl _⟩
  obtain ⟨hf, hn2⟩ := fit_right hr
  have hl0 := aHold_last hf
  have hlen := aHold_len t []
  simp only [List.length_nil, Nat.zero_add] at hlen
  obtain ⟨F, hF⟩ : ∃ F, F = (aHold t []).1.length := ⟨_, rfl⟩
  refine sem_seq (esc := fun _ => false) tab_ok mixed ?_
  refine ⟨_, LeL.refl _, arNew_con 1048576 (by decide) (by decide) fun ab bm H1 hA => ?_⟩
  intro hz1 hz2; clear hz1 hz2
  refine sem_le ⟨[(1, .g (.i n)), (2, .lp 2 0), (4, .g (.b false)), (5, .g (.ptr ab 0)), (6, .g (.i 0))], [(2, (tmX t).cells)], H1⟩ ?_ ?_
  · exact ⟨⟨Le.refl _, ⟨rfl, rfl⟩, Le.refl _, Le.refl _, Le.refl _, trivial⟩, ⟨⟨rfl, LeL.refl _⟩, trivial⟩, List.Sublist.refl _⟩
  have hA : HasA ⟨ab, bm, 1048576, [], none⟩ H H1 := hA
  refine sem_seq (esc := fun _ => false) tab_ok mixed ?_
  refine sem_seq (esc := fun _ => false) tab_ok mixed ?_
  refine ⟨_, LeL.refl _, HoldT_as (a := ⟨ab, bm, 1048576, [], none⟩) (s := (aHold t []).1) (n := F) t hr hA good_nil (show (([] : List Nd).length : Int) + t.nodes ≤ 1048576 by simp only [List.length_nil]; omega) (show (1048576 : Int) ≤ 1048576 by decide) (by rw [hF, ← hl0]) fun q1 H2 hA => ?_⟩
  intro hz1 hz2; clear hz1 hz2
  refine sem_le ⟨[(1, .g (.i n)), (2, .lp 2 0), (4, .g (.b false)), (5, .g (.ptr ab 0)), (6, .g (.i 0)), (7, .g (.i (F : Nat)))], [(2, (tmX t).cells)], H2⟩ ?_ ?_
  · exact ⟨⟨Le.refl _, ⟨rfl, rfl⟩, Le.refl _, Le.refl _, Le.refl _, Le.refl _, trivial⟩, ⟨⟨rfl, LeL.refl _⟩, trivial⟩, List.Sublist.refl _⟩
  have hA : HasA ⟨ab, bm, 1048576, (aHold t []).1, q1⟩ H H2 := hA
  refine sem_seq (esc := fun _ => false) tab_ok mixed ?_
  refine sem_seq (esc := fun _ => false) tab_ok mixed ?_
  refine ⟨_, LeL.refl _, arCount_as hA (z := F) hF.symm ?_⟩
  intro hz1 hz2; clear hz1 hz2
  refine sem_le ⟨[(1, .g (.i n)), (2, .lp 2 0), (4, .g (.b false)), (5, .g (.ptr ab 0)), (7, .g (.i (F : Nat))), (8, .g (.i (F : Nat)))], [(2, (tmX t).cells)], H2⟩ ?_ ?_
  · exact ⟨⟨Le.refl _, ⟨rfl, rfl⟩, Le.refl _, Le.refl _, Le.refl _, Le.refl _, trivial⟩, ⟨⟨rfl, LeL.refl _⟩, trivial⟩, List.Sublist.refl _⟩
  refine sem_of (esc := fun _ => false) tab_ok mixed ?_
  refine ⟨Nat × Tm × Option Cap × Heap, fun x => ⟨[(1, .g (.i n)), (2, .lp 2 0), (4, .g (.b false)), (5, .g (.ptr ab 0)), (7, .g (.i ((F + x.1 : Nat) : Int))), (8, .g (.i (F : Nat))), (9, .g (.i x.1)), (10, .g (.i x.1))], [(2, (tmX x.2.1).cells)], x.2.2.2⟩,
    fun x => (x.1 : Int) ≤ n ∧ tmRight 4 1125899906842624 x.2.1 = true ∧ (aHold x.2.1 []).1.length = F + x.1 ∧ HasA ⟨ab, bm, 1048576, (aHold x.2.1 []).1, x.2.2.1⟩ H x.2.2.2, fun x => n.toNat - x.1, ⟨(0, t, q1, H2), ⟨by simp only; omega, hr, hF.symm, hA⟩, ?_⟩, ?_⟩
  · exact ⟨⟨Le.refl _, ⟨rfl, rfl⟩, Le.refl _, Le.refl _, Le.refl _, Le.refl _, Le.refl _, Le.refl _, trivial⟩, ⟨⟨rfl, LeL.refl _⟩, trivial⟩, List.Sublist.refl _⟩
  · rintro ⟨j, u, q, Hk⟩ ⟨hj, hu, hFj, hA⟩
    simp only at hj hu hFj hA
    obtain ⟨hfu, hnu⟩ := fit_right hu
    refine ifB_dec (fun g1 => ?_) (fun g1 => ?_)
    · have g1 : (j : Int) < n := g1
      refine ⟨_, LeL.refl _, both05_con u _ _ ?_⟩
      intro hz1 hz2; clear hz1 hz2
      refine ⟨_, LeL.refl _, ref04Nodes_con 2000 (by decide) _ (bothT u) (Nat.le_refl _) _ _ ?_⟩
      intro hz1 hz2; clear hz1 hz2
      refine ifB_dec (fun g2 => ?_) (fun g2 => ?_)
      · refine ⟨_, LeL.refl _, arCount_as hA (z := F + j) hFj ?_⟩
        intro hz1 hz2; clear hz1 hz2
        refine ⟨in64_of (by first | omega | (dsimp only; omega)) (by first | omega | (dsimp only; omega)), ?_⟩
        refine ifB_t (show ((F + j : Nat) : Int) = (F : Nat) + (j : Nat) by omega) ?_
        obtain ⟨H6, hs6, hp6⟩ := hA.out
        exact ⟨_, H6, Le.refl _, hs6, _, hp6, hq⟩
      · have g2 : ¬ (2000 : Int) < ((min (bothT u).nodes (2000 + 1) : Nat) : Int) := g2
        have hbn : (bothT u).nodes ≤ 2000 := by omega
        have hbr := right_both hu hbn
        obtain ⟨hfb, _⟩ := fit_right hbr
        have hst := aHold_step hfu hfb
        have hse := aHold_stepE hfu hfb
        obtain ⟨hK, hKe⟩ := at_snoc hse
        have hsl : (aHold (bothT u) []).1.length = F + j + 1 := by rw [hse, List.length_append, hFj]; rfl
        rw [← hse] at hst
        have hgb := aHold_good (bothT u) [] good_nil hfb
        have hll := aHold_len u []
        simp only [List.length_nil, Nat.zero_add] at hll
        refine ⟨in64_of (by first | omega | (dsimp only; omega)) (by first | omega | (dsimp only; omega)), ?_⟩
        refine ⟨_, LeL.refl _, HoldT_as (a := ⟨ab, bm, 1048576, (aHold u []).1, q⟩) (bothT u) hbr hA (aHold_good u [] good_nil hfu) (show (((aHold u []).1.length : Nat) : Int) + (bothT u).nodes ≤ 1048576 by omega) (show (1048576 : Int) ≤ 1048576 by decide) hst fun q2 H3 hA => ?_⟩
        intro hz1 hz2; clear hz1 hz2
        refine ⟨in64_of (by first | omega | (dsimp only; omega)) (by first | omega | (dsimp only; omega)), ?_⟩
        refine ifB_t (show (((aHold u []).1.length + 1 : Nat) : Int) = (F : Nat) + ((j : Nat) + 1) by omega) ?_
        refine ⟨_, LeL.refl _, arArg_as (a := ⟨ab, bm, 1048576, (aHold (bothT u) []).1, q2⟩) hA (show (aHold (bothT u) []).1.length ≤ 1000000000 by omega) hK (by rw [hKe]; exact Nat.le_succ 2) 0 (z := F + j) (by rw [hKe, ← hFj]; rfl) ?_⟩
        intro hz1 hz2; clear hz1 hz2
        refine ifB_t rfl ?_
        refine ⟨_, LeL.refl _, arArg_as (a := ⟨ab, bm, 1048576, (aHold (bothT u) []).1, q2⟩) hA (show (aHold (bothT u) []).1.length ≤ 1000000000 by omega) hK (by rw [hKe]; exact Nat.le_succ 2) 1 (z := F + j) (by rw [hKe, ← hFj]; rfl) ?_⟩
        intro hz1 hz2; clear hz1 hz2
        refine ifB_t rfl ?_
        refine ⟨in64_of (by first | omega | (dsimp only; omega)) (by first | omega | (dsimp only; omega)), ?_⟩
        refine ⟨(j + 1, bothT u, q2, H3), ⟨by simp only; omega, hbr, by simp only; omega, hA⟩, by (try dsimp only); omega, ?_⟩
        refine ⟨⟨Le.refl _, ⟨rfl, rfl⟩, Le.refl _, Le.refl _, le_of_eq ?_, Le.refl _, Le.refl _, Le.refl _, trivial⟩, ⟨⟨rfl, LeL.refl _⟩, trivial⟩, List.Sublist.refl _⟩
        show AV.i _ = AV.i _
        rw [hFj]
        rfl
    · refine ⟨_, LeL.refl _, arCount_as hA (z := F + j) hFj ?_⟩
      intro hz1 hz2; clear hz1 hz2
      refine ⟨in64_of (by first | omega | (dsimp only; omega)) (by first | omega | (dsimp only; omega)), ?_⟩
      refine ifB_t (show ((F + j : Nat) : Int) = (F : Nat) + (j : Nat) by omega) ?_
      obtain ⟨H6, hs6, hp6⟩ := hA.out
      exact ⟨_, H6, Le.refl _, hs6, _, hp6, hq⟩
end Go.Proofs.YtaldgcnhmnfocaaDoor
