/-
  Texts put together: K0, K1, K2, K4, K3, K5, K6. No condition.
-/
import Derived.Test.YtahdkhklngjmoaaGreatDoorM16
/-
  Trees of names, plain: put, find, in order. No condition.
-/
namespace Go.Proofs.YtahdkhklngjmoaaGreatDoor
open Go.RowKit

inductive Tre where
  | nil
  | node (x : List UInt8) (n : Int) (l r : Tre)
def Tre.dep : Tre → Nat
  | .nil => 0
  | .node _ _ l r => max l.dep r.dep + 1
def Tre.cnt : Tre → Nat
  | .nil => 0
  | .node _ _ l r => l.cnt + r.cnt + 1
theorem Tre.dep_le : ∀ t : Tre, t.dep ≤ t.cnt
  | .nil => Nat.le_refl _
  | .node _ _ l r => by have := l.dep_le; have := r.dep_le; simp only [Tre.dep, Tre.cnt]; omega
def Tre.lf : Tre → Tre
  | .node _ _ l _ => l
  | .nil => .nil
def Tre.rg : Tre → Tre
  | .node _ _ _ r => r
  | .nil => .nil
theorem Tre.of_dep {t : Tre} (h : 0 < t.dep) : ∃ x n l r, t = .node x n l r := by
  cases t with
  | nil => simp [Tre.dep] at h
  | node x n l r => exact ⟨_, _, _, _, rfl⟩
def turnR : Tre → Tre
  | .node x n (.node y m a b) c => .node y m a (.node x n b c)
  | t => t
def turnL : Tre → Tre
  | .node x n a (.node y m b c) => .node y m (.node x n a b) c
  | t => t
def evenT : Tre → Tre
  | .nil => .nil
  | .node x n l r =>
    if l.dep = r.dep + 2 then
      if l.lf.dep < l.rg.dep then turnR (.node x n (turnL l) r) else turnR (.node x n l r)
    else if r.dep = l.dep + 2 then
      if r.rg.dep < r.lf.dep then turnL (.node x n l (turnR r)) else turnL (.node x n l r)
    else .node x n l r
def putT (x : List UInt8) (n : Int) : Tre → Tre
  | .nil => .node x n .nil .nil
  | .node y m l r => if x < y then evenT (.node y m (putT x n l) r) else if y < x then evenT (.node y m l (putT x n r)) else .node x n l r
def findT (x : List UInt8) : Tre → Tre
  | .nil => .nil
  | .node y m l r => if y = x then .node y m l r else if x < y then findT x l else findT x r
def getT (x : List UInt8) (t : Tre) : Int × Bool := match findT x t with
  | .nil => (0, false)
  | .node _ n _ _ => (n, true)
abbrev KV := List UInt8 × Int
/-- names with their numbers, in order -/
def Tre.kv : Tre → List KV
  | .nil => []
  | .node x n l r => l.kv ++ (x, n) :: r.kv
theorem kv_len : ∀ t : Tre, t.kv.length = t.cnt
  | .nil => rfl
  | .node _ _ l r => by have := kv_len l; have := kv_len r; simp [Tre.kv, Tre.cnt]; omega
def SL (l : List KV) : Prop := l.Pairwise fun a b => a.1 < b.1
theorem turnR_kv (t : Tre) : (turnR t).kv = t.kv := by
  unfold turnR; split
  · simp [Tre.kv]
  · rfl
theorem turnL_kv (t : Tre) : (turnL t).kv = t.kv := by
  unfold turnL; split
  · simp [Tre.kv]
  · rfl
theorem evenT_kv (t : Tre) : (evenT t).kv = t.kv := by
  cases t with
  | nil => rfl
  | node x n l r =>
    rw [evenT]
    split
    · split
      · simp only [turnR_kv, Tre.kv, turnL_kv]
      · simp only [turnR_kv, Tre.kv]
    · split
      · split
        · simp only [turnL_kv, Tre.kv, turnR_kv]
        · simp only [turnL_kv, Tre.kv]
      · rfl
theorem lt_irr (x : List UInt8) : ¬ x < x := List.lt_irrefl x
theorem lt_of_not {x y : List UInt8} (h : ¬ x < y) (k : ¬ x = y) : y < x := by
  by_cases h1 : y < x
  · exact h1
  · exact absurd (List.le_antisymm (List.not_lt.1 h1) (List.not_lt.1 h)) k
/-- a row of pairs with one more, in order -/
def insKV (x : List UInt8) (n : Int) : List KV → List KV
  | [] => [(x, n)]
  | a :: l => if x < a.1 then (x, n) :: a :: l else if x = a.1 then (x, n) :: l else a :: insKV x n l

theorem insKV_left {x : List UInt8} {n : Int} (y : List UInt8) (m : Int) (r : List KV) (hxy : x < y) : ∀ l : List KV, insKV x n (l ++ (y, m) :: r) = insKV x n l ++ (y, m) :: r
  | [] => by simp [insKV, hxy]
  | a :: l => by
    simp only [List.cons_append, insKV]
    split
    · rfl
    · split
      · rfl
      · simp [insKV_left y m r hxy l]

theorem insKV_right {x : List UInt8} {n : Int} : ∀ (l r : List KV), (∀ a ∈ l, a.1 < x) → insKV x n (l ++ r) = l ++ insKV x n r
  | [], r, _ => rfl
  | a :: l, r, h => by
    have ha := h a (by simp)
    have h1 : ¬ x < a.1 := fun hc => lt_irr _ (List.lt_trans ha hc)
    have h2 : ¬ x = a.1 := fun hc => lt_irr _ (hc ▸ ha)
    simp [insKV, h1, h2, insKV_right l r fun b hb => h b (by simp [hb])]

theorem putT_kv (x : List UInt8) (n : Int) : ∀ t : Tre, SL t.kv → (putT x n t).kv = insKV x n t.kv
  | .nil, _ => rfl
  | .node y m l r, hs => by
    have hsl : SL l.kv := (List.pairwise_append.1 hs).1
    have hsr : SL r.kv := (List.pairwise_cons.1 (List.pairwise_append.1 hs).2.1).2
    have hl := putT_kv x n l hsl
    have hr := putT_kv x n r hsr
    have hlt : ∀ a ∈ l.kv, a.1 < y := fun a ha => (List.pairwise_append.1 hs).2.2 a ha (y, m) (by simp)
    unfold putT
    by_cases h1 : x < y
    · rw [if_pos h1, evenT_kv, Tre.kv, hl, Tre.kv, insKV_left y m r.kv h1]
    · rw [if_neg h1]
      by_cases h3 : y < x
      · have h2 : ¬ x = y := fun e => lt_irr _ (e ▸ h3)
        rw [if_pos h3, evenT_kv, Tre.kv, hr, Tre.kv, insKV_right _ _ fun a ha => List.lt_trans (hlt a ha) h3]
        simp [insKV, h1, h2]
      · have h2 : x = y := by
          exact List.le_antisymm (List.not_lt.1 h3) (List.not_lt.1 h1)
        subst h2
        rw [if_neg h1, Tre.kv, Tre.kv, insKV_right _ _ hlt]
        simp [insKV, h1]
theorem insKV_mem {x : List UInt8} {n : Int} {a : KV} : ∀ {l : List KV}, SL l → (a ∈ insKV x n l ↔ a = (x, n) ∨ (a ∈ l ∧ a.1 ≠ x))
  | [], _ => by simp [insKV]
  | b :: l, hs => by
    have hb := (List.pairwise_cons.1 hs).1
    have ih := insKV_mem (x := x) (n := n) (a := a) (List.pairwise_cons.1 hs).2
    unfold insKV
    split
    · rename_i h
      simp only [List.mem_cons]
      constructor
      · rintro (h1 | h1 | h1)
        · exact Or.inl h1
        · exact Or.inr ⟨Or.inl h1, fun hc => lt_irr _ (by rw [h1] at hc; rw [hc] at h; exact h)⟩
        · exact Or.inr ⟨Or.inr h1, fun hc => lt_irr x (by have := hb a h1; rw [hc] at this; exact List.lt_trans h this)⟩
      · rintro (h1 | ⟨h1 | h1, _⟩)
        · exact Or.inl h1
        · exact Or.inr (Or.inl h1)
        · exact Or.inr (Or.inr h1)
    · split
      · rename_i h1 h2
        simp only [List.mem_cons]
        constructor
        · rintro (h | h)
          · exact Or.inl h
          · exact Or.inr ⟨Or.inr h, fun hc => lt_irr x (by have := hb a h; rw [hc, ← h2] at this; exact this)⟩
        · rintro (h | ⟨h | h, hne⟩)
          · exact Or.inl h
          · exact absurd (by rw [h]; exact h2.symm) hne
          · exact Or.inr h
      · rename_i h1 h2
        simp only [List.mem_cons, ih]
        constructor
        · rintro (h | h | ⟨h, hne⟩)
          · exact Or.inr ⟨Or.inl h, fun hc => h2 (by rw [← hc, h])⟩
          · exact Or.inl h
          · exact Or.inr ⟨Or.inr h, hne⟩
        · rintro (h | ⟨h | h, hne⟩)
          · exact Or.inr (Or.inl h)
          · exact Or.inl h
          · exact Or.inr (Or.inr ⟨h, hne⟩)

theorem insKV_sl {x : List UInt8} {n : Int} : ∀ {l : List KV}, SL l → SL (insKV x n l)
  | [], _ => by simp [insKV, SL]
  | b :: l, hs => by
    have hb := (List.pairwise_cons.1 hs).1
    have hl := (List.pairwise_cons.1 hs).2
    unfold insKV
    split
    · rename_i h
      refine List.pairwise_cons.2 ⟨fun a ha => ?_, hs⟩
      rcases List.mem_cons.1 ha with rfl | ha
      · exact h
      · exact List.lt_trans h (hb a ha)
    · split
      · rename_i h1 h2
        exact List.pairwise_cons.2 ⟨fun a ha => by have := hb a ha; rw [← h2] at this; exact this, hl⟩
      · rename_i h1 h2
        refine List.pairwise_cons.2 ⟨fun a ha => ?_, insKV_sl hl⟩
        rcases (insKV_mem hl).1 ha with rfl | ⟨ha, _⟩
        · exact lt_of_not h1 h2
        · exact hb a ha

theorem findT_kv {x : List UInt8} : ∀ {t : Tre}, SL t.kv → (findT x t = .nil ∧ ∀ n, (x, n) ∉ t.kv) ∨ ∃ n l r, findT x t = .node x n l r ∧ (x, n) ∈ t.kv
  | .nil, _ => Or.inl ⟨rfl, fun n => by simp [Tre.kv]⟩
  | .node y m l r, hs => by
    have hp := List.pairwise_append.1 hs
    have hp2 := List.pairwise_cons.1 hp.2.1
    have hly : ∀ a ∈ l.kv, a.1 < y := fun a ha => hp.2.2 a ha (y, m) (by simp)
    have hry : ∀ a ∈ r.kv, y < a.1 := fun a ha => hp2.1 a ha
    have hl := findT_kv (x := x) (t := l) hp.1
    have hr := findT_kv (x := x) (t := r) hp2.2
    rw [findT]
    by_cases h2 : y = x
    · subst h2
      rw [if_pos rfl]
      exact Or.inr ⟨m, l, r, rfl, by simp [Tre.kv]⟩
    · rw [if_neg h2]
      by_cases h1 : x < y
      · rw [if_pos h1]
        rcases hl with ⟨e, hn⟩ | ⟨n', l', r', e, hm⟩
        · refine Or.inl ⟨e, fun n h => ?_⟩
          rcases List.mem_append.1 h with h | h
          · exact hn n h
          · rcases List.mem_cons.1 h with h | h
            · exact h2 (congrArg Prod.fst h).symm
            · exact lt_irr _ (List.lt_trans h1 (hry _ h))
        · exact Or.inr ⟨n', l', r', e, by simp [Tre.kv, hm]⟩
      · rw [if_neg h1]
        have hyx := lt_of_not h1 (fun e => h2 e.symm)
        rcases hr with ⟨e, hn⟩ | ⟨n', l', r', e, hm⟩
        · refine Or.inl ⟨e, fun n h => ?_⟩
          rcases List.mem_append.1 h with h | h
          · exact lt_irr _ (List.lt_trans hyx (hly _ h))
          · rcases List.mem_cons.1 h with h | h
            · exact h2 (congrArg Prod.fst h).symm
            · exact hn n h
        · exact Or.inr ⟨n', l', r', e, by simp [Tre.kv, hm]⟩
theorem SL_fun {l : List KV} (h : SL l) {x : List UInt8} {n m : Int} (h1 : (x, n) ∈ l) (h2 : (x, m) ∈ l) : n = m := by
  induction l with
  | nil => cases h1
  | cons a l ih =>
    have hp := List.pairwise_cons.1 h
    rcases List.mem_cons.1 h1 with e1 | e1
    · rcases List.mem_cons.1 h2 with e2 | e2
      · have := e1.trans e2.symm; cases this; rfl
      · exact absurd (hp.1 _ e2) (by rw [← e1]; exact lt_irr _)
    · rcases List.mem_cons.1 h2 with e2 | e2
      · exact absurd (hp.1 _ e1) (by rw [← e2]; exact lt_irr _)
      · exact ih hp.2 e1 e2
theorem getT_some {x : List UInt8} {n : Int} {t : Tre} (h : SL t.kv) (hm : (x, n) ∈ t.kv) : getT x t = (n, true) := by
  unfold getT
  rcases findT_kv (x := x) h with ⟨_, hn⟩ | ⟨k, l, r, e, hk⟩
  · exact absurd hm (hn n)
  · rw [e]
    simp only
    rw [SL_fun h hm hk]
theorem getT_none {x : List UInt8} {t : Tre} (h : SL t.kv) (hm : ∀ n, (x, n) ∉ t.kv) : getT x t = (0, false) := by
  unfold getT
  rcases findT_kv (x := x) h with ⟨e, _⟩ | ⟨k, l, r, e, hk⟩
  · rw [e]
  · exact absurd hk (hm k)
theorem putT_sl {x : List UInt8} {n : Int} {t : Tre} (h : SL t.kv) : SL (putT x n t).kv := by
  rw [putT_kv x n t h]
  exact insKV_sl h
theorem putT_mem {x : List UInt8} {n : Int} {t : Tre} (h : SL t.kv) {a : KV} : a ∈ (putT x n t).kv ↔ a = (x, n) ∨ (a ∈ t.kv ∧ a.1 ≠ x) := by
  rw [putT_kv x n t h]
  exact insKV_mem h
theorem insKV_len (x : List UInt8) (n : Int) : ∀ l : List KV, (insKV x n l).length ≤ l.length + 1
  | [] => Nat.le_refl _
  | a :: l => by
    have := insKV_len x n l
    unfold insKV
    split
    · exact Nat.le_refl _
    · split
      · simp
      · simp only [List.length_cons]; omega
theorem putT_cnt {x : List UInt8} {n : Int} {t : Tre} (h : SL t.kv) : (putT x n t).cnt ≤ t.cnt + 1 := by
  rw [← kv_len, ← kv_len, putT_kv x n t h]
  exact insKV_len x n _
/-- the names, in order -/
def Tre.names : Tre → List (List UInt8)
  | .nil => []
  | .node x _ l r => l.names ++ x :: r.names
end Go.Proofs.YtahdkhklngjmoaaGreatDoor

/-
  The program's trees: deep, count, join, with, turns, even, put, Put, find, Get, New. No condition.
-/
namespace Go.Proofs.YtahdkhklngjmoaaGreatDoor
open Go.RowKit

theorem ifB_lt {x y : List UInt8} {A B : Prop} (h1 : x < y → A) (h2 : ¬ x < y → B) : ifB (Op.bytesLess x y) A B := by
  rw [Proofs.bytesLess_eq]
  exact ifB_dec h1 h2
theorem ifB_gt {x y : List UInt8} {A B : Prop} (h1 : ¬ y < x → A) (h2 : y < x → B) : ifB (Op.bytesLess x y || decide (x = y)) A B := by
  rw [Proofs.bytesLess_eq, ← Bool.decide_or]
  refine ifB_dec (fun h => h1 fun k => ?_) (fun h => h2 ?_)
  · rcases h with h | h
    · exact lt_irr _ (List.lt_trans h k)
    · exact lt_irr _ (h ▸ k)
  · exact lt_of_not (fun k => h (Or.inl k)) fun k => h (Or.inr k)
theorem evenT_cnt (t : Tre) : (evenT t).cnt = t.cnt := by rw [← kv_len, evenT_kv, kv_len]
theorem putT_le (x : List UInt8) (n : Int) : ∀ t : Tre, (putT x n t).cnt ≤ t.cnt + 1
  | .nil => Nat.le_refl _
  | .node y m l r => by
    have h1 := putT_le x n l
    have h2 := putT_le x n r
    unfold putT
    split
    · rw [evenT_cnt]; simp only [Tre.cnt]; omega
    · split
      · rw [evenT_cnt]; simp only [Tre.cnt]; omega
      · simp only [Tre.cnt]; omega
/-- a tree's part -/
def trX : Tre → AV
  | .nil => .v (.pointer none)
  | .node x n l r => .ip [.str x, .i n, trX l, trX r, .i ((max l.dep r.dep + 1 : Nat) : Int), .i ((l.cnt + r.cnt + 1 : Nat) : Int)]
set_option maxRecDepth 100000 in
theorem deep_con (t : Tre) : Ans Tryz.prog 154 [trX t] (.i (t.dep : Nat)) := by
  intro H Q hq
  cases t with
  | nil =>
    refine con_of_awp (esc := fun _ => false) tab_ok mixed Tryz.func154 rfl (ent Tryz.func154 (by kernel_rfl) rfl) (by kernel_rfl) ?_
    intro hw hn
    exact ⟨_, H, Le.refl _, List.Sublist.refl _, hq⟩
  | node x n l r =>
    refine con_of_awp (esc := fun _ => false) tab_ok mixed Tryz.func154 rfl (ent Tryz.func154 (by kernel_rfl) rfl) (by kernel_rfl) ?_
    intro hw hn
    exact ⟨_, H, Le.refl _, List.Sublist.refl _, hq⟩
set_option maxRecDepth 100000 in
theorem treeCount_con (t : Tre) : Ans Tryz.prog 155 [trX t] (.i (t.cnt : Nat)) := by
  intro H Q hq
  cases t with
  | nil =>
    refine con_of_awp (esc := fun _ => false) tab_ok mixed Tryz.func155 rfl (ent Tryz.func155 (by kernel_rfl) rfl) (by kernel_rfl) ?_
    intro hw hn
    exact ⟨_, H, Le.refl _, List.Sublist.refl _, hq⟩
  | node x n l r =>
    refine con_of_awp (esc := fun _ => false) tab_ok mixed Tryz.func155 rfl (ent Tryz.func155 (by kernel_rfl) rfl) (by kernel_rfl) ?_
    intro hw hn
    exact ⟨_, H, Le.refl _, List.Sublist.refl _, hq⟩
theorem node_ice {M : Mem} {b : Nat} {x : List UInt8} {n : Int} {l r : Tre} {d c : Int} (hd : d = ((max l.dep r.dep + 1 : Nat) : Int)) (hc : c = ((l.cnt + r.cnt + 1 : Nat) : Int)) (h : atL M [.str x, .i n, trX l, trX r, .i d, .i c] b 0) : LeM M (.ptr b 0) (trX (.node x n l r)) := by
  subst hd
  subst hc
  exact ptr_ice h
set_option maxRecDepth 100000 in
theorem join_con (x : List UInt8) (n : Int) (l r : Tre) (hc : l.cnt + r.cnt ≤ 10000000) : Ans Tryz.prog 122 [.str x, .i n, trX l, trX r] (trX (.node x n l r)) := by
  intro H Q hq
  have h1 := l.dep_le
  have h2 := r.dep_le
  have hdd : max (l.dep : Int) (r.dep : Int) + 1 = ((max l.dep r.dep + 1 : Nat) : Int) := by omega
  have hcc : (l.cnt : Int) + (r.cnt : Int) + 1 = ((l.cnt + r.cnt + 1 : Nat) : Int) := by omega
  refine Con.ice ?_
  cases l with
  | nil =>
    cases r with
    | nil =>
      refine con_of_awp (esc := ([26].contains ·)) tab_ok mixed Tryz.func122 rfl (ent Tryz.func122 (by kernel_rfl) rfl) (by kernel_rfl) ?_
      intro hw hn
      clear hw hn
      refine ⟨_, LeL.refl _, deep_con Tre.nil _ _ ?_⟩
      intro hz1 hz2; clear hz1 hz2
      refine ⟨_, LeL.refl _, deep_con Tre.nil _ _ ?_⟩
      intro hz1 hz2; clear hz1 hz2
      refine ⟨in64_of (by first | omega | (dsimp only; omega)) (by first | omega | (dsimp only; omega)), ?_⟩
      refine ⟨_, LeL.refl _, treeCount_con Tre.nil _ _ ?_⟩
      intro hz1 hz2; clear hz1 hz2
      refine ⟨_, LeL.refl _, treeCount_con Tre.nil _ _ ?_⟩
      intro hz1 hz2; clear hz1 hz2
      refine ⟨in64_of (by first | omega | (dsimp only; omega)) (by first | omega | (dsimp only; omega)), ?_⟩
      refine ⟨in64_of (by first | omega | (dsimp only; omega)) (by first | omega | (dsimp only; omega)), ?_⟩
      intro b hb
      exact ⟨_, _, Le.refl _, List.Sublist.refl _, b, _, H, trX (.node x n Tre.nil Tre.nil), .here, fun M h => node_ice hdd hcc h, hq⟩
    | node z k c d =>
      refine con_of_awp (esc := ([26].contains ·)) tab_ok mixed Tryz.func122 rfl (ent Tryz.func122 (by kernel_rfl) rfl) (by kernel_rfl) ?_
      intro hw hn
      clear hw hn
      refine ⟨_, LeL.refl _, deep_con Tre.nil _ _ ?_⟩
      intro hz1 hz2; clear hz1 hz2
      refine ⟨_, LeL.refl _, deep_con (Tre.node z k c d) _ _ ?_⟩
      intro hz1 hz2; clear hz1 hz2
      refine ⟨in64_of (by first | omega | (dsimp only; omega)) (by first | omega | (dsimp only; omega)), ?_⟩
      refine ⟨_, LeL.refl _, treeCount_con Tre.nil _ _ ?_⟩
      intro hz1 hz2; clear hz1 hz2
      refine ⟨_, LeL.refl _, treeCount_con (Tre.node z k c d) _ _ ?_⟩
      intro hz1 hz2; clear hz1 hz2
      refine ⟨in64_of (by first | omega | (dsimp only; omega)) (by first | omega | (dsimp only; omega)), ?_⟩
      refine ⟨in64_of (by first | omega | (dsimp only; omega)) (by first | omega | (dsimp only; omega)), ?_⟩
      intro b hb
      exact ⟨_, _, Le.refl _, List.Sublist.refl _, b, _, H, trX (.node x n Tre.nil (Tre.node z k c d)), .here, fun M h => node_ice hdd hcc h, hq⟩
  | node y m a e =>
    cases r with
    | nil =>
      refine con_of_awp (esc := ([26].contains ·)) tab_ok mixed Tryz.func122 rfl (ent Tryz.func122 (by kernel_rfl) rfl) (by kernel_rfl) ?_
      intro hw hn
      clear hw hn
      refine ⟨_, LeL.refl _, deep_con (Tre.node y m a e) _ _ ?_⟩
      intro hz1 hz2; clear hz1 hz2
      refine ⟨_, LeL.refl _, deep_con Tre.nil _ _ ?_⟩
      intro hz1 hz2; clear hz1 hz2
      refine ⟨in64_of (by first | omega | (dsimp only; omega)) (by first | omega | (dsimp only; omega)), ?_⟩
      refine ⟨_, LeL.refl _, treeCount_con (Tre.node y m a e) _ _ ?_⟩
      intro hz1 hz2; clear hz1 hz2
      refine ⟨_, LeL.refl _, treeCount_con Tre.nil _ _ ?_⟩
      intro hz1 hz2; clear hz1 hz2
      refine ⟨in64_of (by first | omega | (dsimp only; omega)) (by first | omega | (dsimp only; omega)), ?_⟩
      refine ⟨in64_of (by first | omega | (dsimp only; omega)) (by first | omega | (dsimp only; omega)), ?_⟩
      intro b hb
      exact ⟨_, _, Le.refl _, List.Sublist.refl _, b, _, H, trX (.node x n (Tre.node y m a e) Tre.nil), .here, fun M h => node_ice hdd hcc h, hq⟩
    | node z k c d =>
      refine con_of_awp (esc := ([26].contains ·)) tab_ok mixed Tryz.func122 rfl (ent Tryz.func122 (by kernel_rfl) rfl) (by kernel_rfl) ?_
      intro hw hn
      clear hw hn
      refine ⟨_, LeL.refl _, deep_con (Tre.node y m a e) _ _ ?_⟩
      intro hz1 hz2; clear hz1 hz2
      refine ⟨_, LeL.refl _, deep_con (Tre.node z k c d) _ _ ?_⟩
      intro hz1 hz2; clear hz1 hz2
      refine ⟨in64_of (by first | omega | (dsimp only; omega)) (by first | omega | (dsimp only; omega)), ?_⟩
      refine ⟨_, LeL.refl _, treeCount_con (Tre.node y m a e) _ _ ?_⟩
      intro hz1 hz2; clear hz1 hz2
      refine ⟨_, LeL.refl _, treeCount_con (Tre.node z k c d) _ _ ?_⟩
      intro hz1 hz2; clear hz1 hz2
      refine ⟨in64_of (by first | omega | (dsimp only; omega)) (by first | omega | (dsimp only; omega)), ?_⟩
      refine ⟨in64_of (by first | omega | (dsimp only; omega)) (by first | omega | (dsimp only; omega)), ?_⟩
      intro b hb
      exact ⟨_, _, Le.refl _, List.Sublist.refl _, b, _, H, trX (.node x n (Tre.node y m a e) (Tre.node z k c d)), .here, fun M h => node_ice hdd hcc h, hq⟩
set_option maxRecDepth 100000 in
theorem with_con (y : List UInt8) (m : Int) (a b l r : Tre) (hc : l.cnt + r.cnt ≤ 10000000) : Ans Tryz.prog 123 [trX (.node y m a b), trX l, trX r] (trX (.node y m l r)) := by
  intro H Q hq
  refine con_of_awp (esc := fun _ => false) tab_ok mixed Tryz.func123 rfl (ent Tryz.func123 (by kernel_rfl) rfl) (by kernel_rfl) ?_
  intro hw hn
  clear hw hn
  refine ⟨[0, 1, 2, 3, 4, 5, 6, 7, 8, 9, 10, 11], [], by kernel_rfl, by simp, ?_⟩
  refine ⟨_, LeL.refl _, join_con y m l r hc _ _ ?_⟩
  intro hz1 hz2; clear hz1 hz2
  exact ⟨_, H, Le.refl _, List.Sublist.refl _, hq⟩
set_option maxRecDepth 100000 in
theorem turnR_con (x y : List UInt8) (n m : Int) (a b c : Tre) (hc : (Tre.node x n (.node y m a b) c).cnt ≤ 10000000) : Ans Tryz.prog 157 [trX (.node x n (.node y m a b) c)] (trX (.node y m a (.node x n b c))) := by
  intro H Q hq
  simp only [Tre.cnt] at hc
  refine con_of_awp (esc := fun _ => false) tab_ok mixed Tryz.func157 rfl (ent Tryz.func157 (by kernel_rfl) rfl) (by kernel_rfl) ?_
  intro hw hn
  clear hw hn
  refine ⟨[0, 1, 2, 3, 4, 5, 6, 7, 8, 9, 10, 11, 12, 13, 14, 15, 16, 17, 18, 19, 20, 21, 22, 23, 24, 25], [], by kernel_rfl, by simp, ?_⟩
  refine ⟨_, LeL.refl _, with_con x n (.node y m a b) c b c (by omega) _ _ ?_⟩
  intro hz1 hz2; clear hz1 hz2
  refine ⟨_, LeL.refl _, with_con y m a b a (.node x n b c) (by simp only [Tre.cnt]; omega) _ _ ?_⟩
  intro hz1 hz2; clear hz1 hz2
  exact ⟨_, H, Le.refl _, List.Sublist.refl _, hq⟩
set_option maxRecDepth 100000 in
theorem turnL_con (x y : List UInt8) (n m : Int) (a b c : Tre) (hc : (Tre.node x n a (.node y m b c)).cnt ≤ 10000000) : Ans Tryz.prog 156 [trX (.node x n a (.node y m b c))] (trX (.node y m (.node x n a b) c)) := by
  intro H Q hq
  simp only [Tre.cnt] at hc
  refine con_of_awp (esc := fun _ => false) tab_ok mixed Tryz.func156 rfl (ent Tryz.func156 (by kernel_rfl) rfl) (by kernel_rfl) ?_
  intro hw hn
  clear hw hn
  refine ⟨[0, 1, 2, 3, 4, 5, 6, 7, 8, 9, 10, 11, 12, 13, 14, 15, 17, 18, 19, 20, 21, 22, 23, 16, 24, 25], [], by kernel_rfl, by simp, ?_⟩
  refine ⟨_, LeL.refl _, with_con x n a (.node y m b c) a b (by omega) _ _ ?_⟩
  intro hz1 hz2; clear hz1 hz2
  refine ⟨_, LeL.refl _, with_con y m b c (.node x n a b) c (by simp only [Tre.cnt]; omega) _ _ ?_⟩
  intro hz1 hz2; clear hz1 hz2
  exact ⟨_, H, Le.refl _, List.Sublist.refl _, hq⟩
section
variable {x y : List UInt8} {n m : Int} {a b l r : Tre}
theorem even_ll (g1 : (Tre.node y m a b).dep = r.dep + 2) (g2 : a.dep < b.dep) : evenT (.node x n (.node y m a b) r) = turnR (.node x n (turnL (.node y m a b)) r) := by
  rw [evenT, if_pos g1]
  exact if_pos g2
theorem even_l (g1 : (Tre.node y m a b).dep = r.dep + 2) (g2 : ¬ a.dep < b.dep) : evenT (.node x n (.node y m a b) r) = turnR (.node x n (.node y m a b) r) := by
  rw [evenT, if_pos g1]
  exact if_neg g2
theorem even_rr (g1 : ¬ l.dep = (Tre.node y m a b).dep + 2) (g3 : (Tre.node y m a b).dep = l.dep + 2) (g2 : b.dep < a.dep) : evenT (.node x n l (.node y m a b)) = turnL (.node x n l (turnR (.node y m a b))) := by
  rw [evenT, if_neg g1, if_pos g3]
  exact if_pos g2
theorem even_r (g1 : ¬ l.dep = (Tre.node y m a b).dep + 2) (g3 : (Tre.node y m a b).dep = l.dep + 2) (g2 : ¬ b.dep < a.dep) : evenT (.node x n l (.node y m a b)) = turnL (.node x n l (.node y m a b)) := by
  rw [evenT, if_neg g1, if_pos g3]
  exact if_neg g2
theorem even_no (g1 : ¬ l.dep = r.dep + 2) (g3 : ¬ r.dep = l.dep + 2) : evenT (.node x n l r) = .node x n l r := by
  rw [evenT, if_neg g1, if_neg g3]
end
set_option maxRecDepth 100000 in
set_option maxHeartbeats 1000000 in
theorem even_con (x : List UInt8) (n : Int) (l r : Tre) (hc : l.cnt + r.cnt ≤ 1000000) : Ans Tryz.prog 124 [trX (.node x n l r)] (trX (evenT (.node x n l r))) := by
  intro H Q hq
  have h1 := l.dep_le
  have h2 := r.dep_le
  by_cases g1 : l.dep = r.dep + 2
  · obtain ⟨y, m, a, b, rfl⟩ := Tre.of_dep (t := l) (by omega)
    have hcl : (Tre.node y m a b).cnt = a.cnt + b.cnt + 1 := rfl
    by_cases g2 : a.dep < b.dep
    · rw [even_ll g1 g2] at hq
      obtain ⟨z, k, c, d, rfl⟩ := Tre.of_dep (t := b) (by omega)
      have hcb : (Tre.node z k c d).cnt = c.cnt + d.cnt + 1 := rfl
      refine con_of_awp (esc := fun _ => false) tab_ok mixed Tryz.func124 rfl (ent Tryz.func124 (by kernel_rfl) rfl) (by kernel_rfl) ?_
      intro hw hn
      clear hw hn
      refine ⟨[0, 1, 2, 3, 5, 6, 7, 8, 4, 9, 10], [], by kernel_rfl, by simp, ?_⟩
      refine ⟨_, LeL.refl _, deep_con (Tre.node y m a (.node z k c d)) _ _ ?_⟩
      intro hz1 hz2; clear hz1 hz2
      refine ⟨_, LeL.refl _, deep_con r _ _ ?_⟩
      intro hz1 hz2; clear hz1 hz2
      refine ⟨in64_of (by first | omega | (dsimp only; omega)) (by first | omega | (dsimp only; omega)), ?_⟩
      refine ifB_t (show (((Tre.node y m a (.node z k c d)).dep : Nat) : Int) - (r.dep : Nat) = 2 by omega) ?_
      refine ⟨[0, 1, 2, 3, 4, 5, 6, 8, 9, 10, 11, 12, 13, 14, 7, 15, 16], [], by kernel_rfl, by simp, ?_⟩
      refine ⟨_, LeL.refl _, deep_con a _ _ ?_⟩
      intro hz1 hz2; clear hz1 hz2
      refine ⟨_, LeL.refl _, deep_con (Tre.node z k c d) _ _ ?_⟩
      intro hz1 hz2; clear hz1 hz2
      refine ifB_t (show ((a.dep : Nat) : Int) < ((Tre.node z k c d).dep : Nat) by omega) ?_
      refine ⟨[0, 1, 2, 3, 4, 6, 7, 8, 9, 5, 10, 11], [], by kernel_rfl, by simp, ?_⟩
      refine ⟨_, LeL.refl _, turnL_con y z m k a c d (by simp only [Tre.cnt]; omega) _ _ ?_⟩
      intro hz1 hz2; clear hz1 hz2
      refine ⟨_, LeL.refl _, with_con x n (.node y m a (.node z k c d)) r (.node z k (.node y m a c) d) r (by simp only [Tre.cnt]; omega) _ _ ?_⟩
      intro hz1 hz2; clear hz1 hz2
      refine ⟨_, LeL.refl _, turnR_con x z n k (.node y m a c) d r (by simp only [Tre.cnt]; omega) _ _ ?_⟩
      intro hz1 hz2; clear hz1 hz2
      exact ⟨_, H, Le.refl _, List.Sublist.refl _, hq⟩
    · rw [even_l g1 g2] at hq
      refine con_of_awp (esc := fun _ => false) tab_ok mixed Tryz.func124 rfl (ent Tryz.func124 (by kernel_rfl) rfl) (by kernel_rfl) ?_
      intro hw hn
      clear hw hn
      refine ⟨[0, 1, 2, 3, 5, 6, 7, 8, 4, 9, 10], [], by kernel_rfl, by simp, ?_⟩
      refine ⟨_, LeL.refl _, deep_con (Tre.node y m a b) _ _ ?_⟩
      intro hz1 hz2; clear hz1 hz2
      refine ⟨_, LeL.refl _, deep_con r _ _ ?_⟩
      intro hz1 hz2; clear hz1 hz2
      refine ⟨in64_of (by first | omega | (dsimp only; omega)) (by first | omega | (dsimp only; omega)), ?_⟩
      refine ifB_t (show (((Tre.node y m a b).dep : Nat) : Int) - (r.dep : Nat) = 2 by omega) ?_
      refine ⟨[0, 1, 2, 3, 4, 5, 6, 8, 9, 10, 11, 12, 13, 14, 7, 15, 16], [], by kernel_rfl, by simp, ?_⟩
      refine ⟨_, LeL.refl _, deep_con a _ _ ?_⟩
      intro hz1 hz2; clear hz1 hz2
      refine ⟨_, LeL.refl _, deep_con b _ _ ?_⟩
      intro hz1 hz2; clear hz1 hz2
      refine ifB_f (show ¬ ((a.dep : Nat) : Int) < (b.dep : Nat) by omega) ?_
      refine ⟨_, LeL.refl _, turnR_con x y n m a b r (by simp only [Tre.cnt]; omega) _ _ ?_⟩
      intro hz1 hz2; clear hz1 hz2
      exact ⟨_, H, Le.refl _, List.Sublist.refl _, hq⟩
  · by_cases g3 : r.dep = l.dep + 2
    · obtain ⟨y, m, a, b, rfl⟩ := Tre.of_dep (t := r) (by omega)
      have hcl : (Tre.node y m a b).cnt = a.cnt + b.cnt + 1 := rfl
      by_cases g2 : b.dep < a.dep
      · rw [even_rr g1 g3 g2] at hq
        obtain ⟨z, k, c, d, rfl⟩ := Tre.of_dep (t := a) (by omega)
        have hcb : (Tre.node z k c d).cnt = c.cnt + d.cnt + 1 := rfl
        refine con_of_awp (esc := fun _ => false) tab_ok mixed Tryz.func124 rfl (ent Tryz.func124 (by kernel_rfl) rfl) (by kernel_rfl) ?_
        intro hw hn
        clear hw hn
        refine ⟨[0, 1, 2, 3, 5, 6, 7, 8, 4, 9, 10], [], by kernel_rfl, by simp, ?_⟩
        refine ⟨_, LeL.refl _, deep_con l _ _ ?_⟩
        intro hz1 hz2; clear hz1 hz2
        refine ⟨_, LeL.refl _, deep_con (Tre.node y m (.node z k c d) b) _ _ ?_⟩
        intro hz1 hz2; clear hz1 hz2
        refine ⟨in64_of (by first | omega | (dsimp only; omega)) (by first | omega | (dsimp only; omega)), ?_⟩
        refine ifB_f (show ¬ ((l.dep : Nat) : Int) - ((Tre.node y m (.node z k c d) b).dep : Nat) = 2 by omega) ?_
        refine ifB_t (show ((l.dep : Nat) : Int) - ((Tre.node y m (.node z k c d) b).dep : Nat) = -2 by omega) ?_
        refine ⟨[0, 1, 2, 3, 4, 5, 6, 8, 9, 10, 11, 12, 13, 14, 7, 15, 16], [], by kernel_rfl, by simp, ?_⟩
        refine ⟨_, LeL.refl _, deep_con b _ _ ?_⟩
        intro hz1 hz2; clear hz1 hz2
        refine ⟨_, LeL.refl _, deep_con (Tre.node z k c d) _ _ ?_⟩
        intro hz1 hz2; clear hz1 hz2
        refine ifB_t (show ((b.dep : Nat) : Int) < ((Tre.node z k c d).dep : Nat) by omega) ?_
        refine ⟨[0, 1, 2, 3, 4, 5, 6, 7, 8, 9, 10, 11], [], by kernel_rfl, by simp, ?_⟩
        refine ⟨_, LeL.refl _, turnR_con y z m k c d b (by simp only [Tre.cnt]; omega) _ _ ?_⟩
        intro hz1 hz2; clear hz1 hz2
        refine ⟨_, LeL.refl _, with_con x n l (.node y m (.node z k c d) b) l (.node z k c (.node y m d b)) (by simp only [Tre.cnt]; omega) _ _ ?_⟩
        intro hz1 hz2; clear hz1 hz2
        refine ⟨_, LeL.refl _, turnL_con x z n k l c (.node y m d b) (by simp only [Tre.cnt]; omega) _ _ ?_⟩
        intro hz1 hz2; clear hz1 hz2
        exact ⟨_, H, Le.refl _, List.Sublist.refl _, hq⟩
      · rw [even_r g1 g3 g2] at hq
        refine con_of_awp (esc := fun _ => false) tab_ok mixed Tryz.func124 rfl (ent Tryz.func124 (by kernel_rfl) rfl) (by kernel_rfl) ?_
        intro hw hn
        clear hw hn
        refine ⟨[0, 1, 2, 3, 5, 6, 7, 8, 4, 9, 10], [], by kernel_rfl, by simp, ?_⟩
        refine ⟨_, LeL.refl _, deep_con l _ _ ?_⟩
        intro hz1 hz2; clear hz1 hz2
        refine ⟨_, LeL.refl _, deep_con (Tre.node y m a b) _ _ ?_⟩
        intro hz1 hz2; clear hz1 hz2
        refine ⟨in64_of (by first | omega | (dsimp only; omega)) (by first | omega | (dsimp only; omega)), ?_⟩
        refine ifB_f (show ¬ ((l.dep : Nat) : Int) - ((Tre.node y m a b).dep : Nat) = 2 by omega) ?_
        refine ifB_t (show ((l.dep : Nat) : Int) - ((Tre.node y m a b).dep : Nat) = -2 by omega) ?_
        refine ⟨[0, 1, 2, 3, 4, 5, 6, 8, 9, 10, 11, 12, 13, 14, 7, 15, 16], [], by kernel_rfl, by simp, ?_⟩
        refine ⟨_, LeL.refl _, deep_con b _ _ ?_⟩
        intro hz1 hz2; clear hz1 hz2
        refine ⟨_, LeL.refl _, deep_con a _ _ ?_⟩
        intro hz1 hz2; clear hz1 hz2
        refine ifB_f (show ¬ ((b.dep : Nat) : Int) < (a.dep : Nat) by omega) ?_
        refine ⟨_, LeL.refl _, turnL_con x y n m l a b (by simp only [Tre.cnt]; omega) _ _ ?_⟩
        intro hz1 hz2; clear hz1 hz2
        exact ⟨_, H, Le.refl _, List.Sublist.refl _, hq⟩
    · rw [even_no g1 g3] at hq
      refine con_of_awp (esc := fun _ => false) tab_ok mixed Tryz.func124 rfl (ent Tryz.func124 (by kernel_rfl) rfl) (by kernel_rfl) ?_
      intro hw hn
      clear hw hn
      refine ⟨[0, 1, 2, 3, 5, 6, 7, 8, 4, 9, 10], [], by kernel_rfl, by simp, ?_⟩
      refine ⟨_, LeL.refl _, deep_con l _ _ ?_⟩
      intro hz1 hz2; clear hz1 hz2
      refine ⟨_, LeL.refl _, deep_con r _ _ ?_⟩
      intro hz1 hz2; clear hz1 hz2
      refine ⟨in64_of (by first | omega | (dsimp only; omega)) (by first | omega | (dsimp only; omega)), ?_⟩
      refine ifB_f (show ¬ ((l.dep : Nat) : Int) - (r.dep : Nat) = 2 by omega) ?_
      refine ifB_f (show ¬ ((l.dep : Nat) : Int) - (r.dep : Nat) = -2 by omega) ?_
      exact ⟨_, H, Le.refl _, List.Sublist.refl _, hq⟩
set_option maxRecDepth 100000 in
set_option maxHeartbeats 1000000 in
theorem put_con (x : List UInt8) (n : Int) : ∀ t : Tre, t.cnt ≤ 900000 → Ans Tryz.prog 100 [trX t, .str x, .i n] (trX (putT x n t)) := by
  intro t
  induction t with
  | nil =>
    intro hc H Q hq
    refine con_of_awp (esc := fun _ => false) tab_ok mixed Tryz.func100 rfl (ent Tryz.func100 (by kernel_rfl) rfl) (by kernel_rfl) ?_
    intro hw hn
    clear hw hn
    refine ⟨_, LeL.refl _, join_con x n .nil .nil (by decide) _ _ ?_⟩
    intro hz1 hz2; clear hz1 hz2
    exact ⟨_, H, Le.refl _, List.Sublist.refl _, hq⟩
  | node y m l r ihl ihr =>
    intro hc H Q hq
    simp only [Tre.cnt] at hc
    have hpl := putT_le x n l
    have hpr := putT_le x n r
    rw [putT] at hq
    refine con_of_awp (esc := fun _ => false) tab_ok mixed Tryz.func100 rfl (ent Tryz.func100 (by kernel_rfl) rfl) (by kernel_rfl) ?_
    intro hw hn
    clear hw hn
    refine ifB_lt (fun g1 => ?_) (fun g1 => ?_)
    · rw [if_pos g1] at hq
      refine ⟨[0, 1, 2, 3, 4, 5, 6, 8, 9, 10, 11, 7, 12, 13, 14], [], by kernel_rfl, by simp, ?_⟩
      refine ⟨_, LeL.refl _, ihl (by omega) _ _ ?_⟩
      intro hz1 hz2; clear hz1 hz2
      refine ⟨_, LeL.refl _, with_con y m l r (putT x n l) r (by omega) _ _ ?_⟩
      intro hz1 hz2; clear hz1 hz2
      refine ⟨_, LeL.refl _, even_con y m (putT x n l) r (by omega) _ _ ?_⟩
      intro hz1 hz2; clear hz1 hz2
      exact ⟨_, H, Le.refl _, List.Sublist.refl _, hq⟩
    · rw [if_neg g1] at hq
      refine ifB_gt (fun g2 => ?_) (fun g2 => ?_)
      · rw [if_neg g2] at hq
        refine ⟨[0, 1, 2, 3, 4, 5, 6, 7, 8, 9, 10, 11], [], by kernel_rfl, by simp, ?_⟩
        refine ⟨_, LeL.refl _, join_con x n l r (by omega) _ _ ?_⟩
        intro hz1 hz2; clear hz1 hz2
        exact ⟨_, H, Le.refl _, List.Sublist.refl _, hq⟩
      · rw [if_pos g2] at hq
        refine ⟨[0, 1, 2, 3, 4, 5, 6, 7, 8, 9, 10, 11, 12, 13, 14], [], by kernel_rfl, by simp, ?_⟩
        refine ⟨_, LeL.refl _, ihr (by omega) _ _ ?_⟩
        intro hz1 hz2; clear hz1 hz2
        refine ⟨_, LeL.refl _, with_con y m l r l (putT x n r) (by omega) _ _ ?_⟩
        intro hz1 hz2; clear hz1 hz2
        refine ⟨_, LeL.refl _, even_con y m l (putT x n r) (by omega) _ _ ?_⟩
        intro hz1 hz2; clear hz1 hz2
        exact ⟨_, H, Le.refl _, List.Sublist.refl _, hq⟩
set_option maxRecDepth 100000 in
theorem Put_con (x : List UInt8) (n : Int) (t : Tre) (hc : t.cnt ≤ 900000) : Ans Tryz.prog 78 [.ip [trX t], .str x, .i n] (.ip [trX (putT x n t)]) := by
  intro H Q hq
  refine Con.ice ?_
  cases hp : putT x n t with
  | nil =>
    rw [hp] at hq
    refine con_of_awp (esc := ([15].contains ·)) tab_ok mixed Tryz.func78 rfl (ent Tryz.func78 (by kernel_rfl) rfl) (by kernel_rfl) ?_
    intro hw hn
    clear hw hn
    refine ⟨_, LeL.refl _, (put_con x n t hc).to (congrArg trX hp) _ _ ?_⟩
    intro hz1 hz2; clear hz1 hz2
    intro b hb
    exact ⟨_, _, Le.refl _, List.Sublist.refl _, b, _, H, _, .here, fun M h => ptr_ice h, hq⟩
  | node y m l r =>
    rw [hp] at hq
    refine con_of_awp (esc := ([15].contains ·)) tab_ok mixed Tryz.func78 rfl (ent Tryz.func78 (by kernel_rfl) rfl) (by kernel_rfl) ?_
    intro hw hn
    clear hw hn
    refine ⟨_, LeL.refl _, (put_con x n t hc).to (congrArg trX hp) _ _ ?_⟩
    intro hz1 hz2; clear hz1 hz2
    intro b hb
    exact ⟨_, _, Le.refl _, List.Sublist.refl _, b, _, H, _, .here, fun M h => ptr_ice h, hq⟩
set_option maxRecDepth 100000 in
theorem find_con (x : List UInt8) (t : Tre) : Ans Tryz.prog 98 [trX t, .str x] (trX (findT x t)) := by
  intro H Q hq
  refine con_of_awp (esc := fun _ => false) tab_ok mixed Tryz.func98 rfl (ent Tryz.func98 (by kernel_rfl) rfl) (by kernel_rfl) ?_
  intro hw hn
  clear hw hn
  refine ⟨Tre, fun u => ⟨[(0, .g (trX u)), (1, .g (.str x)), (4, .g (.v (.pointer none)))], [], H⟩, fun u => findT x u = findT x t, fun u => u.cnt, ⟨t, rfl, ?_⟩, ?_⟩
  · (constructor <;> repeat' (first | exact trivial | exact ⟨rfl, rfl⟩ | exact ⟨rfl, LeL.refl _⟩ | exact Le.refl _ | exact List.Sublist.refl _ | (show Le (AV.i _) (AV.i _); rw [List.length_map]; exact Le.refl _) | refine And.intro ?_ ?_))
  · intro u hu
    cases u with
    | nil => exact ⟨trX (findT x t), H, (by rw [← hu]; exact Le.refl _), List.Sublist.refl _, hq⟩
    | node y m l r =>
      rw [findT] at hu
      refine ifB_dec (fun g1 => ?_) (fun g1 => ?_)
      · rw [if_pos g1] at hu
        exact ⟨trX (findT x t), H, (by rw [← hu]; exact Le.refl _), List.Sublist.refl _, hq⟩
      · rw [if_neg g1] at hu
        refine ifB_lt (fun g2 => ?_) (fun g2 => ?_)
        · rw [if_pos g2] at hu
          refine ⟨l, hu, (by simp only [Tre.cnt]; omega), ?_⟩
          (constructor <;> repeat' (first | exact trivial | exact ⟨rfl, rfl⟩ | exact ⟨rfl, LeL.refl _⟩ | exact Le.refl _ | exact List.Sublist.refl _ | (show Le (AV.i _) (AV.i _); rw [List.length_map]; exact Le.refl _) | refine And.intro ?_ ?_))
        · rw [if_neg g2] at hu
          refine ⟨r, hu, (by simp only [Tre.cnt]; omega), ?_⟩
          (constructor <;> repeat' (first | exact trivial | exact ⟨rfl, rfl⟩ | exact ⟨rfl, LeL.refl _⟩ | exact Le.refl _ | exact List.Sublist.refl _ | (show Le (AV.i _) (AV.i _); rw [List.length_map]; exact Le.refl _) | refine And.intro ?_ ?_))
set_option maxRecDepth 100000 in
theorem Get_con (x : List UInt8) (t : Tre) : Ans Tryz.prog 76 [.ip [trX t], .str x] (.tup [.i (getT x t).1, .b (getT x t).2]) := by
  intro H Q hq
  cases hf : findT x t with
  | nil =>
    have hg : getT x t = (0, false) := by rw [getT, hf]
    rw [hg] at hq
    refine con_of_awp (esc := fun _ => false) tab_ok mixed Tryz.func76 rfl (ent Tryz.func76 (by kernel_rfl) rfl) (by kernel_rfl) ?_
    intro hw hn
    clear hw hn
    refine ⟨_, LeL.refl _, (find_con x t).to (congrArg trX hf) _ _ ?_⟩
    intro hz1 hz2; clear hz1 hz2
    exact ⟨_, H, Le.refl _, List.Sublist.refl _, hq⟩
  | node y m l r =>
    have hg : getT x t = (m, true) := by rw [getT, hf]
    rw [hg] at hq
    refine con_of_awp (esc := fun _ => false) tab_ok mixed Tryz.func76 rfl (ent Tryz.func76 (by kernel_rfl) rfl) (by kernel_rfl) ?_
    intro hw hn
    clear hw hn
    refine ⟨_, LeL.refl _, (find_con x t).to (congrArg trX hf) _ _ ?_⟩
    intro hz1 hz2; clear hz1 hz2
    exact ⟨_, H, Le.refl _, List.Sublist.refl _, hq⟩
set_option maxRecDepth 100000 in
theorem treeNew_con : Ans Tryz.prog 55 [] (.ip [trX .nil]) := by
  intro H Q hq
  refine Con.ice ?_
  refine con_of_awp (esc := ([2].contains ·)) tab_ok mixed Tryz.func55 rfl (ent Tryz.func55 (by kernel_rfl) rfl) (by kernel_rfl) ?_
  intro hw hn b hb
  exact ⟨_, _, Le.refl _, List.Sublist.refl _, b, _, H, _, .here, fun M h => ptr_ice h, hq⟩
end Go.Proofs.YtahdkhklngjmoaaGreatDoor

/-
  The program's trees: the names in order. No condition.
-/
namespace Go.Proofs.YtahdkhklngjmoaaGreatDoor
open Go.RowKit

end Go.Proofs.YtahdkhklngjmoaaGreatDoor

/-
  Environments, plain. No condition.
-/
namespace Go.Proofs.YtahdkhklngjmoaaGreatDoor
open Go.RowKit

/-- a tree that tells of each entry's name where it stands -/
structure Places (t : Tre) (l : List En) : Prop where
  sl : SL t.kv
  mem : ∀ (x : List UInt8) (n : Int), (x, n) ∈ t.kv ↔ ∃ i, ∃ h : i < l.length, n = (i : Int) ∧ (l[i]).name = x
  cnt : t.cnt ≤ l.length
theorem Places.nil : Places .nil [] := ⟨List.Pairwise.nil, fun x n => ⟨fun h => absurd h (by simp [Tre.kv]), fun ⟨i, h, _⟩ => absurd h (Nat.not_lt_zero _)⟩, Nat.le_refl _⟩
theorem Places.inj {t : Tre} {l : List En} (h : Places t l) {i j : Nat} (hi : i < l.length) (hj : j < l.length) (e : (l[i]).name = (l[j]).name) : i = j := by
  have h1 := (h.mem (l[i]).name i).2 ⟨i, hi, rfl, rfl⟩
  have h2 := (h.mem (l[i]).name j).2 ⟨j, hj, rfl, e.symm⟩
  have := SL_fun h.sl h1 h2
  omega
theorem Places.yes {t : Tre} {l : List En} (h : Places t l) {i : Nat} (hi : i < l.length) : getT (l[i]).name t = ((i : Int), true) := getT_some h.sl ((h.mem _ _).2 ⟨i, hi, rfl, rfl⟩)
theorem Places.no {t : Tre} {l : List En} (h : Places t l) {x : List UInt8} (hx : ∀ e ∈ l, e.name ≠ x) : getT x t = (0, false) := getT_none h.sl fun n hn => by
  obtain ⟨i, hi, _, e⟩ := (h.mem x n).1 hn
  exact hx _ (List.getElem_mem hi) e
theorem Places.cases {t : Tre} {l : List En} (h : Places t l) (x : List UInt8) : (∃ i, ∃ hi : i < l.length, (l[i]).name = x ∧ getT x t = ((i : Int), true)) ∨ ((∀ e ∈ l, e.name ≠ x) ∧ getT x t = (0, false)) := by
  by_cases hx : ∃ e ∈ l, e.name = x
  · obtain ⟨e, he, rfl⟩ := hx
    obtain ⟨i, hi, rfl⟩ := List.getElem_of_mem he
    exact Or.inl ⟨i, hi, rfl, h.yes hi⟩
  · have hx' : ∀ e ∈ l, e.name ≠ x := fun e he k => hx ⟨e, he, k⟩
    exact Or.inr ⟨hx', h.no hx'⟩
theorem Places.put {t : Tre} {l : List En} (h : Places t l) {e : En} (hx : ∀ d ∈ l, d.name ≠ e.name) : Places (putT e.name (l.length : Int) t) (l ++ [e]) := by
  refine ⟨putT_sl h.sl, fun x n => ?_, by have := putT_cnt (x := e.name) (n := (l.length : Int)) h.sl; have := h.cnt; rw [List.length_append]; simp only [List.length_cons, List.length_nil]; omega⟩
  rw [putT_mem h.sl]
  constructor
  · rintro (k | ⟨k, _⟩)
    · obtain ⟨rfl, rfl⟩ := Prod.mk.inj k
      exact ⟨l.length, by simp, rfl, by simp⟩
    · obtain ⟨i, hi, h1, h2⟩ := (h.mem x n).1 k
      exact ⟨i, by rw [List.length_append]; omega, h1, by rw [List.getElem_append_left hi]; exact h2⟩
  · rintro ⟨i, hi, rfl, h2⟩
    rw [List.length_append] at hi
    simp only [List.length_cons, List.length_nil] at hi
    by_cases hlt : i < l.length
    · rw [List.getElem_append_left hlt] at h2
      exact Or.inr ⟨(h.mem _ _).2 ⟨i, hlt, rfl, h2⟩, by rw [← h2]; exact hx _ (List.getElem_mem hlt)⟩
    · obtain rfl : i = l.length := by omega
      rw [List.getElem_append_right (by omega)] at h2
      simp only [Nat.sub_self, List.getElem_cons_zero] at h2
      exact Or.inl (by rw [h2])
/-- what adding an entry answers -/
def addOne (l : List En) (e : En) : Int := if enRight e = true then (if l.any (fun d => decide (d.name = e.name)) = true then 14 else 0) else 10
def addAll : List En → List En → Int
  | _, [] => 0
  | l, e :: r => if addOne l e = 0 then addAll (l ++ [e]) r else addOne l e
theorem addOne_zero {l : List En} {e : En} (h : addOne l e = 0) : enRight e = true ∧ ∀ d ∈ l, d.name ≠ e.name := by
  unfold addOne at h
  split at h
  · rename_i h1
    split at h
    · exact absurd h (by decide)
    · rename_i h2
      refine ⟨h1, fun d hd k => h2 (List.any_eq_true.2 ⟨d, hd, decide_eq_true k⟩)⟩
  · exact absurd h (by decide)
theorem addAll_at {l r : List En} {k : Nat} (hk : k < r.length) (h : addAll l (r.take k) = 0) : addAll l (r.take (k + 1)) = addOne (l ++ r.take k) r[k] := by
  induction r generalizing l k with
  | nil => exact absurd hk (Nat.not_lt_zero _)
  | cons e r ih =>
    cases k with
    | zero =>
      rw [List.take_succ_cons, List.take_zero, List.take_zero, addAll, List.append_nil, List.getElem_cons_zero]
      split
      · rename_i h1; rw [h1, addAll]
      · rfl
    | succ k =>
      rw [List.take_succ_cons, addAll] at h ⊢
      split at h
      · rename_i h1
        rw [if_pos h1, ih (by simpa using hk) h, List.take_succ_cons, List.getElem_cons_succ, List.append_assoc]
        rfl
      · rename_i h1; exact absurd h h1
theorem addAll_stop {l r : List En} {k : Nat} (h : addAll l (r.take k) ≠ 0) : addAll l r = addAll l (r.take k) := by
  induction r generalizing l k with
  | nil => rw [List.take_nil]
  | cons e r ih =>
    cases k with
    | zero => rw [List.take_zero, addAll] at h; exact absurd rfl h
    | succ k =>
      rw [List.take_succ_cons, addAll] at h ⊢
      rw [addAll]
      split at h
      · rename_i h1
        rw [if_pos h1, if_pos h1]
        exact ih h
      · rename_i h1
        rw [if_neg h1, if_neg h1]
end Go.Proofs.YtahdkhklngjmoaaGreatDoor

/-
  What right entries are bounded by; entries found by name, plain. No condition.
-/
namespace Go.Proofs.YtahdkhklngjmoaaGreatDoor
open Go.RowKit

theorem tm0_nodes : tm0.nodes ≤ 2000 := by decide
theorem enRight_small {e : En} (h : enRight e = true) : e.type.nodes ≤ 2000 ∧ e.value.nodes ≤ 2000 ∧ e.ctors.length ≤ 8 := by
  unfold enRight at h
  simp only [Bool.and_eq_true] at h
  obtain ⟨_, _, _, h4, h5, _, h7⟩ := h
  refine ⟨tmRight_nodes h4, ?_, ?_⟩
  · unfold enValued at h5
    split at h5
    · exact tmRight_nodes h5
    · split at h5
      · rw [Bool.or_eq_true] at h5
        rcases h5 with h5 | h5
        · rw [tmEq_iff] at h5
          rw [h5]
          exact tm0_nodes
        · exact tmRight_nodes h5
      · rw [tmEq_iff] at h5
        rw [h5]
        exact tm0_nodes
  · unfold enListed at h7
    split at h7
    · rw [Bool.and_eq_true, decide_eq_true_eq] at h7
      exact h7.1
    · rw [decide_eq_true_eq] at h7
      omega
/-- a name's entry -/
def envGet (l : List En) (x : List UInt8) : En × Bool :=
  match l.find? fun e => decide (e.name = x) with
  | some e => (e, true)
  | none => (en0, false)
theorem envGet_no {l : List En} {x : List UInt8} (h : ∀ e ∈ l, e.name ≠ x) : envGet l x = (en0, false) := by
  have : l.find? (fun e => decide (e.name = x)) = none := by
    rw [List.find?_eq_none]
    intro e he
    rw [decide_eq_true_eq]
    exact h e he
  rw [envGet, this]
theorem envGet_yes {t : Tre} {l : List En} (hp : Places t l) {i : Nat} (hi : i < l.length) : envGet l (l[i]).name = (l[i], true) := by
  unfold envGet
  cases h : l.find? fun e => decide (e.name = (l[i]).name) with
  | none =>
    exfalso
    have := List.find?_eq_none.1 h l[i] (List.getElem_mem hi)
    exact this (decide_eq_true rfl)
  | some e =>
    have h1 : e.name = (l[i]).name := of_decide_eq_true (List.find?_some (p := fun e : En => decide (e.name = (l[i]).name)) h)
    obtain ⟨j, hj, rfl⟩ := List.getElem_of_mem (List.mem_of_find?_eq_some h)
    have := hp.inj hj hi h1
    subst this
    rfl
/-- all entries are right -/
def AllRight (l : List En) : Prop := ∀ e ∈ l, enRight e = true
theorem en0_small : en0.type.nodes ≤ 2000 ∧ en0.value.nodes ≤ 2000 ∧ en0.ctors.length ≤ 8 := by decide
theorem envGet_small {l : List En} (h : AllRight l) (x : List UInt8) : (envGet l x).1.type.nodes ≤ 2000 ∧ (envGet l x).1.value.nodes ≤ 2000 ∧ (envGet l x).1.ctors.length ≤ 8 := by
  unfold envGet
  cases hf : l.find? fun e => decide (e.name = x) with
  | none => exact en0_small
  | some e => exact enRight_small (h e (List.mem_of_find?_eq_some hf))
/-! many are added -/
def putAll : Tre → Nat → List En → Tre
  | t, _, [] => t
  | t, n, e :: r => putAll (putT e.name (n : Int) t) (n + 1) r
theorem putAll_append : ∀ (a b : List En) (t : Tre) (n : Nat), putAll t n (a ++ b) = putAll (putAll t n a) (n + a.length) b
  | [], b, t, n => rfl
  | e :: a, b, t, n => by
    rw [List.cons_append, putAll, putAll, putAll_append a b, List.length_cons]
    congr 1
    omega
theorem putAll_snoc {r : List En} {k : Nat} (h : k < r.length) (t : Tre) (n : Nat) : putAll t n (r.take (k + 1)) = putT (r[k]).name ((n + k : Nat) : Int) (putAll t n (r.take k)) := by
  rw [List.take_succ_eq_append_getElem h, putAll_append, List.length_take, Nat.min_eq_left (Nat.le_of_lt h)]
  rfl
theorem addAll_snoc {l : List En} : ∀ (r : List En) (e : En), addAll l r = 0 → addAll l (r ++ [e]) = addOne (l ++ r) e
  | [], e, _ => by
    rw [List.nil_append, addAll, List.append_nil]
    split
    · rename_i h; rw [h, addAll]
    · rfl
  | d :: r, e, h => by
    rw [addAll] at h
    rw [List.cons_append, addAll]
    split at h
    · rename_i h1
      rw [if_pos h1, addAll_snoc r e h, List.append_assoc]
      rfl
    · rename_i h1; exact absurd h h1
theorem places_all : ∀ (r : List En) (t : Tre) (l : List En), Places t l → AllRight l → addAll l r = 0 → Places (putAll t l.length r) (l ++ r) ∧ AllRight (l ++ r)
  | [], t, l, hp, ha, _ => by rw [List.append_nil]; exact ⟨hp, ha⟩
  | e :: r, t, l, hp, ha, h => by
    rw [addAll] at h
    split at h
    · rename_i h1
      obtain ⟨g1, g2⟩ := addOne_zero h1
      have hp' := hp.put g2
      have ha' : AllRight (l ++ [e]) := fun d hd => by
        rcases List.mem_append.1 hd with hd | hd
        · exact ha d hd
        · rw [List.mem_singleton] at hd; subst hd; exact g1
      have := places_all r _ _ hp' ha' h
      rw [List.append_assoc, List.length_append] at this
      exact this
    · rename_i h1; exact absurd h h1
theorem addOne_form {l : List En} {e : En} (h : enRight e = false) : addOne l e = 10 := by unfold addOne; rw [if_neg (by rw [h]; decide)]
theorem addOne_there {l : List En} {e d : En} (h : enRight e = true) (hd : d ∈ l) (hx : d.name = e.name) : addOne l e = 14 := by
  unfold addOne
  rw [if_pos h, if_pos]
  exact List.any_eq_true.2 ⟨d, hd, decide_eq_true hx⟩
theorem addOne_ok {l : List En} {e : En} (h : enRight e = true) (hx : ∀ d ∈ l, d.name ≠ e.name) : addOne l e = 0 := by
  unfold addOne
  rw [if_pos h, if_neg]
  intro k
  obtain ⟨d, hd, hk⟩ := List.any_eq_true.1 k
  exact hx d hd (of_decide_eq_true hk)
end Go.Proofs.YtahdkhklngjmoaaGreatDoor

/-
  The program's environments. No condition.
-/
namespace Go.Proofs.YtahdkhklngjmoaaGreatDoor
open Go.RowKit

def ensX (l : List En) : AV := .sl .no 19 (l.map enX)
def envX (t : Tre) (l : List En) : AV := .ip [.ip [trX t], ensX l]
theorem enAt' {l : List En} {k : Nat} (h : k < l.length) : (l.map enX)[k]? = some (enX l[k]) := by simp [h]
theorem ens_len (l : List En) : (l.map enX).length = l.length := List.length_map _
set_option maxRecDepth 100000 in
theorem envNew_con : Ans Tryz.prog 30 [] (envX .nil []) := by
  intro H Q hq
  refine Con.ice ?_
  refine con_of_awp (esc := ([3].contains ·)) tab_ok mixed Tryz.func30 rfl (ent Tryz.func30 (by kernel_rfl) rfl) (by kernel_rfl) ?_
  intro hw hn
  clear hw hn
  refine ⟨_, LeL.refl _, treeNew_con _ _ ?_⟩
  intro hz1 hz2; clear hz1 hz2
  intro b hb
  have hfin : Le (.ip [.ip [trX .nil], .sl .full 0 []]) (envX .nil []) := Le.ip ⟨Le.refl _, Le.nil _ _, trivial⟩
  exact ⟨_, _, Le.refl _, List.Sublist.refl _, b, [.ip [trX .nil], .sl .full 0 []], H, envX .nil [], .here, fun M h => (ptr_ice h).trans (hfin.m M), hq⟩
set_option maxRecDepth 100000 in
theorem envAddForm_con (t : Tre) (l : List En) (e : En) (h : enRight e = false) : Ans Tryz.prog 56 [envX t l, enX e] (.tup [.v (.pointer none), .i 10]) := by
  intro H Q hq
  refine con_of_awp (esc := fun _ => false) tab_ok mixed Tryz.func56 rfl (ent Tryz.func56 (by kernel_rfl) rfl) (by kernel_rfl) ?_
  intro hw hn
  clear hw hn
  refine ⟨_, LeL.refl _, (declRight_con e).as h _ _ ?_⟩
  intro hz1 hz2; clear hz1 hz2
  exact ⟨_, H, Le.refl _, List.Sublist.refl _, hq⟩
set_option maxRecDepth 100000 in
theorem envAddThere_con (t : Tre) (l : List En) (e : En) (h : enRight e = true) (i : Int) (hg : getT e.name t = (i, true)) : Ans Tryz.prog 56 [envX t l, enX e] (.tup [.v (.pointer none), .i 14]) := by
  intro H Q hq
  refine con_of_awp (esc := fun _ => false) tab_ok mixed Tryz.func56 rfl (ent Tryz.func56 (by kernel_rfl) rfl) (by kernel_rfl) ?_
  intro hw hn
  clear hw hn
  refine ⟨_, LeL.refl _, (declRight_con e).as h _ _ ?_⟩
  intro hz1 hz2; clear hz1 hz2
  refine ⟨[0, 1, 2, 3, 4, 5, 6, 7, 8, 9, 10, 11], [], by kernel_rfl, by simp, ?_⟩
  refine ⟨_, LeL.refl _, (Get_con e.name t).to (congrArg (fun p : Int × Bool => AV.tup [.i p.1, .b p.2]) hg) _ _ ?_⟩
  intro hz1 hz2; clear hz1 hz2
  exact ⟨_, H, Le.refl _, List.Sublist.refl _, hq⟩
set_option maxRecDepth 100000 in
set_option maxHeartbeats 1000000 in
theorem envAdd_con (t : Tre) (l : List En) (e : En) (h : enRight e = true) (hg : getT e.name t = (0, false)) (hl : l.length ≤ 100000) (hc : t.cnt ≤ 900000) : Ans Tryz.prog 56 [envX t l, enX e] (.tup [envX (putT e.name (l.length : Nat) t) (l ++ [e]), .i 0]) := by
  intro H Q hq
  obtain ⟨k1, k2, k3⟩ := enRight_small h
  have hel := ens_len l
  have htk : ((l.map enX).drop 0).take ((l.map enX).length - 0) = l.map enX := by rw [List.drop_zero, Nat.sub_zero, List.take_length]
  refine Con.ice ?_
  refine con_of_awp (esc := ([56].contains ·)) tab_ok mixed Tryz.func56 rfl (ent Tryz.func56 (by kernel_rfl) rfl) (by kernel_rfl) ?_
  intro hw hn
  clear hw hn
  refine ⟨_, LeL.refl _, (declRight_con e).as h _ _ ?_⟩
  intro hz1 hz2; clear hz1 hz2
  refine ⟨[0, 1, 2, 3, 4, 5, 6, 7, 8, 9, 10, 11], [], by kernel_rfl, by simp, ?_⟩
  refine ⟨_, LeL.refl _, (Get_con e.name t).to (congrArg (fun p : Int × Bool => AV.tup [.i p.1, .b p.2]) hg) _ _ ?_⟩
  intro hz1 hz2; clear hz1 hz2
  refine ⟨[0, 1, 2, 3, 4, 5, 6, 7, 8, 9, 10, 11, 12, 13, 14, 15, 16, 17, 18, 19], [], by kernel_rfl, by simp, ?_⟩
  refine ⟨(l.map enX).length, rfl, ⟨Nat.zero_le _, Nat.le_refl _⟩, (l.map enX).length, rfl, rfl, ?_⟩
  refine ⟨_, LeL.refl _, declClone_con e (by omega) (by omega) (by omega) _ _ ?_⟩
  intro hz1 hz2; clear hz1 hz2
  refine ⟨(by rw [htk, hel]; (first | refine Or.inl ?_ | skip); show (_ + 1) * (264 + 1) ≤ _; omega), fun c hc1 => ?_⟩
  refine ⟨[0, 1, 2, 3, 4, 5, 6, 7, 8, 9, 10, 12, 11, 13, 14, 15, 16], [], by kernel_rfl, by simp, ?_⟩
  refine ⟨[.ip [trX t], .str e.name, .i (l.length : Nat)], ⟨Le.refl _, Le.refl _, ret_i (congrArg Int.ofNat hel), trivial⟩, Put_con e.name (l.length : Nat) t hc _ _ ?_⟩
  intro hz1 hz2; clear hz1 hz2
  intro b hb
  have hfin : Le (.ip [.ip [trX (putT e.name (l.length : Nat) t)], .sl (.own c) 19 (((l.map enX).drop 0).take ((l.map enX).length - 0) ++ [enX e])]) (envX (putT e.name (l.length : Nat) t) (l ++ [e])) := by
    refine Le.ip ⟨Le.refl _, Le.trans (Le.own _ _ _) (le_of_eq ?_), trivial⟩
    rw [htk, ensX, List.map_append]
    rfl
  exact ⟨_, _, Le.refl _, List.Sublist.cons_cons _ (List.sublist_cons_self _ _), b, [.ip [trX (putT e.name (l.length : Nat) t)], .sl (.own c) 19 (((l.map enX).drop 0).take ((l.map enX).length - 0) ++ [enX e])], H, .tup [envX (putT e.name (l.length : Nat) t) (l ++ [e]), .i 0], .here, fun M h => LeM.tup ⟨(ptr_ice h).trans (hfin.m M), LeM.refl _, trivial⟩, hq⟩
theorem addOne_cases {t : Tre} {l : List En} (hp : Places t l) (e : En) : (enRight e = false ∧ addOne l e = 10) ∨ (enRight e = true ∧ addOne l e = 14 ∧ ∃ i, getT e.name t = (i, true)) ∨ (enRight e = true ∧ addOne l e = 0 ∧ getT e.name t = (0, false) ∧ ∀ d ∈ l, d.name ≠ e.name) := by
  cases h : enRight e with
  | false => exact Or.inl ⟨rfl, addOne_form h⟩
  | true =>
    rcases hp.cases e.name with ⟨i, hi, hx, hg⟩ | ⟨hx, hg⟩
    · exact Or.inr (Or.inl ⟨rfl, addOne_there h (List.getElem_mem hi) hx, _, hg⟩)
    · exact Or.inr (Or.inr ⟨rfl, addOne_ok h hx, hg, hx⟩)
set_option maxRecDepth 100000 in
set_option maxHeartbeats 1000000 in
theorem envAddAll_con (o : Own) (t : Tre) (l r : List En) (hp : Places t l) (ha : AllRight l) (hl : l.length + r.length ≤ 100000) :
    Ans Tryz.prog 31 [envX t l, .sl o 19 (r.map enX)] (if addAll l r = 0 then .tup [envX (putAll t l.length r) (l ++ r), .i 0] else .tup [.v (.pointer none), .i (addAll l r)]) := by
  intro H Q hq
  have hrl := ens_len r
  refine con_of_awp (esc := fun _ => false) tab_ok mixed Tryz.func31 rfl (ent Tryz.func31 (by kernel_rfl) rfl) (by kernel_rfl) ?_
  intro hw hn
  clear hw hn
  refine ⟨Nat, fun k => ⟨[(4, .g (.v (.pointer none))), (5, .g (.i 0)), (6, .g (envX (putAll t l.length (r.take k)) (l ++ r.take k))), (12, .g (.sl o 19 (r.map enX))), (13, .g (.i (r.length : Nat))), (14, .g (.i k))], [], H⟩, fun k => k ≤ r.length ∧ addAll l (r.take k) = 0, fun k => r.length - k, ⟨0, ⟨Nat.zero_le _, by rw [List.take_zero, addAll]⟩, ?_⟩, ?_⟩
  · refine ⟨⟨Le.refl _, Le.refl _, le_of_eq (by rw [List.take_zero, List.append_nil]; rfl), Le.refl _, ret_i (congrArg Int.ofNat hrl), Le.refl _, trivial⟩, trivial, List.Sublist.refl _⟩
  · rintro k ⟨hk, h0⟩
    refine ifB_dec (fun h1 => ?_) (fun h1 => ?_)
    · have hlt : k < r.length := by omega
      have htl : (r.take k).length = k := by rw [List.length_take]; omega
      have hll : (l ++ r.take k).length = l.length + k := by rw [List.length_append, htl]
      obtain ⟨hp', ha'⟩ := places_all (r.take k) t l hp ha h0
      have hsn : addAll l (r.take (k + 1)) = addOne (l ++ r.take k) r[k] := by rw [List.take_succ_eq_append_getElem hlt]; exact addAll_snoc _ _ h0
      have hcn := hp'.cnt
      have hpn := putAll_snoc hlt t l.length
      have hap : l ++ r.take (k + 1) = (l ++ r.take k) ++ [r[k]] := by rw [List.take_succ_eq_append_getElem hlt, List.append_assoc]
      refine ⟨k, rfl, _, enAt' hlt, ?_⟩
      rcases addOne_cases hp' r[k] with ⟨hr, e1⟩ | ⟨hr, e1, i, hg⟩ | ⟨hr, e1, hg, hx⟩
      · have hst : addAll l r = 10 := by rw [addAll_stop (k := k + 1) (by rw [hsn, e1]; decide), hsn, e1]
        rw [if_neg (by rw [hst]; decide), hst] at hq
        refine ⟨_, LeL.refl _, envAddForm_con _ _ r[k] hr _ _ ?_⟩
        intro hz1 hz2; clear hz1 hz2
        exact ⟨_, H, Le.refl _, List.Sublist.refl _, hq⟩
      · have hst : addAll l r = 14 := by rw [addAll_stop (k := k + 1) (by rw [hsn, e1]; decide), hsn, e1]
        rw [if_neg (by rw [hst]; decide), hst] at hq
        refine ⟨_, LeL.refl _, envAddThere_con _ _ r[k] hr i hg _ _ ?_⟩
        intro hz1 hz2; clear hz1 hz2
        exact ⟨_, H, Le.refl _, List.Sublist.refl _, hq⟩
      · refine ⟨_, LeL.refl _, envAdd_con _ _ r[k] hr hg (by omega) (by omega) _ _ ?_⟩
        intro hz1 hz2; clear hz1 hz2
        refine ⟨in64_of (by first | omega | (dsimp only; omega)) (by first | omega | (dsimp only; omega)), ?_⟩
        refine ⟨k + 1, ⟨by omega, by rw [hsn, e1]⟩, by (try dsimp only); omega, ?_⟩
        refine ⟨⟨Le.refl _, Le.refl _, le_of_eq ?_, Le.refl _, Le.refl _, Le.refl _, trivial⟩, trivial, List.Sublist.refl _⟩
        rw [hpn, hap, hll]
    · have hke : k = r.length := by omega
      subst hke
      rw [List.take_length] at h0
      rw [if_pos h0] at hq
      have hfin : Le (.tup [envX (putAll t l.length (r.take r.length)) (l ++ r.take r.length), .i 0]) (.tup [envX (putAll t l.length r) (l ++ r), .i 0]) := le_of_eq (by rw [List.take_length])
      exact ⟨_, H, hfin, List.Sublist.refl _, hq⟩
set_option maxRecDepth 100000 in
theorem envEntry_con (t : Tre) (l : List En) (hp : Places t l) (x : List UInt8) : Ans Tryz.prog 137 [envX t l, .str x] (.tup [enX (envGet l x).1, .b (envGet l x).2]) := by
  intro H Q hq
  rcases hp.cases x with ⟨i, hi, hx, hg⟩ | ⟨hx, hg⟩
  · have he := envGet_yes hp hi
    rw [hx] at he
    rw [he] at hq
    refine con_of_awp (esc := fun _ => false) tab_ok mixed Tryz.func137 rfl (ent Tryz.func137 (by kernel_rfl) rfl) (by kernel_rfl) ?_
    intro hw hn
    clear hw hn
    refine ⟨_, LeL.refl _, (Get_con x t).to (congrArg (fun p : Int × Bool => AV.tup [.i p.1, .b p.2]) hg) _ _ ?_⟩
    intro hz1 hz2; clear hz1 hz2
    refine ⟨i, rfl, _, enAt' hi, ?_⟩
    exact ⟨_, H, Le.refl _, List.Sublist.refl _, hq⟩
  · rw [envGet_no hx] at hq
    refine con_of_awp (esc := fun _ => false) tab_ok mixed Tryz.func137 rfl (ent Tryz.func137 (by kernel_rfl) rfl) (by kernel_rfl) ?_
    intro hw hn
    clear hw hn
    refine ⟨_, LeL.refl _, (Get_con x t).to (congrArg (fun p : Int × Bool => AV.tup [.i p.1, .b p.2]) hg) _ _ ?_⟩
    intro hz1 hz2; clear hz1 hz2
    have hfin : Le (.tup [.agg [.i 0, .i 0, .str [], .i 0, .i 0, .str [], .sl .full 0 [], .sl .full 0 [], .i 0, .i 0, .str [], .sl .full 0 [], .sl .full 0 [], .i 0, .str [], .i 0, .i 0, .i 0, .sl .full 0 []], .b false]) (.tup [enX en0, .b false]) := Le.tup ⟨le_en0, Le.refl _, trivial⟩
    exact ⟨_, H, hfin, List.Sublist.refl _, hq⟩
set_option maxRecDepth 100000 in
theorem envGet_con (t : Tre) (l : List En) (hp : Places t l) (ha : AllRight l) (x : List UInt8) : Ans Tryz.prog 112 [envX t l, .str x] (.tup [enX (envGet l x).1, .b (envGet l x).2]) := by
  intro H Q hq
  obtain ⟨k1, k2, k3⟩ := envGet_small ha x
  refine con_of_awp (esc := fun _ => false) tab_ok mixed Tryz.func112 rfl (ent Tryz.func112 (by kernel_rfl) rfl) (by kernel_rfl) ?_
  intro hw hn
  clear hw hn
  refine ⟨_, LeL.refl _, envEntry_con t l hp x _ _ ?_⟩
  intro hz1 hz2; clear hz1 hz2
  refine ⟨_, LeL.refl _, declClone_con (envGet l x).1 (by omega) (by omega) (by omega) _ _ ?_⟩
  intro hz1 hz2; clear hz1 hz2
  exact ⟨_, H, Le.refl _, List.Sublist.refl _, hq⟩
set_option maxRecDepth 100000 in
theorem envTell_con {f : FuncId} (t : Tre) (l : List En) (hp : Places t l) (x : List UInt8) (o : Own) (ls : List Lv) {u : Tm} {n : Int} {e : En} (he : envGet l x = (e, true)) (hf : Ans Tryz.prog f [enX e, .sl o 3 (ls.map lvA)] (.tup [tmX u, .i n])) :
    Ans Tryz.prog 163 [envX t l, .str x, .sl o 3 (ls.map lvA), .fn (.func f) []] (.tup [tmX u, .i n]) := by
  intro H Q hq
  refine con_of_awp (esc := fun _ => false) tab_ok mixed Tryz.func163 rfl (ent Tryz.func163 (by kernel_rfl) rfl) (by kernel_rfl) ?_
  intro hw hn
  clear hw hn
  refine ⟨_, LeL.refl _, (envEntry_con t l hp x).to (congrArg (fun p : En × Bool => AV.tup [enX p.1, .b p.2]) he) _ _ ?_⟩
  intro hz1 hz2; clear hz1 hz2
  refine ⟨_, LeL.refl _, hf _ _ ?_⟩
  intro hz1 hz2; clear hz1 hz2
  exact ⟨_, H, Le.refl _, List.Sublist.refl _, hq⟩
/-- the greatest height of so many names -/
def hts (l : List En) (ss : List (List UInt8)) : Int := ss.foldl (fun n s => max n (envGet l s).1.height) 0
end Go.Proofs.YtahdkhklngjmoaaGreatDoor

/-
  Law 12's alive; Great. No condition.
-/
namespace Go.Proofs.YtahdkhklngjmoaaGreatDoor
open Go.RowKit

/-! heights -/
/-! what the law looks at first -/
def pT : Tm := .mk 2 0 [] [.mk 1 0 []] []
def cT (s : List UInt8) : Tm := .mk 3 0 s [] []
def eA : En := ⟨1, 0, [97], pT, tm0, 0, [], 0, 0, 0, []⟩
def eD : En := ⟨2, 0, [100], pT, cT [97], 1, [], 0, 0, 0, []⟩
def tT : Tre := putAll .nil 0 [eD, eA]
theorem ha1 : ([[97], [100]] : List (List UInt8)).all (fun s => (getT s tT).2) = true := by kernel_rfl
theorem sameT (t : Tm) : tmEq t t = true := (tmEq_iff _ _).2 rfl
set_option maxRecDepth 100000 in
theorem great12_con (list : List En) (H : Heap) (Q : AV → Heap → Prop) (hq : ∀ q : Bool, (q = false → list.length ≤ 30) → Q (.b q) H) : Con Tryz.prog 40 [ensX list] H Q := by
  have hel := ens_len list
  refine con_of_awp (esc := fun _ => false) tab_ok mixed Tryz.func40 rfl (ent Tryz.func40 (by kernel_rfl) rfl) (by kernel_rfl) ?_
  intro hw hn
  clear hw hn
  refine ifB_dec (fun h0 => ?_) (fun h0 => ?_)
  · exact ⟨_, H, Le.refl _, List.Sublist.refl _, hq true nofun⟩
  refine ⟨Nat × Int, fun x => ⟨[(0, .g (ensX list)), (2, .g (.b false)), (3, .g (.i x.2)), (4, .g (.i x.1))], [], H⟩, fun x => x.1 ≤ list.length ∧ 0 ≤ x.2 ∧ x.2 ≤ 6000, fun x => list.length - x.1, ⟨(0, 0), ⟨Nat.zero_le _, by decide, by decide⟩, ?_⟩, ?_⟩
  · (constructor <;> repeat' (first | exact trivial | exact ⟨rfl, rfl⟩ | exact ⟨rfl, LeL.refl _⟩ | exact Le.refl _ | exact List.Sublist.refl _ | (show Le (AV.i _) (AV.i _); rw [List.length_map]; exact Le.refl _) | refine And.intro ?_ ?_))
  · rintro ⟨k, n⟩ ⟨hk, hn0, hn1⟩
    simp only at hk hn0 hn1
    refine ifB_dec (fun h1 => ?_) (fun h1 => ?_)
    · have hlt : k < list.length := by omega
      refine ⟨k, rfl, _, enAt' hlt, ?_⟩
      refine ⟨_, LeL.refl _, Great11_con list[k] _ _ fun q _ => ?_⟩
      intro hz1 hz2; clear hz1 hz2
      cases q with
      | true => exact ⟨_, H, Le.refl _, List.Sublist.refl _, hq true nofun⟩
      | false =>
        refine ⟨[0, 1, 2, 3, 4, 5, 7, 8, 9, 10, 11, 6, 12, 13, 14, 15], [], by kernel_rfl, by simp, ?_⟩
        refine ⟨k, rfl, _, enAt' hlt, k, rfl, _, enAt' hlt, ?_⟩
        refine ⟨[tmX list[k].type, .i (2500 : Nat)], LeL.refl _, tmBig_con 2500 (by decide) _ list[k].type (Nat.le_refl _) _ _ ?_⟩
        intro hz1 hz2; clear hz1 hz2
        refine ⟨[tmX list[k].value, .i (2500 : Nat)], LeL.refl _, tmBig_con 2500 (by decide) _ list[k].value (Nat.le_refl _) _ _ ?_⟩
        intro hz1 hz2; clear hz1 hz2
        refine ⟨in64_of (by first | omega | (dsimp only; omega)) (by first | omega | (dsimp only; omega)), ?_⟩
        refine ⟨in64_of (by first | omega | (dsimp only; omega)) (by first | omega | (dsimp only; omega)), ?_⟩
        refine ifB_dec (fun h2 => ?_) (fun h2 => ?_)
        · exact ⟨_, H, Le.refl _, List.Sublist.refl _, hq true nofun⟩
        · refine ⟨in64_of (by first | omega | (dsimp only; omega)) (by first | omega | (dsimp only; omega)), ?_⟩
          refine ⟨(k + 1, n + ((min list[k].type.big (2500 + 1) : Nat) + (min list[k].value.big (2500 + 1) : Nat) : Int)), ⟨by simp only; omega, by simp only; omega, by simp only; omega⟩, by (try dsimp only); omega, ?_⟩
          (constructor <;> repeat' (first | exact trivial | exact ⟨rfl, rfl⟩ | exact ⟨rfl, LeL.refl _⟩ | exact Le.refl _ | exact List.Sublist.refl _ | (show Le (AV.i _) (AV.i _); rw [List.length_map]; exact Le.refl _) | refine And.intro ?_ ?_))
    · exact ⟨_, H, Le.refl _, List.Sublist.refl _, hq false fun _ => by omega⟩
end Go.Proofs.YtahdkhklngjmoaaGreatDoor

