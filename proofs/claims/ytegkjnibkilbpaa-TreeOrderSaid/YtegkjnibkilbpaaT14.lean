import Derived.Test.YtegkjnibkilbpaaT13
import Derived.LaidEqlPtr
import Derived.Maps.RangeWalk
import Derived.Maps.OwnOps
namespace Go.Proofs.Ytegkjnibkilbpaa
open Go.RowKit Go.ChangeMaps Go.MapKept

def pv (p : Nat) : Value := .pointer (some ⟨p, 0, none⟩)

theorem pv_inj {p q : Nat} (h : pv p = pv q) : p = q := by
  unfold pv at h; cases h; rfl

theorem Try.infoN : (Try.prog.info? 50).map (fun i => i.size) = some 6 := by kernel_rfl

theorem run_equal_ptr {w : World} {p q : Nat} (hp : blk w p) (hq : blk w q) : (Op.equal 42 (pv p) (pv q)).run Try.prog w = .ok (p == q) w := by
  obtain ⟨j, hj, hs⟩ : ∃ j, Try.prog.info? 50 = some j ∧ j.size = 6 := by
    have := Try.infoN
    cases h : Try.prog.info? 50 with
    | none => rw [h] at this; simp at this
    | some j => rw [h] at this; exact ⟨j, rfl, by simpa using this⟩
  obtain ⟨ca, ta, ha⟩ := hp
  obtain ⟨cb, tb, hb⟩ := hq
  have h : ∀ d : Nat, (Op.equalIn (d + 1) 42 (pv p) (pv q)).run Try.prog w = .ok (p == q) w := fun d => by
    by_cases hpq : p = q
    · subst hpq
      simp [Op.equalIn, pv, run_underlying Try.underlying42, sizeOf, typeInfo, hj, run_sameAddr_same]
    · have hne : (⟨p, 0, none⟩ : Addr) ≠ ⟨q, 0, none⟩ := by intro h; cases h; exact hpq rfl
      simp [Op.equalIn, pv, run_underlying Try.underlying42, sizeOf, typeInfo, hj, hs, run_sameAddr_other w hne ha hb, hpq]
  simp [Op.equal, Op.maxDepth, h 9999]

/-- the map's block holds each of these once -/
def PM (w : World) (b : Nat) (l : List Nat) : Prop :=
  ∃ es clock, w.heap[b]? = some (.map es clock) ∧ Stamped es clock ∧ es.toList.map (·.key) = l.map pv ∧ ∀ e ∈ es.toList, e.val = .int .i64 1

theorem findAsking_ptr {w : World} {p : Nat} (hp : blk w p) : ∀ (es : List MapEntry) (l : List Nat) (i : Nat), es.map (·.key) = l.map pv → (∀ q ∈ l, blk w q) → (∀ e ∈ es, e.val = .int .i64 1) →
    ∃ j, (Instr.findAsking 42 (pv p) es i).run Try.prog w = .ok (if p ∈ l then some (j, .int .i64 1) else none) w
  | [], [], i, _, _, _ => ⟨0, by simp [Instr.findAsking]⟩
  | e :: es, q :: l, i, hk, hb, hv => by
    simp only [List.map_cons, List.cons.injEq] at hk
    obtain ⟨j, hj⟩ := findAsking_ptr hp es l (i + 1) hk.2 (fun q hq => hb q (by simp [hq])) (fun e he => hv e (by simp [he]))
    have heq := run_equal_ptr (w := w) hp (hb q (by simp))
    by_cases hpq : p = q
    · subst hpq
      refine ⟨i, ?_⟩
      simp [Instr.findAsking, Sem.run_bind, hk.1, heq, hv e (by simp)]
    · refine ⟨j, ?_⟩
      simp [Instr.findAsking, Sem.run_bind, hk.1, heq, hpq, hj]
  | [], _ :: _, _, hk, _, _ => by simp at hk
  | _ :: _, [], _, hk, _, _ => by simp at hk

theorem findKey_ptr {w : World} {p : Nat} (hp : blk w p) (es : List MapEntry) (l : List Nat) (hk : es.map (·.key) = l.map pv) (hb : ∀ q ∈ l, blk w q) (hv : ∀ e ∈ es, e.val = .int .i64 1) :
    ∃ j, (Instr.findKey 42 (pv p) es).run Try.prog w = .ok (if p ∈ l then some (j, .int .i64 1) else none) w := by
  cases es with
  | nil =>
    cases l with
    | nil => exact ⟨0, by simp [Instr.findKey, run_underlying Try.underlying42, Instr.findNow]⟩
    | cons a l => simp at hk
  | cons e es =>
    obtain ⟨j, hj⟩ := findAsking_ptr hp (e :: es) l 0 hk hb hv
    refine ⟨j, ?_⟩
    simp [Instr.findKey, run_underlying Try.underlying42, Instr.findNow, Instr.sameNow, hj]

theorem checkKey_ptr (w : World) (p : Nat) (em : Bool) (d : Nat) : (Instr.checkKey em (d + 1) 42 (pv p)).run Try.prog w = .ok () w := by
  simp [Instr.checkKey, pv, run_underlying Try.underlying42]

theorem run_lookup_ptr {w : World} {b p : Nat} {l : List Nat} (h : PM w b l) (hb : ∀ q ∈ l, blk w q) (hp : blk w p) :
    (Instr.lookup 47 (.map (some b)) (pv p) false).run Try.prog w = .ok (.int .i64 (if p ∈ l then 1 else 0)) w := by
  obtain ⟨es, clock, hh, _, hk, hv⟩ := h
  obtain ⟨j, hj⟩ := findKey_ptr hp es.toList l hk hb hv
  have hck : ∀ em, (Instr.checkKey em 10000 42 (pv p)).run Try.prog w = .ok () w := fun em => checkKey_ptr w p em 9999
  have hz : (zeroValue 3).run Try.prog w = .ok (.int .i64 0) w := by kernel_rfl
  by_cases hpl : p ∈ l
  · rw [if_pos hpl] at hj ⊢
    simp [Instr.lookup, run_underlying Try.underlying47, MapKept.run_getObj_map hh, hck, hj]
  · rw [if_neg hpl] at hj ⊢
    simp [Instr.lookup, run_underlying Try.underlying47, MapKept.run_getObj_map hh, hck, hj, hz]

theorem run_update_ptr {w : World} {b p : Nat} {l : List Nat} (h : PM w b l) (hb : ∀ q ∈ l, blk w q) (hp : blk w p) (hn : p ∉ l) :
    ∃ w', (Instr.mapUpdate 47 (.map (some b)) (pv p) (.int .i64 1)).run Try.prog w = .ok () w' ∧ PM w' b (l ++ [p]) ∧ w.grownBy w' (some b) ∧ w'.heap.size = w.heap.size := by
  obtain ⟨es, clock, hh, hs, hk, hv⟩ := h
  obtain ⟨j, hj⟩ := findKey_ptr hp es.toList l hk hb hv
  have hck : ∀ em, (Instr.checkKey em 10000 42 (pv p)).run Try.prog w = .ok () w := fun em => checkKey_ptr w p em 9999
  rw [if_neg hn] at hj
  refine ⟨setBlock w b (.map (es.push { key := pv p, val := .int .i64 1, born := clock }) (clock + 1)), ?_, ⟨_, _, heap_setBlock_same hh _, stamped_push hs ?_, ?_, ?_⟩, ?_, ?_⟩
  · simp [Instr.mapUpdate, Sem.run_bind, run_underlying Try.underlying47, Result.andThen, MapKept.run_getObj_map hh, hck, hj, MapKept.run_setObj_map _ hh, setBlock]
  · intro x hx he
    have : x.key ∈ es.toList.map (·.key) := List.mem_map.2 ⟨x, hx, rfl⟩
    rw [hk, he] at this
    obtain ⟨q, hq, hqq⟩ := List.mem_map.1 this
    exact hn (pv_inj hqq ▸ hq)
  · simp [hk]
  · intro e he
    simp only [Array.toList_push, List.mem_append, List.mem_singleton] at he
    rcases he with he | rfl
    · exact hv e he
    · rfl
  · exact ⟨rfl, rfl, rfl, by simp [setBlock], fun i _ hi => heap_setBlock_other hh _ (fun e => hi (by rw [e]))⟩
  · simp [setBlock]

theorem PM.lt {w : World} {b : Nat} {l : List Nat} (h : PM w b l) : b < w.heap.size := by
  obtain ⟨es, clock, hh, _⟩ := h
  exact (Array.getElem?_eq_some_iff.1 hh).1
theorem PM.kept {w w' : World} {b : Nat} {l : List Nat} {row : Option Nat} (h : PM w b l) (hg : w.grownBy w' row) (hne : some b ≠ row) : PM w' b l := by
  have hlt := h.lt
  obtain ⟨es, clock, hh, r⟩ := h
  exact ⟨es, clock, (hg.block b hlt hne).trans hh, r⟩
theorem PM.drew {w : World} {b : Nat} {l : List Nat} (h : PM w b l) : PM w.drew b l := h
theorem PM.not_blk {w : World} {b p : Nat} {l : List Nat} (h : PM w b l) (hp : blk w p) : p ≠ b := by
  rintro rfl
  obtain ⟨es, clock, hh, _⟩ := h
  obtain ⟨cs, ty, hc⟩ := hp
  rw [hh] at hc; cases hc

theorem blk.lt {w : World} {p : Nat} (h : blk w p) : p < w.heap.size := by
  obtain ⟨cs, ty, hc⟩ := h
  exact (Array.getElem?_eq_some_iff.1 hc).1
theorem blk.same {w w' : World} {p : Nat} (h : blk w p) (he : w'.heap[p]? = w.heap[p]?) : blk w' p := by
  obtain ⟨cs, ty, hc⟩ := h
  exact ⟨cs, ty, he.trans hc⟩

/-- the blocks of a tree, as 'parts' goes -/
def adrs : T → List Nat
  | .nil => []
  | .node p _ _ l r => p :: (adrs l ++ adrs r)

theorem okT.blks {B : Nat} {w : World} : ∀ {t : T}, okT B w t → ∀ p ∈ adrs t, blk w p
  | .node p _ _ l r, ⟨h0, h1, h2, h3, h4, h5, h6, h7, h8, h9⟩, q, hq => by
    simp only [adrs, List.mem_cons, List.mem_append] at hq
    rcases hq with rfl | hq | hq
    · exact h9
    · exact okT.blks h7 q hq
    · exact okT.blks h8 q hq

theorem okT.same {B : Nat} {w w' : World} : ∀ {t : T}, okT B w t → (∀ p ∈ adrs t, w'.heap[p]? = w.heap[p]?) → okT B w' t
  | .nil, _, _ => trivial
  | .node p _ _ l r, ⟨h0, h1, h2, h3, h4, h5, h6, h7, h8, h9⟩, hs => by
    have hp := hs p (by simp [adrs])
    have hc : ∀ k, w'.cell? ⟨p, k, none⟩ = w.cell? ⟨p, k, none⟩ := fun k => by simp [World.cell?, hp]
    exact ⟨h0, (hc 0).trans h1, (hc 1).trans h2, (hc 2).trans h3, (hc 3).trans h4, (hc 4).trans h5, (hc 5).trans h6, okT.same h7 (fun q hq => hs q (by simp [adrs, hq])), okT.same h8 (fun q hq => hs q (by simp [adrs, hq])), h9.same hp⟩

/-- a store into a map leaves the trees -/
theorem okT.map {B b : Nat} {w w' : World} {l : List Nat} {t : T} (h : okT B w t) (hm : PM w b l) (hg : w.grownBy w' (some b)) : okT B w' t :=
  h.same fun p hp => hg.block p (h.blks p hp).lt (fun e => hm.not_blk (h.blks p hp) (by cases e; rfl))

end Go.Proofs.Ytegkjnibkilbpaa
