import Derived.Test.YtegkjnibkilbpaaT15
namespace Go.Proofs.Ytegkjnibkilbpaa
open Go.RowKit Go.ChangeMaps Go.MapKept

/-- 1 at a pointer to one of these blocks -/
def fk (lo : List Nat) : Value → Nat
  | .pointer (some a) => if a.block ∈ lo then 1 else 0
  | _ => 0

/-- what is still to come -/
def lsum (lo : List Nat) (es : Array MapEntry) (seen : Array Nat) : Nat := ((leftOf es seen).toList.map fun e => fk lo e.key).sum

theorem lsum_zero {lo : List Nat} {es : Array MapEntry} {seen : Array Nat} (h : (leftOf es seen).size = 0) : lsum lo es seen = 0 := by
  have : leftOf es seen = #[] := Array.eq_empty_of_size_eq_zero h
  simp [lsum, this]

theorem sum_strike (f : MapEntry → Nat) (e : MapEntry) : ∀ L : List MapEntry, (L.map (·.born)).Nodup → e ∈ L → ((L.filter fun x => !(x.born == e.born)).map f).sum + f e = (L.map f).sum
  | [], _, h => by cases h
  | x :: L, hn, h => by
    simp only [List.map_cons, List.nodup_cons] at hn
    by_cases hx : x.born = e.born
    · have he : x = e := by
        rcases List.mem_cons.1 h with h | h
        · exact h.symm
        · exact absurd (List.mem_map.2 ⟨e, h, hx.symm⟩) hn.1
      subst he
      have : L.filter (fun y => !(y.born == x.born)) = L := List.filter_eq_self.2 fun y hy => by
        have : y.born ≠ x.born := fun hc => hn.1 (List.mem_map.2 ⟨y, hy, hc⟩)
        simp [this]
      simp [this]; omega
    · have h' : e ∈ L := by
        rcases List.mem_cons.1 h with h | h
        · exact absurd (congrArg (·.born) h).symm hx
        · exact h
      have ih := sum_strike f e L hn.2 h'
      simp [hx] at ih ⊢
      omega

theorem lsum_push {lo : List Nat} {es : Array MapEntry} {seen : Array Nat} {e : MapEntry} (hn : (es.toList.map (·.born)).Nodup) (he : e ∈ (leftOf es seen).toList) :
    lsum lo es (seen.push e.born) + fk lo e.key = lsum lo es seen := by
  have h1 : (leftOf es (seen.push e.born)).toList = (leftOf es seen).toList.filter fun x => !(x.born == e.born) := by
    unfold leftOf
    rw [Array.toList_filter, Array.toList_filter, List.filter_filter]
    apply List.filter_congr
    intro x _
    rw [contains_push]
    cases seen.contains x.born <;> cases (x.born == e.born) <;> rfl
  unfold lsum
  rw [h1]
  refine sum_strike (fun e => fk lo e.key) e _ ?_ he
  unfold leftOf
  rw [Array.toList_filter]
  exact hn.sublist ((List.filter_sublist).map _)

/-- a loop over a map under way; S: what is still to come -/
def Rng (lo : List Nat) (b r : Nat) (es : Array MapEntry) (clock : Nat) (S : Nat) (w : World) : Prop :=
  ∃ since seen c0, w.heap[b]? = some (.map es clock) ∧ w.heap[r]? = some (.mapIter (some b) since seen c0) ∧ (∀ x ∈ es.toList, x.born < since) ∧ since ≤ c0 ∧ since ≤ clock ∧ lsum lo es seen = S

theorem run_next_ptr {P : Program} {w : World} {lo : List Nat} {b r : Nat} {es : Array MapEntry} {clock S : Nat} (h : Rng lo b r es clock S w) (hs : Stamped es clock) (ty : TypeId) :
    (S = 0 ∧ (Instr.next (.pointer (some ⟨r, 0, none⟩)) false ty).run P w = .ok (.tuple #[.bool false]) w) ∨
    ∃ e ∈ es.toList, ∃ w' S', (Instr.next (.pointer (some ⟨r, 0, none⟩)) false ty).run P w = .ok (.tuple #[.bool true, e.key, e.val]) w' ∧ Rng lo b r es clock S' w' ∧ S' + fk lo e.key = S ∧ w'.rangeLeft b r < w.rangeLeft b r ∧
      w.grownBy w' (some r) ∧ w'.heap.size = w.heap.size ∧ (Instr.entry (.pointer (some ⟨r, 0, none⟩))).run P w' = .ok (.tuple #[e.key, e.val]) w' := by
  obtain ⟨since, seen, c0, hb, hr, hold, hsc, hsk, rfl⟩ := h
  have hne : b ≠ r := by rintro rfl; rw [hb] at hr; cases hr
  rcases run_next_at (P := P) w ty r b since c0 seen es clock hr hb hold hsc with ⟨h0, hrun⟩ | ⟨e, he, w1, hal, hrun⟩
  · exact Or.inl ⟨lsum_zero h0, hrun⟩
  · obtain ⟨hem, hes⟩ := mem_left he
    have hr1 : w1.heap[r]? = some (.mapIter (some b) since seen c0) := by rcases hal with rfl | rfl <;> exact hr
    have hb1 : w1.heap[b]? = some (.map es clock) := by rcases hal with rfl | rfl <;> exact hb
    have hset := heap_set (o' := .mapIter (some b) since (seen.push e.born) clock) hr1
    have hb' : (setBlock w1 r (.mapIter (some b) since (seen.push e.born) clock)).heap[b]? = some (.map es clock) := (hset.2 b hne).trans hb1
    refine Or.inr ⟨e, hem, _, _, hrun, ⟨since, seen.push e.born, clock, hb', hset.1, hold, hsk, hsk, rfl⟩, lsum_push hs.2.1 he, ?_, ?_, ?_, run_entry_at _ r b since seen es clock e hset.1 hb' hem hs.2.1⟩
    · have e1 : (setBlock w1 r (.mapIter (some b) since (seen.push e.born) clock)).rangeLeft b r = (leftOf es (seen.push e.born)).size := by
        simp only [World.rangeLeft, hb', show (setBlock w1 r (.mapIter (some b) since (seen.push e.born) clock)).heap[r]? = _ from hset.1]
      have e2 : w.rangeLeft b r = (leftOf es seen).size := by simp only [World.rangeLeft, hb, hr]
      rw [e1, e2]
      exact left_shrinks es seen e he
    · rcases hal with rfl | rfl <;> exact ⟨rfl, rfl, rfl, by simp [setBlock], fun i _ hi => hset.2 i (fun e1 => hi (by rw [e1]))⟩
    · rcases hal with rfl | rfl <;> simp [setBlock]

section
variable {w : World} {ops : Array Oper} {rest : List Oper} {o : Oper} {a : Act} {Q : Exit → Act → World → Prop}

theorem wpList_next_ptr (hg : o.guard = none) (it : Operand) (hop : o.op = Op.next it false) {lo : List Nat} {b r : Nat} {es : Array MapEntry} {clock S : Nat} (hit : a.eval it = .pointer (some ⟨r, 0, none⟩)) (h : Rng lo b r es clock S w) (hs : Stamped es clock)
    {l : List Nat} (hk : es.toList.map (·.key) = l.map pv) (hv : ∀ e ∈ es.toList, e.val = .int .i64 1)
    (hDone : S = 0 → wpList Try.prog ops Q rest (a.put o.dst (.tuple #[.bool false])) w)
    (hMore : ∀ p w' S', p ∈ l → Rng lo b r es clock S' w' → S' + (if p ∈ lo then 1 else 0) = S → w'.rangeLeft b r < w.rangeLeft b r → w.grownBy w' (some r) → w'.heap.size = w.heap.size →
      (Instr.entry (.pointer (some ⟨r, 0, none⟩))).run Try.prog w' = .ok (.tuple #[pv p, .int .i64 1]) w' → wpList Try.prog ops Q rest (a.put o.dst (.tuple #[.bool true, pv p, .int .i64 1])) w') :
    wpList Try.prog ops Q (o :: rest) a w := by
  refine wpList_plain hg fun K' hK' => ?_
  unfold Oper.wp
  rcases run_next_ptr (P := Try.prog) h hs o.type with ⟨h0, hrun⟩ | ⟨e, he, w', S', hrun, h1, h2, h3, h4, h5, h6⟩
  · simp only [execOp, hop, Sem.run_bind, hit, hrun, Result.andThen_ok]
    exact hK' _ _ (hDone h0)
  · have hmem : e.key ∈ l.map pv := by rw [← hk]; exact List.mem_map.2 ⟨e, he, rfl⟩
    obtain ⟨p, hp, hpe⟩ := List.mem_map.1 hmem
    rw [← hpe, hv e he] at hrun h6
    rw [← hpe] at h2
    simp only [execOp, hop, Sem.run_bind, hit, hrun, Result.andThen_ok]
    exact hK' _ _ (hMore p w' S' hp h1 h2 h3 h4 h5 h6)
end

/-- how many blocks of the one are the other's, too -/
def shareN (t o : T) : Nat := (adrs t).countP fun p => decide (p ∈ adrs o)

theorem sum_count (lo : List Nat) : ∀ l : List Nat, (l.map fun p => fk lo (pv p)).sum = l.countP fun p => decide (p ∈ lo)
  | [] => rfl
  | p :: l => by
    have ih := sum_count lo l
    simp only [List.map_cons, List.sum_cons, List.countP_cons, ih]
    by_cases h : p ∈ lo <;> simp [fk, pv, h] <;> omega

theorem adrs_len : ∀ t : T, (adrs t).length = t.cnt
  | .nil => rfl
  | .node _ _ _ l r => by have := adrs_len l; have := adrs_len r; simp [adrs, T.cnt]; omega

theorem PM.made (w : World) : PM (w.alloc (.map #[] 0)) w.heap.size [] := ⟨#[], 0, heap_alloc_new w _, stamped_empty 0, rfl, by simp⟩

def ShRel (lo : List Nat) (b r : Nat) (es : Array MapEntry) (clock total : Nat) (w0 : World) (H : Nat) (v : Value) (wr : World) : Prop :=
  ∃ k S : Nat, v = .int .i64 k ∧ k + S = total ∧ Rng lo b r es clock S wr ∧ PM wr H lo ∧ Below H w0 wr

def SharePost (t o : T) (w : World) (e : Ending) (w' : World) : Prop := e = .returned (.int .i64 (shareN t o : Nat)) ∧ Below w.heap.size w w'

set_option maxRecDepth 100000 in
set_option maxHeartbeats 1000000 in
theorem Shares_any (w : World) (b c : Nat) (t o : T) (ht : okR w.heap.size w b t) (ho : okR w.heap.size w c o) (hnt : (adrs t).Nodup) (hno : (adrs o).Nodup) (hc : t.cnt < 1099511627776) :
    Calls Try.prog 11 #[rad b, rad c] w (SharePost t o w) := by
  obtain ⟨h0, h1, h2⟩ := ht
  obtain ⟨k0, k1, k2⟩ := ho
  have hmm := @run_makeMap Try.prog
  unfold rad
  go_enter Try.func11, Try.ntmps11
  go_wp2_with fail
  have bo : ∀ q ∈ adrs o, blk w q := k2.blks
  have bt : ∀ q ∈ adrs t, blk w q := h2.blks
  have BO := Lib.hid bo
  have BT := Lib.hid bt
  clear bo bt
  have hg0 : w.grownBy (w.alloc (.map #[] 0)) none := World.grownBy_alloc w _ none
  have k3 := okT.same k2 (w' := w.alloc (.map #[] 0)) fun q hq => hg0.block q (BO.out q hq).lt (by simp)
  refine (parts_any w.heap.size w.heap.size o (w.alloc (.map #[] 0)) [] k3 (PM.made w) (by simp) hno (by simp)).mono ?_
  rintro e w2 ⟨rfl, hm2, hg2, hs2⟩
  rw [List.nil_append] at hm2
  have hB2 : Below w.heap.size w w2 := ((Below.refl _ w).alloc (Nat.le_refl _) _).grown hg2 (by simp) (fun k e => by cases e; exact Nat.le_refl _)
  have hB3 : Below w.heap.size w (w2.alloc (.map #[] 0)) := hB2.alloc hB2.size _
  have h3 := (hB3.cell (p := ⟨b, 0, none⟩) h0).trans h1
  have HS2 := Lib.hid hs2
  clear hs2 k3 hg0
  go_wp2_with fail
  have hg0 : w2.grownBy (w2.alloc (.map #[] 0)) none := World.grownBy_alloc w2 _ none
  have h4 : okT w.heap.size (w2.alloc (.map #[] 0)) t := okT.below hB3 h2
  refine (parts_any w.heap.size w2.heap.size t (w2.alloc (.map #[] 0)) [] h4 (PM.made w2) (by simp) hnt (by simp)).mono ?_
  rintro e w3 ⟨rfl, hm3, hg3, hs3⟩
  rw [List.nil_append] at hm3
  have hB4 : Below w.heap.size w w3 := hB3.grown hg3 hB3.size (fun k e => by cases e; exact hB2.size)
  have HB4 := Lib.hid hB4
  have hn2 : w.heap.size < w2.heap.size := by rw [HS2.out]; simp
  have hm4 : PM w3 w.heap.size (adrs o) := (hm2.kept hg0 (by simp)).kept hg3 (by intro e; have := Option.some.inj e; omega)
  obtain ⟨es, clock, hes, hst, hke, hva⟩ := hm3
  have HS3 := Lib.hid hs3
  have hrange := run_range_map (P := Try.prog) w3 47 42 3 w2.heap.size es clock Try.underlying47 hes
  clear hs3 h4 hB4 hB3 hg0 hg3 hg2 h3 hB2
  go_wp2_with fail
  have hsum : lsum (adrs o) es #[] = shareN t o := by
    have : leftOf es #[] = es := by simp [leftOf]
    unfold lsum
    rw [this, show es.toList.map (fun e => fk (adrs o) e.key) = (es.toList.map (·.key)).map (fk (adrs o)) by rw [List.map_map]; rfl, hke, List.map_map]
    exact sum_count _ _
  have hgr : w3.grownBy (w3.alloc (.mapIter (some w2.heap.size) clock #[] clock)) none := World.grownBy_alloc w3 _ none
  have hrng : Rng (adrs o) w2.heap.size w3.heap.size es clock (shareN t o) (w3.alloc (.mapIter (some w2.heap.size) clock #[] clock)) :=
    ⟨clock, #[], clock, (hgr.block _ (Array.getElem?_eq_some_iff.1 hes).1 (by simp)).trans hes, heap_alloc_new w3 _, hst.1, Nat.le_refl _, Nat.le_refl _, hsum⟩
  have hm5 : PM (w3.alloc (.mapIter (some w2.heap.size) clock #[] clock)) w.heap.size (adrs o) := hm4.kept hgr (by simp)
  have hB5 : Below w.heap.size w (w3.alloc (.mapIter (some w2.heap.size) clock #[] clock)) := HB4.out.alloc HB4.out.size _
  have hsl : shareN t o ≤ t.cnt := by
    have := List.countP_le_length (p := fun p => decide (p ∈ adrs o)) (l := adrs t)
    rw [adrs_len] at this
    exact this
  have h3s : w2.heap.size < w3.heap.size := (Array.getElem?_eq_some_iff.1 hes).1
  clear hes hgr hm4 HB4 hsum hm2 hrange hmm
  generalize w2.heap.size = b2 at *
  generalize w3.heap.size = r at *
  generalize w3.alloc (.mapIter (some b2) clock #[] clock) = w5 at *
  go_loopw [7] (fun v wr => ShRel (adrs o) b2 r es clock (shareN t o) w w.heap.size v wr) (fun _ wr => wr.rangeLeft b2 r)
  case atStart => exact ⟨0, _, rfl, by omega, hrng, hm5, hB5⟩
  case round =>
    obtain ⟨k, S, rfl, hkS, hrg, hpm, hB⟩ := hrel
    clear hrng hm5 hB5
    go_wp2_with (first
      | (at_next; refine wpList_next_ptr rfl _ rfl rfl hrg hst hke hva ?_ ?_)
      | fail)
    · intro hS
      go_wp2
      go_ret
      subst hS
      obtain rfl : k = shareN t o := by omega
      exact ⟨rfl, hB⟩
    · intro p w6 S' hp hrg6 hS6 hlt6 hg6 hs6 hen
      have hpm6 : PM w6 w.heap.size (adrs o) := hpm.kept hg6 (by intro e; have := Option.some.inj e; omega)
      have hB6 : Below w.heap.size w w6 := hB.grown hg6 hB.size (fun k e => by have := Option.some.inj e; omega)
      have bo : ∀ q ∈ adrs o, blk w6 q := fun q hq => (BO.out q hq).same (hB6.block q (BO.out q hq).lt)
      have bt : blk w6 p := (BT.out p hp).same (hB6.block p (BT.out p hp).lt)
      have BO6 := Lib.hid bo
      have HS6 := Lib.hid hS6
      have HLT6 := Lib.hid hlt6
      clear bo hS6 hlt6 hrg hpm hB
      by_cases hpo : p ∈ adrs o
      · have HPO := Lib.hid hpo
        clear hpo
        go_wp2_with (at_lookup; refine wpList_lookup_ptr rfl _ _ rfl rfl hpm6 BO6.out rfl bt ?_; rw [if_pos HPO.out])
        go_roundw
        case rel => exact ⟨k + 1, S', by go_num, by have := HS6.out; rw [if_pos HPO.out] at this; omega, hrg6, hpm6, hB6⟩
        case measure => exact HLT6.out
      · have HPO := Lib.hid hpo
        clear hpo
        go_wp2_with (at_lookup; refine wpList_lookup_ptr rfl _ _ rfl rfl hpm6 BO6.out rfl bt ?_; rw [if_neg HPO.out])
        go_roundw
        case rel => exact ⟨k, S', by go_num, by have := HS6.out; rw [if_neg HPO.out] at this; omega, hrg6, hpm6, hB6⟩
        case measure => exact HLT6.out
end Go.Proofs.Ytegkjnibkilbpaa
