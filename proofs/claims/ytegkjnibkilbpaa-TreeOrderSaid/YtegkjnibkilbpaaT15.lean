import Derived.Test.YtegkjnibkilbpaaT14
namespace Go.Proofs.Ytegkjnibkilbpaa
open Go.RowKit Go.ChangeMaps Go.MapKept

section
variable {w : World} {ops : Array Oper} {rest : List Oper} {o : Oper} {a : Act} {Q : Exit → Act → World → Prop}

theorem wpList_lookup_ptr (hg : o.guard = none) (m x : Operand) (hop : o.op = Op.lookup 47 m x false) {b p : Nat} {l : List Nat} (hm : a.eval m = .map (some b)) (h : PM w b l) (hb : ∀ q ∈ l, blk w q) (hx : a.eval x = pv p) (hp : blk w p)
    (hK : wpList Try.prog ops Q rest (a.put o.dst (.int .i64 (if p ∈ l then 1 else 0))) w) : wpList Try.prog ops Q (o :: rest) a w := by
  refine wpList_plain hg fun K' hK' => ?_
  have hrun := run_lookup_ptr h hb hp
  unfold Oper.wp
  simp only [execOp, hop, Sem.run_bind, hm, hx, hrun, Result.andThen_ok]
  exact hK' _ _ hK

theorem wpList_update_ptr (hg : o.guard = none) (m x v : Operand) (hop : o.op = Op.mapUpdate 47 m x v) {b p : Nat} {l : List Nat} (hm : a.eval m = .map (some b)) (h : PM w b l) (hb : ∀ q ∈ l, blk w q) (hx : a.eval x = pv p) (hp : blk w p) (hn : p ∉ l) (hv : a.eval v = .int .i64 1)
    (hK : ∀ w', PM w' b (l ++ [p]) → w.grownBy w' (some b) → w'.heap.size = w.heap.size → wpList Try.prog ops Q rest (a.put o.dst undef) w') : wpList Try.prog ops Q (o :: rest) a w := by
  refine wpList_plain hg fun K' hK' => ?_
  obtain ⟨w', hrun, r1, r2, r3⟩ := run_update_ptr h hb hp hn
  unfold Oper.wp
  simp only [execOp, hop, Sem.run_bind, hm, hx, hv, hrun, Result.andThen_ok]
  exact hK' _ _ (hK w' r1 r2 r3)
end

/-- what 'parts' leaves -/
def PartsPost (b : Nat) (l : List Nat) (w : World) (e : Ending) (w' : World) : Prop :=
  e = .returned (.tuple #[]) ∧ PM w' b l ∧ w.grownBy w' (some b) ∧ w'.heap.size = w.heap.size

theorem grownBy_trans {a b c : World} {row : Option Nat} (h : a.grownBy b row) (k : b.grownBy c row) : a.grownBy c row := h.andThen k fun _ hj => Or.inr hj

set_option maxRecDepth 100000 in
set_option maxHeartbeats 1000000 in
theorem parts_any (B b : Nat) : ∀ (t : T) (w : World) (l : List Nat), okT B w t → PM w b l → (∀ q ∈ l, blk w q) → (adrs t).Nodup → (∀ p ∈ adrs t, p ∉ l) →
    Calls Try.prog 22 #[ptr t, .map (some b)] w (PartsPost b (l ++ adrs t) w) := by
  intro t
  induction t with
  | nil =>
    intro w l ht hm hb hn hd
    rw [ptr, adr]
    go_enter Try.func22, Try.ntmps22
    go_wp2
    refine bodyPost_ret (results_none rfl _ _ _) rfl ?_
    exact ⟨rfl, by simpa [adrs] using hm, World.grownBy.refl _ _, rfl⟩
  | node p x n tl tr ihl ihr =>
    intro w l ht hm hb hn hd
    have hbl := ht.blks
    obtain ⟨h0, h1, _, h3, h4, _, _, hl, hr, h9⟩ := ht
    have hpl : p ∉ l := hd p (by simp [adrs])
    simp only [adrs, List.nodup_cons, List.mem_append, not_or, List.nodup_append] at hn
    obtain ⟨⟨hp1, hp2⟩, hn1, hn2, hn3⟩ := hn
    have hnode : ∀ w', w.grownBy w' (some b) → w'.cell? ⟨p, 2, none⟩ = some (ptr tl) ∧ w'.cell? ⟨p, 3, none⟩ = some (ptr tr) := fun w' hg => by
      have hp := hg.block p h9.lt (fun e => hm.not_blk h9 (by cases e; rfl))
      have hc : ∀ k, w'.cell? ⟨p, k, none⟩ = w.cell? ⟨p, k, none⟩ := fun k => by simp [World.cell?, hp]
      exact ⟨(hc 2).trans h3, (hc 3).trans h4⟩
    have HN := Lib.hid hnode
    have HP := Lib.hid hpl
    have HD := Lib.hid hd
    have H1 := Lib.hid hp1
    have H2 := Lib.hid hp2
    have H3 := Lib.hid hn3
    have HB := Lib.hid hbl
    have HBL := Lib.hid hb
    clear hpl hd hp1 hp2 hn3 hbl hb hnode
    rw [ptr, adr]
    go_enter Try.func22, Try.ntmps22
    go_wp2_with (first
      | (at_lookup; refine wpList_lookup_ptr rfl _ _ rfl rfl hm HBL.out rfl h9 ?_; rw [if_neg HP.out])
      | (at_mapUpdate; refine wpList_update_ptr rfl _ _ _ rfl rfl hm HBL.out rfl h9 HP.out rfl ?_; intro w1 hm1 hg1 hs1; have hc1 := (HN.out w1 hg1).1))
    have bl1 : ∀ q ∈ l ++ [p], blk w1 q := fun q hq => by
      have hq' : blk w q := by
        rcases List.mem_append.1 hq with hq | hq
        · exact HBL.out q hq
        · simp only [List.mem_singleton] at hq; rw [hq]; exact h9
      exact hq'.same (hg1.block q hq'.lt (fun e => hm.not_blk hq' (by cases e; rfl)))
    have BL1 := Lib.hid bl1
    clear bl1
    refine (ihl w1 (l ++ [p]) (hl.map hm hg1) hm1 BL1.out hn1 ?_).mono ?_
    · intro q hq hq2
      rcases List.mem_append.1 hq2 with hq2 | hq2
      · exact HD.out q (by simp [adrs, hq]) hq2
      · simp only [List.mem_singleton] at hq2; rw [hq2] at hq; exact H1.out hq
    rintro e w2 ⟨rfl, hm2, hg2, hs2⟩
    have HS1 := Lib.hid hs1
    have HS2 := Lib.hid hs2
    clear hs1 hs2 hc1
    have hg02 := grownBy_trans hg1 hg2
    have hc2 := (HN.out w2 hg02).2
    go_wp2_with fail
    have bl2 : ∀ q ∈ l ++ [p] ++ adrs tl, blk w2 q := fun q hq => by
      have hq' : blk w q := by
        rcases List.mem_append.1 hq with hq | hq
        · rcases List.mem_append.1 hq with hq | hq
          · exact HBL.out q hq
          · simp only [List.mem_singleton] at hq; rw [hq]; exact h9
        · exact HB.out q (by simp [adrs, hq])
      exact hq'.same (hg02.block q hq'.lt (fun e => hm.not_blk hq' (by cases e; rfl)))
    have BL2 := Lib.hid bl2
    clear bl2
    refine (ihr w2 (l ++ [p] ++ adrs tl) (hr.map hm hg02) hm2 BL2.out hn2 ?_).mono ?_
    · intro q hq hq2
      rcases List.mem_append.1 hq2 with hq2 | hq2
      · rcases List.mem_append.1 hq2 with hq2 | hq2
        · exact HD.out q (by simp [adrs, hq]) hq2
        · simp only [List.mem_singleton] at hq2; rw [hq2] at hq; exact H2.out hq
      · exact H3.out q hq2 q hq rfl
    rintro e w3 ⟨rfl, hm3, hg3, hs3⟩
    have HS3 := Lib.hid hs3
    clear hs3 hc2
    go_wp2
    refine bodyPost_ret (results_none rfl _ _ _) rfl ?_
    exact ⟨rfl, by simpa [adrs, List.append_assoc] using hm3, grownBy_trans hg02 hg3, HS3.out.trans (HS2.out.trans HS1.out)⟩
end Go.Proofs.Ytegkjnibkilbpaa
