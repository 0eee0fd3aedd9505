import Derived.Test.YtegkjnibkilbpaaT4
namespace Go.Proofs.Ytegkjnibkilbpaa
open Go.RowKit

theorem str_lss (t : TypeId) (a b : List UInt8) : binOp .lss t (.string ⟨a.toArray⟩) (.string ⟨b.toArray⟩) = pure (.bool (Op.bytesLess a b)) := by
  have e : ∀ l : List UInt8, (ByteArray.mk l.toArray).toList = l := fun l => by rw [ByteArray.toList_eq]
  rw [binOp_string_lss, e, e]
theorem str_gtr (t : TypeId) (a b : List UInt8) : binOp .gtr t (.string ⟨a.toArray⟩) (.string ⟨b.toArray⟩) = pure (.bool !(Op.bytesLess a b || a == b)) := by
  have e : ∀ l : List UInt8, (ByteArray.mk l.toArray).toList = l := fun l => by rw [ByteArray.toList_eq]
  simp [binOp, Op.stringOp, e]
attribute [go_sem high] str_lss str_gtr

def putT (H : Nat) (x : List UInt8) (n : Int) : T → T × Nat
  | .nil => (.node H x n .nil .nil, H + 1)
  | .node _ y m l r =>
    if Op.bytesLess x y then
      evenT ((putT H x n l).2 + 1) (.node (putT H x n l).2 y m (putT H x n l).1 r)
    else if x == y then (.node H x n l r, H + 1)
    else evenT ((putT H x n r).2 + 1) (.node (putT H x n r).2 y m l (putT H x n r).1)

theorem turnR_cnt (H : Nat) (t : T) : (turnR H t).cnt = t.cnt := by
  unfold turnR; split
  · simp only [T.cnt]; omega
  · rfl
theorem turnL_cnt (H : Nat) (t : T) : (turnL H t).cnt = t.cnt := by
  unfold turnL; split
  · simp only [T.cnt]; omega
  · rfl
theorem evenT_node (H p : Nat) (x : List UInt8) (n : Int) (l r : T) : evenT H (.node p x n l r) =
    if l.dep = r.dep + 2 then
      if l.lf.dep < l.rg.dep then (turnR (H + 3) (.node (H + 2) x n (turnL H l) r), H + 5) else (turnR H (.node p x n l r), H + 2)
    else if r.dep = l.dep + 2 then
      if r.rg.dep < r.lf.dep then (turnL (H + 3) (.node (H + 2) x n l (turnR H r)), H + 5) else (turnL H (.node p x n l r), H + 2)
    else (.node p x n l r, H) := rfl
theorem evenT_cnt (H : Nat) (t : T) : (evenT H t).1.cnt = t.cnt := by
  cases t with
  | nil => rfl
  | node p x n l r =>
    rw [evenT_node]
    split
    · split
      · simp only [turnR_cnt, T.cnt, turnL_cnt]
      · simp only [turnR_cnt]
    · split
      · split
        · simp only [turnL_cnt, T.cnt, turnR_cnt]
        · simp only [turnL_cnt]
      · rfl
theorem putT_cnt (H : Nat) (x : List UInt8) (n : Int) : ∀ t : T, (putT H x n t).1.cnt ≤ t.cnt + 1
  | .nil => by simp [putT, T.cnt]
  | .node p y m l r => by
    have := putT_cnt H x n l
    have := putT_cnt H x n r
    unfold putT
    split
    · rw [evenT_cnt]; simp only [T.cnt]; omega
    · split
      · simp only [T.cnt]; omega
      · rw [evenT_cnt]; simp only [T.cnt]; omega

set_option maxRecDepth 100000 in
set_option maxHeartbeats 1000000 in
theorem put_any (x : List UInt8) (n : Int) : ∀ (t : T) (w : World) (_ : okT w.heap.size w t) (_ : t.cnt < 1099511627776),
    Calls Try.prog 19 #[ptr t, .string ⟨x.toArray⟩, .int .i64 n] w (TPost (putT w.heap.size x n t).1 (putT w.heap.size x n t).2 w) := by
  intro t
  induction t with
  | nil =>
    intro w ht hc
    show Calls Try.prog 19 #[.pointer none, .string ⟨x.toArray⟩, .int .i64 n] w (TPost (.node w.heap.size x n .nil .nil) (w.heap.size + 1) w)
    go_enter Try.func19, Try.ntmps19
    go_wp2_with fail
    refine (join_any w x n .nil .nil trivial trivial (by simp [T.cnt])).mono ?_
    rintro e w1 ⟨rfl, h1, hB, hs⟩
    go_wp2
    go_ret
    exact ⟨rfl, h1, hB, hs⟩
  | node p y m l r ihl ihr =>
    intro w ht hc
    have hx := ht
    obtain ⟨h0, h1, _, h3, h4, _, _, hl, hr, _⟩ := ht
    have hcn : l.cnt + r.cnt + 1 < 1099511627776 := hc
    clear hc
    have hC0 : Below w.heap.size w w.drew := (Below.refl _ _).drew
    have hcell : ∀ w', Below w.heap.size w w' → w'.cell? ⟨p, 2, none⟩ = some (ptr l) ∧ w'.cell? ⟨p, 3, none⟩ = some (ptr r) := fun w' hw' =>
      ⟨(hw'.cell (p := ⟨p, 2, none⟩) h0).trans h3, (hw'.cell (p := ⟨p, 3, none⟩) h0).trans h4⟩
    clear h3 h4
    have IHL := Lib.hid ihl
    have IHR := Lib.hid ihr
    clear ihl ihr
    show Calls Try.prog 19 #[.pointer (some ⟨p, 0, none⟩), .string ⟨x.toArray⟩, .int .i64 n] w _
    cases hlt : Op.bytesLess x y with
    | true =>
      have hev : putT w.heap.size x n (.node p y m l r) = evenT ((putT w.heap.size x n l).2 + 1) (.node (putT w.heap.size x n l).2 y m (putT w.heap.size x n l).1 r) := if_pos hlt
      go_enter Try.func19, Try.ntmps19
      go_wp2_with fail
      refine wp_region_chain [7, 12, 13] (Below w.heap.size w) (by kernel_rfl) (by kernel_rfl) hC0 ?_
      iterate 2 (refine wpC_step rfl rfl rfl rfl hC0 ?_; apply Exists.intro; refine ⟨fun w' hw' K hK => ?_, ?_⟩; (obtain ⟨f0, f1⟩ := hcell w' hw'; go_step; exact hK))
      (refine wpC_nil_check rfl rfl _ rfl ⟨p, 0, none⟩ rfl fun a' ha => ?_; subst ha; simp only [Act.put, List.setIfInBounds_toArray, List.set_cons_succ, List.set_cons_zero])
      iterate 4 (refine wpC_step rfl rfl rfl rfl hC0 ?_; apply Exists.intro; refine ⟨fun w' hw' K hK => ?_, ?_⟩; (obtain ⟨f0, f1⟩ := hcell w' hw'; go_step; exact hK))
      refine wpC_eff rfl rfl fun K hK => ?_
      go_step
      refine (IHL.out w.drew (okT.below hC0 hl) (by omega)).mono ?_
      rintro e w1 ⟨rfl, h1', hB1, hs1⟩
      have hC1 : Below w.heap.size w w1 := hC0.trans hB1
      refine hK _ _ ⟨_, rfl⟩ hC1 ?_
      clear hK K
      iterate 1 (refine wpC_step rfl rfl rfl rfl hC1 ?_; apply Exists.intro; refine ⟨fun w' hw' K hK => ?_, ?_⟩; (obtain ⟨f0, f1⟩ := hcell w' hw'; go_step; exact hK))
      (refine wpC_nil_check rfl rfl _ rfl ⟨p, 0, none⟩ rfl fun a' ha => ?_; subst ha; simp only [Act.put, List.setIfInBounds_toArray, List.set_cons_succ, List.set_cons_zero])
      iterate 2 (refine wpC_step rfl rfl rfl rfl hC1 ?_; apply Exists.intro; refine ⟨fun w' hw' K hK => ?_, ?_⟩; (obtain ⟨f0, f1⟩ := hcell w' hw'; go_step; exact hK))
      refine wpC_eff rfl rfl fun K hK => ?_
      go_step
      have hcp := putT_cnt w.drew.heap.size x n l
      refine (with_any w1 (.node p y m l r) _ r (fun h => by cases h) (okT.mono hC1.size (okT.below hC1 hx)) h1' (okT.mono hC1.size (okT.below hC1 hr)) (by omega)).mono ?_
      rintro e w2 ⟨rfl, h2', hB2, hs2⟩
      have hC2 : Below w.heap.size w w2 := hC1.trans (hB2.mono hC1.size)
      refine hK _ _ ⟨_, rfl⟩ hC2 ?_
      clear hK K
      have e1 : withT w1.heap.size (.node p y m l r) (putT w.drew.heap.size x n l).1 r = .node (putT w.heap.size x n l).2 y m (putT w.heap.size x n l).1 r := by rw [hs1]; rfl
      rw [e1] at h2' ⊢
      refine wpC_eff rfl rfl fun K hK => ?_
      go_step
      refine (even_any w2 _ (fun h => by cases h) h2' (by show (putT w.heap.size x n l).1.cnt + r.cnt + 1 ≤ _; have hcp : (putT w.heap.size x n l).1.cnt ≤ l.cnt + 1 := hcp; omega)).mono ?_
      rintro e w3 ⟨rfl, h3', hB3, hs3⟩
      have hC3 : Below w.heap.size w w3 := hC2.trans (hB3.mono hC2.size)
      refine hK _ _ ⟨_, rfl⟩ hC3 ?_
      clear hK K
      have hs2' : w2.heap.size = (putT w.heap.size x n l).2 + 1 := by rw [hs2, hs1]; rfl
      rw [hs2', ← hev] at h3' hs3 ⊢
      iterate 1 (refine wpC_step rfl rfl rfl rfl hC3 ?_; apply Exists.intro; refine ⟨fun w' hw' K hK => ?_, ?_⟩; (obtain ⟨f0, f1⟩ := hcell w' hw'; go_step; exact hK))
      refine wpC_nil ?_
      go_wp2
      go_ret
      exact ⟨rfl, h3', hC3, hs3⟩
    | false =>
      cases heq : x == y with
      | true =>
        have hev : putT w.heap.size x n (.node p y m l r) = (.node w.heap.size x n l r, w.heap.size + 1) := (if_neg (by rw [hlt]; simp)).trans (if_pos heq)
        go_enter Try.func19, Try.ntmps19
        go_wp2_with fail
        refine wp_region_chain [10] (Below w.heap.size w) (by kernel_rfl) (by kernel_rfl) hC0 ?_
        iterate 3 (refine wpC_step rfl rfl rfl rfl hC0 ?_; apply Exists.intro; refine ⟨fun w' hw' K hK => ?_, ?_⟩; (obtain ⟨f0, f1⟩ := hcell w' hw'; go_step; exact hK))
        (refine wpC_nil_check rfl rfl _ rfl ⟨p, 0, none⟩ rfl fun a' ha => ?_; subst ha; simp only [Act.put, List.setIfInBounds_toArray, List.set_cons_succ, List.set_cons_zero])
        iterate 3 (refine wpC_step rfl rfl rfl rfl hC0 ?_; apply Exists.intro; refine ⟨fun w' hw' K hK => ?_, ?_⟩; (obtain ⟨f0, f1⟩ := hcell w' hw'; go_step; exact hK))
        (refine wpC_nil_check rfl rfl _ rfl ⟨p, 0, none⟩ rfl fun a' ha => ?_; subst ha; simp only [Act.put, List.setIfInBounds_toArray, List.set_cons_succ, List.set_cons_zero])
        iterate 2 (refine wpC_step rfl rfl rfl rfl hC0 ?_; apply Exists.intro; refine ⟨fun w' hw' K hK => ?_, ?_⟩; (obtain ⟨f0, f1⟩ := hcell w' hw'; go_step; exact hK))
        refine wpC_eff rfl rfl fun K hK => ?_
        go_step
        refine (join_any w.drew x n l r (okT.below hC0 hl) (okT.below hC0 hr) (by omega)).mono ?_
        rintro e w1 ⟨rfl, h1', hB1, hs1⟩
        have hC1 : Below w.heap.size w w1 := hC0.trans hB1
        refine hK _ _ ⟨_, rfl⟩ hC1 ?_
        clear hK K
        iterate 1 (refine wpC_step rfl rfl rfl rfl hC1 ?_; apply Exists.intro; refine ⟨fun w' hw' K hK => ?_, ?_⟩; (obtain ⟨f0, f1⟩ := hcell w' hw'; go_step; exact hK))
        refine wpC_nil ?_
        go_wp2
        go_ret
        rw [hev]
        exact ⟨rfl, h1', hC1, hs1⟩
      | false =>
        have hev : putT w.heap.size x n (.node p y m l r) = evenT ((putT w.heap.size x n r).2 + 1) (.node (putT w.heap.size x n r).2 y m l (putT w.heap.size x n r).1) := (if_neg (by rw [hlt]; simp)).trans (if_neg (by rw [heq]; simp))
        go_enter Try.func19, Try.ntmps19
        go_wp2_with fail
        refine wp_region_chain [11, 12, 13] (Below w.heap.size w) (by kernel_rfl) (by kernel_rfl) hC0 ?_
        iterate 2 (refine wpC_step rfl rfl rfl rfl hC0 ?_; apply Exists.intro; refine ⟨fun w' hw' K hK => ?_, ?_⟩; (obtain ⟨f0, f1⟩ := hcell w' hw'; go_step; exact hK))
        (refine wpC_nil_check rfl rfl _ rfl ⟨p, 0, none⟩ rfl fun a' ha => ?_; subst ha; simp only [Act.put, List.setIfInBounds_toArray, List.set_cons_succ, List.set_cons_zero])
        iterate 3 (refine wpC_step rfl rfl rfl rfl hC0 ?_; apply Exists.intro; refine ⟨fun w' hw' K hK => ?_, ?_⟩; (obtain ⟨f0, f1⟩ := hcell w' hw'; go_step; exact hK))
        (refine wpC_nil_check rfl rfl _ rfl ⟨p, 0, none⟩ rfl fun a' ha => ?_; subst ha; simp only [Act.put, List.setIfInBounds_toArray, List.set_cons_succ, List.set_cons_zero])
        iterate 4 (refine wpC_step rfl rfl rfl rfl hC0 ?_; apply Exists.intro; refine ⟨fun w' hw' K hK => ?_, ?_⟩; (obtain ⟨f0, f1⟩ := hcell w' hw'; go_step; exact hK))
        refine wpC_eff rfl rfl fun K hK => ?_
        go_step
        refine (IHR.out w.drew (okT.below hC0 hr) (by omega)).mono ?_
        rintro e w1 ⟨rfl, h1', hB1, hs1⟩
        have hC1 : Below w.heap.size w w1 := hC0.trans hB1
        refine hK _ _ ⟨_, rfl⟩ hC1 ?_
        clear hK K
        refine wpC_eff rfl rfl fun K hK => ?_
        go_step
        have hcp := putT_cnt w.drew.heap.size x n r
        refine (with_any w1 (.node p y m l r) l _ (fun h => by cases h) (okT.mono hC1.size (okT.below hC1 hx)) (okT.mono hC1.size (okT.below hC1 hl)) h1' (by omega)).mono ?_
        rintro e w2 ⟨rfl, h2', hB2, hs2⟩
        have hC2 : Below w.heap.size w w2 := hC1.trans (hB2.mono hC1.size)
        refine hK _ _ ⟨_, rfl⟩ hC2 ?_
        clear hK K
        have e1 : withT w1.heap.size (.node p y m l r) l (putT w.drew.heap.size x n r).1 = .node (putT w.heap.size x n r).2 y m l (putT w.heap.size x n r).1 := by rw [hs1]; rfl
        rw [e1] at h2' ⊢
        refine wpC_eff rfl rfl fun K hK => ?_
        go_step
        refine (even_any w2 _ (fun h => by cases h) h2' (by show l.cnt + (putT w.heap.size x n r).1.cnt + 1 ≤ _; have hcp : (putT w.heap.size x n r).1.cnt ≤ r.cnt + 1 := hcp; omega)).mono ?_
        rintro e w3 ⟨rfl, h3', hB3, hs3⟩
        have hC3 : Below w.heap.size w w3 := hC2.trans (hB3.mono hC2.size)
        refine hK _ _ ⟨_, rfl⟩ hC3 ?_
        clear hK K
        have hs2' : w2.heap.size = (putT w.heap.size x n r).2 + 1 := by rw [hs2, hs1]; rfl
        rw [hs2', ← hev] at h3' hs3 ⊢
        iterate 1 (refine wpC_step rfl rfl rfl rfl hC3 ?_; apply Exists.intro; refine ⟨fun w' hw' K hK => ?_, ?_⟩; (obtain ⟨f0, f1⟩ := hcell w' hw'; go_step; exact hK))
        refine wpC_nil ?_
        go_wp2
        go_ret
        exact ⟨rfl, h3', hC3, hs3⟩
end Go.Proofs.Ytegkjnibkilbpaa
