import Derived.Test.YtegkjnibkilbpaaT3
namespace Go.Proofs.Ytegkjnibkilbpaa
open Go.RowKit

def T.lf : T → T
  | .node _ _ _ l _ => l
  | .nil => .nil
def T.rg : T → T
  | .node _ _ _ _ r => r
  | .nil => .nil

def evenT (H : Nat) : T → T × Nat
  | .nil => (.nil, H)
  | .node p x n l r =>
    if l.dep = r.dep + 2 then
      if l.lf.dep < l.rg.dep then (turnR (H + 3) (.node (H + 2) x n (turnL H l) r), H + 5) else (turnR H (.node p x n l r), H + 2)
    else if r.dep = l.dep + 2 then
      if r.rg.dep < r.lf.dep then (turnL (H + 3) (.node (H + 2) x n l (turnR H r)), H + 5) else (turnL H (.node p x n l r), H + 2)
    else (.node p x n l r, H)

theorem dep_node {t : T} (h : 0 < t.dep) : ∃ p x n l r, t = .node p x n l r := by
  cases t with
  | nil => simp [T.dep] at h
  | node p x n l r => exact ⟨_, _, _, _, _, rfl⟩

set_option maxRecDepth 100000 in
set_option maxHeartbeats 1000000 in
theorem even_any (w : World) (t : T) (hne : t ≠ .nil) (ht : okT w.heap.size w t) (hc : t.cnt ≤ 1099511627776) :
    Calls Try.prog 28 #[ptr t] w (TPost (evenT w.heap.size t).1 (evenT w.heap.size t).2 w) := by
  obtain ⟨p, x, n, l, r, rfl⟩ : ∃ p x n l r, t = .node p x n l r := by
    cases t with
    | nil => exact absurd rfl hne
    | node p x n l r => exact ⟨_, _, _, _, _, rfl⟩
  have hx := ht
  obtain ⟨h0, _, _, h3, h4, _, _, hl, hr, _⟩ := ht
  have hdl := l.dep_le
  have hdr := r.dep_le
  have hcn : l.cnt + r.cnt + 1 ≤ 1099511627776 := hc
  clear hc hne
  have hC0 : Below w.heap.size w w.drew := (Below.refl _ _).drew
  by_cases hd2 : l.dep = r.dep + 2
  · have hsub : IntKind.i64.wrap ((l.dep : Int) - (r.dep : Int)) = 2 := by rw [IntWalk.i64_in _ (by omega)]; omega
    obtain ⟨q, y, m, a, b, rfl⟩ := dep_node (t := l) (by omega)
    have hL := hl
    obtain ⟨k0, _, _, k3, k4, _, _, ha, hb, _⟩ := hl
    have hcl : (T.node q y m a b).cnt = a.cnt + b.cnt + 1 := rfl
    have hcell : ∀ w', Below w.heap.size w w' → w'.cell? ⟨p, 2, none⟩ = some (.pointer (some ⟨q, 0, none⟩)) ∧ w'.cell? ⟨p, 3, none⟩ = some (ptr r) ∧ w'.cell? ⟨q, 2, none⟩ = some (ptr a) ∧ w'.cell? ⟨q, 3, none⟩ = some (ptr b) := fun w' hw' =>
      ⟨(hw'.cell (p := ⟨p, 2, none⟩) h0).trans h3, (hw'.cell (p := ⟨p, 3, none⟩) h0).trans h4, (hw'.cell (p := ⟨q, 2, none⟩) k0).trans k3, (hw'.cell (p := ⟨q, 3, none⟩) k0).trans k4⟩
    have hev : evenT w.heap.size (.node p x n (.node q y m a b) r) = if a.dep < b.dep then (turnR (w.heap.size + 3) (.node (w.heap.size + 2) x n (turnL w.heap.size (.node q y m a b)) r), w.heap.size + 5) else (turnR w.heap.size (.node p x n (.node q y m a b) r), w.heap.size + 2) := by
      exact if_pos hd2
    clear h3 h4 k3 k4
    generalize hdd : (T.node q y m a b).dep = dl at *
    show Calls Try.prog 28 #[.pointer (some ⟨p, 0, none⟩)] w _
    go_enter Try.func28, Try.ntmps28
    go_wp2_with fail
    refine wp_region_chain [4, 9] (Below w.heap.size w) (by kernel_rfl) (by kernel_rfl) hC0 ?_
    iterate 1 (refine wpC_step rfl rfl rfl rfl hC0 ?_; apply Exists.intro; refine ⟨fun w' hw' K hK => ?_, ?_⟩; (obtain ⟨f0, f1, f2, f3⟩ := hcell w' hw'; go_step; exact hK))
    (refine wpC_nil_check rfl rfl _ rfl ⟨p, 0, none⟩ rfl fun a' ha => ?_; subst ha; simp only [Act.put, List.setIfInBounds_toArray, List.set_cons_succ, List.set_cons_zero])
    iterate 2 (refine wpC_step rfl rfl rfl rfl hC0 ?_; apply Exists.intro; refine ⟨fun w' hw' K hK => ?_, ?_⟩; (obtain ⟨f0, f1, f2, f3⟩ := hcell w' hw'; go_step; exact hK))
    refine wpC_eff rfl rfl fun K hK => ?_
    go_step
    refine (deep_any _ _ (.node q y m a b) (okT.below hC0 hL)).mono ?_
    rintro e w1 ⟨rfl, rfl⟩
    refine hK _ _ ⟨_, rfl⟩ hC0 ?_
    clear hK K
    rw [hdd]
    iterate 1 (refine wpC_step rfl rfl rfl rfl hC0 ?_; apply Exists.intro; refine ⟨fun w' hw' K hK => ?_, ?_⟩; (obtain ⟨f0, f1, f2, f3⟩ := hcell w' hw'; go_step; exact hK))
    (refine wpC_nil_check rfl rfl _ rfl ⟨p, 0, none⟩ rfl fun a' ha => ?_; subst ha; simp only [Act.put, List.setIfInBounds_toArray, List.set_cons_succ, List.set_cons_zero])
    iterate 2 (refine wpC_step rfl rfl rfl rfl hC0 ?_; apply Exists.intro; refine ⟨fun w' hw' K hK => ?_, ?_⟩; (obtain ⟨f0, f1, f2, f3⟩ := hcell w' hw'; go_step; exact hK))
    refine wpC_eff rfl rfl fun K hK => ?_
    go_step
    refine (deep_any _ _ r (okT.below hC0 hr)).mono ?_
    rintro e w1 ⟨rfl, rfl⟩
    refine hK _ _ ⟨_, rfl⟩ hC0 ?_
    clear hK K
    iterate 1 (refine wpC_step rfl rfl rfl rfl hC0 ?_; apply Exists.intro; refine ⟨fun w' hw' K hK => ?_, ?_⟩; (obtain ⟨f0, f1, f2, f3⟩ := hcell w' hw'; go_step; exact hK))
    refine wpC_nil ?_
    clear hsub
    go_wp2_with fail
    have hC1 : Below w.heap.size w w.drew.drew := hC0.trans ((Below.refl _ _).drew.mono hC0.size)
    refine wp_region_chain [7, 15] (Below w.heap.size w) (by kernel_rfl) (by kernel_rfl) hC1 ?_
    iterate 1 (refine wpC_step rfl rfl rfl rfl hC1 ?_; apply Exists.intro; refine ⟨fun w' hw' K hK => ?_, ?_⟩; (obtain ⟨f0, f1, f2, f3⟩ := hcell w' hw'; go_step; exact hK))
    (refine wpC_nil_check rfl rfl _ rfl ⟨p, 0, none⟩ rfl fun a' ha => ?_; subst ha; simp only [Act.put, List.setIfInBounds_toArray, List.set_cons_succ, List.set_cons_zero])
    iterate 2 (refine wpC_step rfl rfl rfl rfl hC1 ?_; apply Exists.intro; refine ⟨fun w' hw' K hK => ?_, ?_⟩; (obtain ⟨f0, f1, f2, f3⟩ := hcell w' hw'; go_step; exact hK))
    (refine wpC_nil_check rfl rfl _ rfl ⟨q, 0, none⟩ rfl fun a' ha => ?_; subst ha; simp only [Act.put, List.setIfInBounds_toArray, List.set_cons_succ, List.set_cons_zero])
    iterate 2 (refine wpC_step rfl rfl rfl rfl hC1 ?_; apply Exists.intro; refine ⟨fun w' hw' K hK => ?_, ?_⟩; (obtain ⟨f0, f1, f2, f3⟩ := hcell w' hw'; go_step; exact hK))
    refine wpC_eff rfl rfl fun K hK => ?_
    go_step
    refine (deep_any _ _ a (okT.below hC1 ha)).mono ?_
    rintro e w1 ⟨rfl, rfl⟩
    refine hK _ _ ⟨_, rfl⟩ hC1 ?_
    clear hK K
    iterate 1 (refine wpC_step rfl rfl rfl rfl hC1 ?_; apply Exists.intro; refine ⟨fun w' hw' K hK => ?_, ?_⟩; (obtain ⟨f0, f1, f2, f3⟩ := hcell w' hw'; go_step; exact hK))
    (refine wpC_nil_check rfl rfl _ rfl ⟨p, 0, none⟩ rfl fun a' ha => ?_; subst ha; simp only [Act.put, List.setIfInBounds_toArray, List.set_cons_succ, List.set_cons_zero])
    iterate 2 (refine wpC_step rfl rfl rfl rfl hC1 ?_; apply Exists.intro; refine ⟨fun w' hw' K hK => ?_, ?_⟩; (obtain ⟨f0, f1, f2, f3⟩ := hcell w' hw'; go_step; exact hK))
    (refine wpC_nil_check rfl rfl _ rfl ⟨q, 0, none⟩ rfl fun a' ha => ?_; subst ha; simp only [Act.put, List.setIfInBounds_toArray, List.set_cons_succ, List.set_cons_zero])
    iterate 2 (refine wpC_step rfl rfl rfl rfl hC1 ?_; apply Exists.intro; refine ⟨fun w' hw' K hK => ?_, ?_⟩; (obtain ⟨f0, f1, f2, f3⟩ := hcell w' hw'; go_step; exact hK))
    refine wpC_eff rfl rfl fun K hK => ?_
    go_step
    refine (deep_any _ _ b (okT.below hC1 hb)).mono ?_
    rintro e w1 ⟨rfl, rfl⟩
    refine hK _ _ ⟨_, rfl⟩ hC1 ?_
    clear hK K
    iterate 1 (refine wpC_step rfl rfl rfl rfl hC1 ?_; apply Exists.intro; refine ⟨fun w' hw' K hK => ?_, ?_⟩; (obtain ⟨f0, f1, f2, f3⟩ := hcell w' hw'; go_step; exact hK))
    refine wpC_nil ?_
    by_cases hab : a.dep < b.dep
    · rw [if_pos hab] at hev
      obtain ⟨s, z, k, b1, b2, rfl⟩ := dep_node (t := b) (by omega)
      have hcb : (T.node s z k b1 b2).cnt = b1.cnt + b2.cnt + 1 := rfl
      generalize hdb : (T.node s z k b1 b2).dep = db at *
      go_wp2_with fail
      have hC2 : Below w.heap.size w w.drew.drew.drew := hC1.trans ((Below.refl _ _).drew.mono hC1.size)
      refine wp_region_chain [5, 10] (Below w.heap.size w) (by kernel_rfl) (by kernel_rfl) hC2 ?_
      iterate 2 (refine wpC_step rfl rfl rfl rfl hC2 ?_; apply Exists.intro; refine ⟨fun w' hw' K hK => ?_, ?_⟩; (obtain ⟨f0, f1, f2, f3⟩ := hcell w' hw'; go_step; exact hK))
      (refine wpC_nil_check rfl rfl _ rfl ⟨p, 0, none⟩ rfl fun a' ha => ?_; subst ha; simp only [Act.put, List.setIfInBounds_toArray, List.set_cons_succ, List.set_cons_zero])
      iterate 2 (refine wpC_step rfl rfl rfl rfl hC2 ?_; apply Exists.intro; refine ⟨fun w' hw' K hK => ?_, ?_⟩; (obtain ⟨f0, f1, f2, f3⟩ := hcell w' hw'; go_step; exact hK))
      refine wpC_eff rfl rfl fun K hK => ?_
      go_step
      refine (turnL_any w.drew.drew.drew q s y z m k a b1 b2 (okT.below hC2 hL) (by omega)).mono ?_
      rintro e w4 ⟨rfl, h4', hB4, hs4⟩
      have hC4 : Below w.heap.size w w4 := hC2.trans hB4
      refine hK _ _ ⟨_, rfl⟩ hC4 ?_
      clear hK K
      have hs4 : w4.heap.size = w.heap.size + 2 := hs4
      iterate 1 (refine wpC_step rfl rfl rfl rfl hC4 ?_; apply Exists.intro; refine ⟨fun w' hw' K hK => ?_, ?_⟩; (obtain ⟨f0, f1, f2, f3⟩ := hcell w' hw'; go_step; exact hK))
      (refine wpC_nil_check rfl rfl _ rfl ⟨p, 0, none⟩ rfl fun a' ha => ?_; subst ha; simp only [Act.put, List.setIfInBounds_toArray, List.set_cons_succ, List.set_cons_zero])
      iterate 2 (refine wpC_step rfl rfl rfl rfl hC4 ?_; apply Exists.intro; refine ⟨fun w' hw' K hK => ?_, ?_⟩; (obtain ⟨f0, f1, f2, f3⟩ := hcell w' hw'; go_step; exact hK))
      refine wpC_eff rfl rfl fun K hK => ?_
      go_step
      refine (with_any w4 (.node p x n (.node q y m a (.node s z k b1 b2)) r) _ r (fun h => by cases h) (okT.mono hC4.size (okT.below hC4 hx)) h4' (okT.mono hC4.size (okT.below hC4 hr)) (by simp only [turnL, T.cnt]; omega)).mono ?_
      rintro e w5 ⟨rfl, h5', hB5, hs5⟩
      have hC5 : Below w.heap.size w w5 := hC4.trans (hB5.mono hC4.size)
      refine hK _ _ ⟨_, rfl⟩ hC5 ?_
      clear hK K
      rw [hs4] at hs5
      have e1 : withT w4.heap.size (.node p x n (.node q y m a (.node s z k b1 b2)) r) (turnL w.drew.drew.drew.heap.size (.node q y m a (.node s z k b1 b2))) r = .node (w.heap.size + 2) x n (.node (w.heap.size + 1) z k (.node w.heap.size y m a b1) b2) r := by rw [hs4]; rfl
      rw [e1] at h5' ⊢
      iterate 1 (refine wpC_step rfl rfl rfl rfl hC5 ?_; apply Exists.intro; refine ⟨fun w' hw' K hK => ?_, ?_⟩; (obtain ⟨f0, f1, f2, f3⟩ := hcell w' hw'; go_step; exact hK))
      refine wpC_nil ?_
      go_wp2_with fail
      refine (turnR_any w5 _ _ x z n k _ b2 r h5' (by simp only [T.cnt]; omega)).mono ?_
      rintro e w6 ⟨rfl, h6', hB6, hs6⟩
      have hC6 : Below w.heap.size w w6 := hC5.trans (hB6.mono hC5.size)
      rw [hs5] at hs6 h6' ⊢
      go_wp2
      go_ret
      rw [hev]
      exact ⟨rfl, h6', hC6, hs6⟩
    · rw [if_neg hab] at hev
      go_wp2_with fail
      refine (turnR_any w.drew.drew p q x y n m a b r (okT.below hC1 hx) (by omega)).mono ?_
      rintro e w6 ⟨rfl, h6', hB6, hs6⟩
      have hC6 : Below w.heap.size w w6 := hC1.trans hB6
      go_wp2
      go_ret
      rw [hev]
      exact ⟨rfl, h6', hC6, hs6⟩
  · by_cases hd3 : r.dep = l.dep + 2
    · have hsub : IntKind.i64.wrap ((l.dep : Int) - (r.dep : Int)) = -2 := by rw [IntWalk.i64_in _ (by omega)]; omega
      obtain ⟨q, y, m, a, b, rfl⟩ := dep_node (t := r) (by omega)
      have hR := hr
      obtain ⟨k0, _, _, k3, k4, _, _, ha, hb, _⟩ := hr
      have hcl : (T.node q y m a b).cnt = a.cnt + b.cnt + 1 := rfl
      have hcell : ∀ w', Below w.heap.size w w' → w'.cell? ⟨p, 2, none⟩ = some (ptr l) ∧ w'.cell? ⟨p, 3, none⟩ = some (.pointer (some ⟨q, 0, none⟩)) ∧ w'.cell? ⟨q, 2, none⟩ = some (ptr a) ∧ w'.cell? ⟨q, 3, none⟩ = some (ptr b) := fun w' hw' =>
        ⟨(hw'.cell (p := ⟨p, 2, none⟩) h0).trans h3, (hw'.cell (p := ⟨p, 3, none⟩) h0).trans h4, (hw'.cell (p := ⟨q, 2, none⟩) k0).trans k3, (hw'.cell (p := ⟨q, 3, none⟩) k0).trans k4⟩
      have hev : evenT w.heap.size (.node p x n l (.node q y m a b)) = if b.dep < a.dep then (turnL (w.heap.size + 3) (.node (w.heap.size + 2) x n l (turnR w.heap.size (.node q y m a b))), w.heap.size + 5) else (turnL w.heap.size (.node p x n l (.node q y m a b)), w.heap.size + 2) := by
        exact (if_neg hd2).trans (if_pos hd3)
      clear h3 h4 k3 k4
      generalize hdd : (T.node q y m a b).dep = dl at *
      show Calls Try.prog 28 #[.pointer (some ⟨p, 0, none⟩)] w _
      go_enter Try.func28, Try.ntmps28
      go_wp2_with fail
      refine wp_region_chain [4, 9] (Below w.heap.size w) (by kernel_rfl) (by kernel_rfl) hC0 ?_
      iterate 1 (refine wpC_step rfl rfl rfl rfl hC0 ?_; apply Exists.intro; refine ⟨fun w' hw' K hK => ?_, ?_⟩; (obtain ⟨f0, f1, f2, f3⟩ := hcell w' hw'; go_step; exact hK))
      (refine wpC_nil_check rfl rfl _ rfl ⟨p, 0, none⟩ rfl fun a' ha => ?_; subst ha; simp only [Act.put, List.setIfInBounds_toArray, List.set_cons_succ, List.set_cons_zero])
      iterate 2 (refine wpC_step rfl rfl rfl rfl hC0 ?_; apply Exists.intro; refine ⟨fun w' hw' K hK => ?_, ?_⟩; (obtain ⟨f0, f1, f2, f3⟩ := hcell w' hw'; go_step; exact hK))
      refine wpC_eff rfl rfl fun K hK => ?_
      go_step
      refine (deep_any _ _ l (okT.below hC0 hl)).mono ?_
      rintro e w1 ⟨rfl, rfl⟩
      refine hK _ _ ⟨_, rfl⟩ hC0 ?_
      clear hK K
      iterate 1 (refine wpC_step rfl rfl rfl rfl hC0 ?_; apply Exists.intro; refine ⟨fun w' hw' K hK => ?_, ?_⟩; (obtain ⟨f0, f1, f2, f3⟩ := hcell w' hw'; go_step; exact hK))
      (refine wpC_nil_check rfl rfl _ rfl ⟨p, 0, none⟩ rfl fun a' ha => ?_; subst ha; simp only [Act.put, List.setIfInBounds_toArray, List.set_cons_succ, List.set_cons_zero])
      iterate 2 (refine wpC_step rfl rfl rfl rfl hC0 ?_; apply Exists.intro; refine ⟨fun w' hw' K hK => ?_, ?_⟩; (obtain ⟨f0, f1, f2, f3⟩ := hcell w' hw'; go_step; exact hK))
      refine wpC_eff rfl rfl fun K hK => ?_
      go_step
      refine (deep_any _ _ (.node q y m a b) (okT.below hC0 hR)).mono ?_
      rintro e w1 ⟨rfl, rfl⟩
      refine hK _ _ ⟨_, rfl⟩ hC0 ?_
      clear hK K
      rw [hdd]
      iterate 1 (refine wpC_step rfl rfl rfl rfl hC0 ?_; apply Exists.intro; refine ⟨fun w' hw' K hK => ?_, ?_⟩; (obtain ⟨f0, f1, f2, f3⟩ := hcell w' hw'; go_step; exact hK))
      refine wpC_nil ?_
      clear hsub
      go_wp2_with fail
      have hC1 : Below w.heap.size w w.drew.drew := hC0.trans ((Below.refl _ _).drew.mono hC0.size)
      refine wp_region_chain [7, 15] (Below w.heap.size w) (by kernel_rfl) (by kernel_rfl) hC1 ?_
      iterate 1 (refine wpC_step rfl rfl rfl rfl hC1 ?_; apply Exists.intro; refine ⟨fun w' hw' K hK => ?_, ?_⟩; (obtain ⟨f0, f1, f2, f3⟩ := hcell w' hw'; go_step; exact hK))
      (refine wpC_nil_check rfl rfl _ rfl ⟨p, 0, none⟩ rfl fun a' ha => ?_; subst ha; simp only [Act.put, List.setIfInBounds_toArray, List.set_cons_succ, List.set_cons_zero])
      iterate 2 (refine wpC_step rfl rfl rfl rfl hC1 ?_; apply Exists.intro; refine ⟨fun w' hw' K hK => ?_, ?_⟩; (obtain ⟨f0, f1, f2, f3⟩ := hcell w' hw'; go_step; exact hK))
      (refine wpC_nil_check rfl rfl _ rfl ⟨q, 0, none⟩ rfl fun a' ha => ?_; subst ha; simp only [Act.put, List.setIfInBounds_toArray, List.set_cons_succ, List.set_cons_zero])
      iterate 2 (refine wpC_step rfl rfl rfl rfl hC1 ?_; apply Exists.intro; refine ⟨fun w' hw' K hK => ?_, ?_⟩; (obtain ⟨f0, f1, f2, f3⟩ := hcell w' hw'; go_step; exact hK))
      refine wpC_eff rfl rfl fun K hK => ?_
      go_step
      refine (deep_any _ _ b (okT.below hC1 hb)).mono ?_
      rintro e w1 ⟨rfl, rfl⟩
      refine hK _ _ ⟨_, rfl⟩ hC1 ?_
      clear hK K
      iterate 1 (refine wpC_step rfl rfl rfl rfl hC1 ?_; apply Exists.intro; refine ⟨fun w' hw' K hK => ?_, ?_⟩; (obtain ⟨f0, f1, f2, f3⟩ := hcell w' hw'; go_step; exact hK))
      (refine wpC_nil_check rfl rfl _ rfl ⟨p, 0, none⟩ rfl fun a' ha => ?_; subst ha; simp only [Act.put, List.setIfInBounds_toArray, List.set_cons_succ, List.set_cons_zero])
      iterate 2 (refine wpC_step rfl rfl rfl rfl hC1 ?_; apply Exists.intro; refine ⟨fun w' hw' K hK => ?_, ?_⟩; (obtain ⟨f0, f1, f2, f3⟩ := hcell w' hw'; go_step; exact hK))
      (refine wpC_nil_check rfl rfl _ rfl ⟨q, 0, none⟩ rfl fun a' ha => ?_; subst ha; simp only [Act.put, List.setIfInBounds_toArray, List.set_cons_succ, List.set_cons_zero])
      iterate 2 (refine wpC_step rfl rfl rfl rfl hC1 ?_; apply Exists.intro; refine ⟨fun w' hw' K hK => ?_, ?_⟩; (obtain ⟨f0, f1, f2, f3⟩ := hcell w' hw'; go_step; exact hK))
      refine wpC_eff rfl rfl fun K hK => ?_
      go_step
      refine (deep_any _ _ a (okT.below hC1 ha)).mono ?_
      rintro e w1 ⟨rfl, rfl⟩
      refine hK _ _ ⟨_, rfl⟩ hC1 ?_
      clear hK K
      iterate 1 (refine wpC_step rfl rfl rfl rfl hC1 ?_; apply Exists.intro; refine ⟨fun w' hw' K hK => ?_, ?_⟩; (obtain ⟨f0, f1, f2, f3⟩ := hcell w' hw'; go_step; exact hK))
      refine wpC_nil ?_
      by_cases hab : b.dep < a.dep
      · rw [if_pos hab] at hev
        obtain ⟨s, z, k, b1, b2, rfl⟩ := dep_node (t := a) (by omega)
        have hcb : (T.node s z k b1 b2).cnt = b1.cnt + b2.cnt + 1 := rfl
        generalize hdb : (T.node s z k b1 b2).dep = db at *
        go_wp2_with fail
        have hC2 : Below w.heap.size w w.drew.drew.drew := hC1.trans ((Below.refl _ _).drew.mono hC1.size)
        refine wp_region_chain [9, 10] (Below w.heap.size w) (by kernel_rfl) (by kernel_rfl) hC2 ?_
        iterate 2 (refine wpC_step rfl rfl rfl rfl hC2 ?_; apply Exists.intro; refine ⟨fun w' hw' K hK => ?_, ?_⟩; (obtain ⟨f0, f1, f2, f3⟩ := hcell w' hw'; go_step; exact hK))
        (refine wpC_nil_check rfl rfl _ rfl ⟨p, 0, none⟩ rfl fun a' ha => ?_; subst ha; simp only [Act.put, List.setIfInBounds_toArray, List.set_cons_succ, List.set_cons_zero])
        iterate 3 (refine wpC_step rfl rfl rfl rfl hC2 ?_; apply Exists.intro; refine ⟨fun w' hw' K hK => ?_, ?_⟩; (obtain ⟨f0, f1, f2, f3⟩ := hcell w' hw'; go_step; exact hK))
        (refine wpC_nil_check rfl rfl _ rfl ⟨p, 0, none⟩ rfl fun a' ha => ?_; subst ha; simp only [Act.put, List.setIfInBounds_toArray, List.set_cons_succ, List.set_cons_zero])
        iterate 2 (refine wpC_step rfl rfl rfl rfl hC2 ?_; apply Exists.intro; refine ⟨fun w' hw' K hK => ?_, ?_⟩; (obtain ⟨f0, f1, f2, f3⟩ := hcell w' hw'; go_step; exact hK))
        refine wpC_eff rfl rfl fun K hK => ?_
        go_step
        refine (turnR_any w.drew.drew.drew q s y z m k b1 b2 b (okT.below hC2 hR) (by omega)).mono ?_
        rintro e w4 ⟨rfl, h4', hB4, hs4⟩
        have hC4 : Below w.heap.size w w4 := hC2.trans hB4
        refine hK _ _ ⟨_, rfl⟩ hC4 ?_
        clear hK K
        have hs4 : w4.heap.size = w.heap.size + 2 := hs4
        refine wpC_eff rfl rfl fun K hK => ?_
        go_step
        refine (with_any w4 (.node p x n l (.node q y m (.node s z k b1 b2) b)) l _ (fun h => by cases h) (okT.mono hC4.size (okT.below hC4 hx)) (okT.mono hC4.size (okT.below hC4 hl)) h4' (by simp only [turnR, T.cnt]; omega)).mono ?_
        rintro e w5 ⟨rfl, h5', hB5, hs5⟩
        have hC5 : Below w.heap.size w w5 := hC4.trans (hB5.mono hC4.size)
        refine hK _ _ ⟨_, rfl⟩ hC5 ?_
        clear hK K
        rw [hs4] at hs5
        have e1 : withT w4.heap.size (.node p x n l (.node q y m (.node s z k b1 b2) b)) l (turnR w.drew.drew.drew.heap.size (.node q y m (.node s z k b1 b2) b)) = .node (w.heap.size + 2) x n l (.node (w.heap.size + 1) z k b1 (.node w.heap.size y m b2 b)) := by rw [hs4]; rfl
        rw [e1] at h5' ⊢
        iterate 1 (refine wpC_step rfl rfl rfl rfl hC5 ?_; apply Exists.intro; refine ⟨fun w' hw' K hK => ?_, ?_⟩; (obtain ⟨f0, f1, f2, f3⟩ := hcell w' hw'; go_step; exact hK))
        refine wpC_nil ?_
        go_wp2_with fail
        refine (turnL_any w5 _ _ x z n k l b1 _ h5' (by simp only [T.cnt]; omega)).mono ?_
        rintro e w6 ⟨rfl, h6', hB6, hs6⟩
        have hC6 : Below w.heap.size w w6 := hC5.trans (hB6.mono hC5.size)
        rw [hs5] at hs6 h6' ⊢
        go_wp2
        go_ret
        rw [hev]
        exact ⟨rfl, h6', hC6, hs6⟩
      · rw [if_neg hab] at hev
        go_wp2_with fail
        refine (turnL_any w.drew.drew p q x y n m l a b (okT.below hC1 hx) (by omega)).mono ?_
        rintro e w6 ⟨rfl, h6', hB6, hs6⟩
        have hC6 : Below w.heap.size w w6 := hC1.trans hB6
        go_wp2
        go_ret
        rw [hev]
        exact ⟨rfl, h6', hC6, hs6⟩
    · have hev : evenT w.heap.size (.node p x n l r) = (.node p x n l r, w.heap.size) := (if_neg hd2).trans (if_neg hd3)
      have hcell : ∀ w', Below w.heap.size w w' → w'.cell? ⟨p, 2, none⟩ = some (ptr l) ∧ w'.cell? ⟨p, 3, none⟩ = some (ptr r) := fun w' hw' =>
        ⟨(hw'.cell (p := ⟨p, 2, none⟩) h0).trans h3, (hw'.cell (p := ⟨p, 3, none⟩) h0).trans h4⟩
      obtain ⟨d, hsub⟩ : ∃ d : Int, IntKind.i64.wrap ((l.dep : Int) - (r.dep : Int)) = d := ⟨_, rfl⟩
      have hd : d ≠ 2 ∧ d ≠ -2 := by
        rw [IntWalk.i64_in _ (by omega)] at hsub
        omega
      have hn2 : (d == 2) = false := by rw [beq_eq_false_iff_ne]; exact hd.1
      have hn3 : (d == -2) = false := by rw [beq_eq_false_iff_ne]; exact hd.2
      clear h3 h4
      show Calls Try.prog 28 #[.pointer (some ⟨p, 0, none⟩)] w _
      go_enter Try.func28, Try.ntmps28
      go_wp2_with fail
      refine wp_region_chain [4, 9] (Below w.heap.size w) (by kernel_rfl) (by kernel_rfl) hC0 ?_
      iterate 1 (refine wpC_step rfl rfl rfl rfl hC0 ?_; apply Exists.intro; refine ⟨fun w' hw' K hK => ?_, ?_⟩; (obtain ⟨f0, f1⟩ := hcell w' hw'; go_step; exact hK))
      (refine wpC_nil_check rfl rfl _ rfl ⟨p, 0, none⟩ rfl fun a' ha => ?_; subst ha; simp only [Act.put, List.setIfInBounds_toArray, List.set_cons_succ, List.set_cons_zero])
      iterate 2 (refine wpC_step rfl rfl rfl rfl hC0 ?_; apply Exists.intro; refine ⟨fun w' hw' K hK => ?_, ?_⟩; (obtain ⟨f0, f1⟩ := hcell w' hw'; go_step; exact hK))
      refine wpC_eff rfl rfl fun K hK => ?_
      go_step
      refine (deep_any _ _ l (okT.below hC0 hl)).mono ?_
      rintro e w1 ⟨rfl, rfl⟩
      refine hK _ _ ⟨_, rfl⟩ hC0 ?_
      clear hK K
      iterate 1 (refine wpC_step rfl rfl rfl rfl hC0 ?_; apply Exists.intro; refine ⟨fun w' hw' K hK => ?_, ?_⟩; (obtain ⟨f0, f1⟩ := hcell w' hw'; go_step; exact hK))
      (refine wpC_nil_check rfl rfl _ rfl ⟨p, 0, none⟩ rfl fun a' ha => ?_; subst ha; simp only [Act.put, List.setIfInBounds_toArray, List.set_cons_succ, List.set_cons_zero])
      iterate 2 (refine wpC_step rfl rfl rfl rfl hC0 ?_; apply Exists.intro; refine ⟨fun w' hw' K hK => ?_, ?_⟩; (obtain ⟨f0, f1⟩ := hcell w' hw'; go_step; exact hK))
      refine wpC_eff rfl rfl fun K hK => ?_
      go_step
      refine (deep_any _ _ r (okT.below hC0 hr)).mono ?_
      rintro e w1 ⟨rfl, rfl⟩
      refine hK _ _ ⟨_, rfl⟩ hC0 ?_
      clear hK K
      iterate 1 (refine wpC_step rfl rfl rfl rfl hC0 ?_; apply Exists.intro; refine ⟨fun w' hw' K hK => ?_, ?_⟩; (obtain ⟨f0, f1⟩ := hcell w' hw'; go_step; exact hK))
      refine wpC_nil ?_
      go_wp2
      go_ret
      rw [hev]
      exact ⟨rfl, okT.below hC0 hx, hC0, rfl⟩
end Go.Proofs.Ytegkjnibkilbpaa
