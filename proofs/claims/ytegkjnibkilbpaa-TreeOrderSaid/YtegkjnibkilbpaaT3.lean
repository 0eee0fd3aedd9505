import Derived.Test.YtegkjnibkilbpaaT2
namespace Go.Proofs.Ytegkjnibkilbpaa
open Go.RowKit

def turnR (H : Nat) : T → T
  | .node _ x n (.node _ y m a b) c => .node (H + 1) y m a (.node H x n b c)
  | t => t
def turnL (H : Nat) : T → T
  | .node _ x n a (.node _ y m b c) => .node (H + 1) y m (.node H x n a b) c
  | t => t

theorem TPost.of {t : T} {H : Nat} {w w' : World} (h1 : okT w'.heap.size w' t) (hB : Below w.heap.size w w') (h2 : w'.heap.size = H) : TPost t H w (.returned (ptr t)) w' := ⟨rfl, h1, hB, h2⟩

set_option maxRecDepth 100000 in
theorem turnR_any (w : World) (p q : Nat) (x y : List UInt8) (n m : Int) (a b c : T) (ht : okT w.heap.size w (.node p x n (.node q y m a b) c)) (hc : a.cnt + b.cnt + c.cnt + 1 ≤ 1099511627776) :
    Calls Try.prog 33 #[ptr (.node p x n (.node q y m a b) c)] w (TPost (turnR w.heap.size (.node p x n (.node q y m a b) c)) (w.heap.size + 2) w) := by
  have hx := ht
  obtain ⟨h0, _, _, h3, h4, _, _, hL, hc0, _⟩ := ht
  have hl := hL
  obtain ⟨k0, _, _, k3, k4, _, _, ha0, hb0, _⟩ := hL
  have hcell : ∀ w', Below w.heap.size w w' → w'.cell? ⟨p, 2, none⟩ = some (.pointer (some ⟨q, 0, none⟩)) ∧ w'.cell? ⟨p, 3, none⟩ = some (ptr c) ∧ w'.cell? ⟨q, 2, none⟩ = some (ptr a) ∧ w'.cell? ⟨q, 3, none⟩ = some (ptr b) := fun w' hw' =>
    ⟨(hw'.cell (p := ⟨p, 2, none⟩) h0).trans h3, (hw'.cell (p := ⟨p, 3, none⟩) h0).trans h4, (hw'.cell (p := ⟨q, 2, none⟩) k0).trans k3, (hw'.cell (p := ⟨q, 3, none⟩) k0).trans k4⟩
  clear h3 h4 k3 k4
  show Calls Try.prog 33 #[.pointer (some ⟨p, 0, none⟩)] w (TPost (.node (w.heap.size + 1) y m a (.node w.heap.size x n b c)) (w.heap.size + 2) w)
  go_enter Try.func33, Try.ntmps33
  go_wp2_with fail
  have hC0 : Below w.heap.size w w.drew := (Below.refl _ _).drew
  refine wp_region_chain [23, 24] (Below w.heap.size w) (by kernel_rfl) (by kernel_rfl) hC0 ?_
  iterate 1 (refine wpC_step rfl rfl rfl rfl hC0 ?_; apply Exists.intro; refine ⟨fun w' hw' K hK => ?_, ?_⟩; (obtain ⟨f0, f1, f2, f3⟩ := hcell w' hw'; go_step; exact hK))
  (refine wpC_nil_check rfl rfl _ rfl ⟨p, 0, none⟩ rfl fun a' ha => ?_; subst ha; simp only [Act.put, List.setIfInBounds_toArray, List.set_cons_succ, List.set_cons_zero])
  iterate 3 (refine wpC_step rfl rfl rfl rfl hC0 ?_; apply Exists.intro; refine ⟨fun w' hw' K hK => ?_, ?_⟩; (obtain ⟨f0, f1, f2, f3⟩ := hcell w' hw'; go_step; exact hK))
  (refine wpC_nil_check rfl rfl _ rfl ⟨p, 0, none⟩ rfl fun a' ha => ?_; subst ha; simp only [Act.put, List.setIfInBounds_toArray, List.set_cons_succ, List.set_cons_zero])
  iterate 2 (refine wpC_step rfl rfl rfl rfl hC0 ?_; apply Exists.intro; refine ⟨fun w' hw' K hK => ?_, ?_⟩; (obtain ⟨f0, f1, f2, f3⟩ := hcell w' hw'; go_step; exact hK))
  (refine wpC_nil_check rfl rfl _ rfl ⟨q, 0, none⟩ rfl fun a' ha => ?_; subst ha; simp only [Act.put, List.setIfInBounds_toArray, List.set_cons_succ, List.set_cons_zero])
  iterate 4 (refine wpC_step rfl rfl rfl rfl hC0 ?_; apply Exists.intro; refine ⟨fun w' hw' K hK => ?_, ?_⟩; (obtain ⟨f0, f1, f2, f3⟩ := hcell w' hw'; go_step; exact hK))
  (refine wpC_nil_check rfl rfl _ rfl ⟨p, 0, none⟩ rfl fun a' ha => ?_; subst ha; simp only [Act.put, List.setIfInBounds_toArray, List.set_cons_succ, List.set_cons_zero])
  iterate 2 (refine wpC_step rfl rfl rfl rfl hC0 ?_; apply Exists.intro; refine ⟨fun w' hw' K hK => ?_, ?_⟩; (obtain ⟨f0, f1, f2, f3⟩ := hcell w' hw'; go_step; exact hK))
  (refine wpC_nil_check rfl rfl _ rfl ⟨q, 0, none⟩ rfl fun a' ha => ?_; subst ha; simp only [Act.put, List.setIfInBounds_toArray, List.set_cons_succ, List.set_cons_zero])
  iterate 3 (refine wpC_step rfl rfl rfl rfl hC0 ?_; apply Exists.intro; refine ⟨fun w' hw' K hK => ?_, ?_⟩; (obtain ⟨f0, f1, f2, f3⟩ := hcell w' hw'; go_step; exact hK))
  (refine wpC_nil_check rfl rfl _ rfl ⟨p, 0, none⟩ rfl fun a' ha => ?_; subst ha; simp only [Act.put, List.setIfInBounds_toArray, List.set_cons_succ, List.set_cons_zero])
  iterate 2 (refine wpC_step rfl rfl rfl rfl hC0 ?_; apply Exists.intro; refine ⟨fun w' hw' K hK => ?_, ?_⟩; (obtain ⟨f0, f1, f2, f3⟩ := hcell w' hw'; go_step; exact hK))
  refine wpC_eff rfl rfl fun K hK => ?_
  go_step
  refine (with_any w.drew (.node p x n (.node q y m a b) c) b c (fun h => by cases h) (okT.below hC0 hx) (okT.below hC0 hb0) (okT.below hC0 hc0) (by omega)).mono ?_
  rintro e w1 ⟨rfl, h1', hB1, hs1⟩
  have hC1 : Below w.heap.size w w1 := hC0.trans hB1
  refine hK _ _ ⟨_, rfl⟩ hC1 ?_
  clear hK K
  have hs1 : w1.heap.size = w.heap.size + 1 := hs1
  refine wpC_eff rfl rfl fun K hK => ?_
  go_step
  refine (with_any w1 (.node q y m a b) a _ (fun h => by cases h) (okT.mono hC1.size (okT.below hC1 hl)) (okT.mono hC1.size (okT.below hC1 ha0)) h1' (by simp only [withT, T.cnt]; omega)).mono ?_
  rintro e w2 ⟨rfl, h2', hB2, hs2⟩
  have hC2 : Below w.heap.size w w2 := hC1.trans (hB2.mono hC1.size)
  refine hK _ _ ⟨_, rfl⟩ hC2 ?_
  clear hK K
  iterate 1 (refine wpC_step rfl rfl rfl rfl hC2 ?_; apply Exists.intro; refine ⟨fun w' hw' K hK => ?_, ?_⟩; (obtain ⟨f0, f1, f2, f3⟩ := hcell w' hw'; go_step; exact hK))
  refine wpC_nil ?_
  have e1 : withT w1.heap.size (.node q y m a b) a (withT w.drew.heap.size (.node p x n (.node q y m a b) c) b c) = .node (w.heap.size + 1) y m a (.node w.heap.size x n b c) := by rw [hs1]; rfl
  rw [e1] at h2' ⊢
  go_wp2
  go_ret
  exact ⟨rfl, h2', hC2, by rw [hs2, hs1]⟩

set_option maxRecDepth 100000 in
theorem turnL_any (w : World) (p q : Nat) (x y : List UInt8) (n m : Int) (a b c : T) (ht : okT w.heap.size w (.node p x n a (.node q y m b c))) (hc : a.cnt + b.cnt + c.cnt + 1 ≤ 1099511627776) :
    Calls Try.prog 32 #[ptr (.node p x n a (.node q y m b c))] w (TPost (turnL w.heap.size (.node p x n a (.node q y m b c))) (w.heap.size + 2) w) := by
  have hx := ht
  obtain ⟨h0, _, _, h3, h4, _, _, ha0, hR, _⟩ := ht
  have hr := hR
  obtain ⟨k0, _, _, k3, k4, _, _, hb0, hc0, _⟩ := hR
  have hcell : ∀ w', Below w.heap.size w w' → w'.cell? ⟨p, 2, none⟩ = some (ptr a) ∧ w'.cell? ⟨p, 3, none⟩ = some (.pointer (some ⟨q, 0, none⟩)) ∧ w'.cell? ⟨q, 2, none⟩ = some (ptr b) ∧ w'.cell? ⟨q, 3, none⟩ = some (ptr c) := fun w' hw' =>
    ⟨(hw'.cell (p := ⟨p, 2, none⟩) h0).trans h3, (hw'.cell (p := ⟨p, 3, none⟩) h0).trans h4, (hw'.cell (p := ⟨q, 2, none⟩) k0).trans k3, (hw'.cell (p := ⟨q, 3, none⟩) k0).trans k4⟩
  clear h3 h4 k3 k4
  show Calls Try.prog 32 #[.pointer (some ⟨p, 0, none⟩)] w (TPost (.node (w.heap.size + 1) y m (.node w.heap.size x n a b) c) (w.heap.size + 2) w)
  go_enter Try.func32, Try.ntmps32
  go_wp2_with fail
  have hC0 : Below w.heap.size w w.drew := (Below.refl _ _).drew
  refine wp_region_chain [16, 24] (Below w.heap.size w) (by kernel_rfl) (by kernel_rfl) hC0 ?_
  iterate 1 (refine wpC_step rfl rfl rfl rfl hC0 ?_; apply Exists.intro; refine ⟨fun w' hw' K hK => ?_, ?_⟩; (obtain ⟨f0, f1, f2, f3⟩ := hcell w' hw'; go_step; exact hK))
  (refine wpC_nil_check rfl rfl _ rfl ⟨p, 0, none⟩ rfl fun a' ha => ?_; subst ha; simp only [Act.put, List.setIfInBounds_toArray, List.set_cons_succ, List.set_cons_zero])
  iterate 4 (refine wpC_step rfl rfl rfl rfl hC0 ?_; apply Exists.intro; refine ⟨fun w' hw' K hK => ?_, ?_⟩; (obtain ⟨f0, f1, f2, f3⟩ := hcell w' hw'; go_step; exact hK))
  (refine wpC_nil_check rfl rfl _ rfl ⟨p, 0, none⟩ rfl fun a' ha => ?_; subst ha; simp only [Act.put, List.setIfInBounds_toArray, List.set_cons_succ, List.set_cons_zero])
  iterate 3 (refine wpC_step rfl rfl rfl rfl hC0 ?_; apply Exists.intro; refine ⟨fun w' hw' K hK => ?_, ?_⟩; (obtain ⟨f0, f1, f2, f3⟩ := hcell w' hw'; go_step; exact hK))
  (refine wpC_nil_check rfl rfl _ rfl ⟨p, 0, none⟩ rfl fun a' ha => ?_; subst ha; simp only [Act.put, List.setIfInBounds_toArray, List.set_cons_succ, List.set_cons_zero])
  iterate 2 (refine wpC_step rfl rfl rfl rfl hC0 ?_; apply Exists.intro; refine ⟨fun w' hw' K hK => ?_, ?_⟩; (obtain ⟨f0, f1, f2, f3⟩ := hcell w' hw'; go_step; exact hK))
  (refine wpC_nil_check rfl rfl _ rfl ⟨q, 0, none⟩ rfl fun a' ha => ?_; subst ha; simp only [Act.put, List.setIfInBounds_toArray, List.set_cons_succ, List.set_cons_zero])
  iterate 2 (refine wpC_step rfl rfl rfl rfl hC0 ?_; apply Exists.intro; refine ⟨fun w' hw' K hK => ?_, ?_⟩; (obtain ⟨f0, f1, f2, f3⟩ := hcell w' hw'; go_step; exact hK))
  refine wpC_eff rfl rfl fun K hK => ?_
  go_step
  refine (with_any w.drew (.node p x n a (.node q y m b c)) a b (fun h => by cases h) (okT.below hC0 hx) (okT.below hC0 ha0) (okT.below hC0 hb0) (by omega)).mono ?_
  rintro e w1 ⟨rfl, h1', hB1, hs1⟩
  have hC1 : Below w.heap.size w w1 := hC0.trans hB1
  refine hK _ _ ⟨_, rfl⟩ hC1 ?_
  clear hK K
  have hs1 : w1.heap.size = w.heap.size + 1 := hs1
  iterate 1 (refine wpC_step rfl rfl rfl rfl hC1 ?_; apply Exists.intro; refine ⟨fun w' hw' K hK => ?_, ?_⟩; (obtain ⟨f0, f1, f2, f3⟩ := hcell w' hw'; go_step; exact hK))
  (refine wpC_nil_check rfl rfl _ rfl ⟨p, 0, none⟩ rfl fun a' ha => ?_; subst ha; simp only [Act.put, List.setIfInBounds_toArray, List.set_cons_succ, List.set_cons_zero])
  iterate 2 (refine wpC_step rfl rfl rfl rfl hC1 ?_; apply Exists.intro; refine ⟨fun w' hw' K hK => ?_, ?_⟩; (obtain ⟨f0, f1, f2, f3⟩ := hcell w' hw'; go_step; exact hK))
  (refine wpC_nil_check rfl rfl _ rfl ⟨q, 0, none⟩ rfl fun a' ha => ?_; subst ha; simp only [Act.put, List.setIfInBounds_toArray, List.set_cons_succ, List.set_cons_zero])
  iterate 2 (refine wpC_step rfl rfl rfl rfl hC1 ?_; apply Exists.intro; refine ⟨fun w' hw' K hK => ?_, ?_⟩; (obtain ⟨f0, f1, f2, f3⟩ := hcell w' hw'; go_step; exact hK))
  refine wpC_eff rfl rfl fun K hK => ?_
  go_step
  refine (with_any w1 (.node q y m b c) _ c (fun h => by cases h) (okT.mono hC1.size (okT.below hC1 hr)) h1' (okT.mono hC1.size (okT.below hC1 hc0)) (by simp only [withT, T.cnt]; omega)).mono ?_
  rintro e w2 ⟨rfl, h2', hB2, hs2⟩
  have hC2 : Below w.heap.size w w2 := hC1.trans (hB2.mono hC1.size)
  refine hK _ _ ⟨_, rfl⟩ hC2 ?_
  clear hK K
  iterate 1 (refine wpC_step rfl rfl rfl rfl hC2 ?_; apply Exists.intro; refine ⟨fun w' hw' K hK => ?_, ?_⟩; (obtain ⟨f0, f1, f2, f3⟩ := hcell w' hw'; go_step; exact hK))
  refine wpC_nil ?_
  have e1 : withT w1.heap.size (.node q y m b c) (withT w.drew.heap.size (.node p x n a (.node q y m b c)) a b) c = .node (w.heap.size + 1) y m (.node w.heap.size x n a b) c := by rw [hs1]; rfl
  rw [e1] at h2' ⊢
  go_wp2
  go_ret
  exact ⟨rfl, h2', hC2, by rw [hs2, hs1]⟩
end Go.Proofs.Ytegkjnibkilbpaa
