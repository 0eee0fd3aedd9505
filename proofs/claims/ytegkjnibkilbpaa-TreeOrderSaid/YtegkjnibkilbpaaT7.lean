import Derived.Test.YtegkjnibkilbpaaT6
namespace Go.Proofs.Ytegkjnibkilbpaa
open Go.RowKit

def T.isNil : T → Bool
  | .nil => true
  | .node _ _ _ _ _ => false

def T.top : T → List UInt8
  | .nil => []
  | .node _ x _ _ _ => x

def dropT (H : Nat) : List UInt8 → T → T × Nat
  | _, .nil => (.nil, H)
  | x, .node _ y m l r =>
    if Op.bytesLess x y then evenT ((dropT H x l).2 + 1) (.node (dropT H x l).2 y m (dropT H x l).1 r)
    else if x == y then
      if l.isNil then (r, H) else if r.isNil then (l, H) else
        evenT ((dropT H (firstT r).top r).2 + 1) (withT (dropT H (firstT r).top r).2 (firstT r) l (dropT H (firstT r).top r).1)
    else evenT ((dropT H x r).2 + 1) (.node (dropT H x r).2 y m l (dropT H x r).1)

theorem lt_irrefl (x : List UInt8) : Op.bytesLess x x = false := by
  induction x with
  | nil => rfl
  | cons a x ih => simp [Op.bytesLess, ih]

/-- Go's order of strings is the lists' -/
theorem less_dec (x y : List UInt8) : Op.bytesLess x y = decide (x < y) := by
  induction x generalizing y with
  | nil => cases y <;> simp [Op.bytesLess]
  | cons a x ih =>
    cases y with
    | nil => simp [Op.bytesLess]
    | cons b y =>
      rw [Op.bytesLess, ih, Bool.eq_iff_iff]
      simp [List.cons_lt_cons_iff]

theorem withT_cnt (H : Nat) {t : T} (h : t ≠ .nil) (l r : T) : (withT H t l r).cnt = l.cnt + r.cnt + 1 := by
  cases t with
  | nil => exact absurd rfl h
  | node => rfl
theorem withT_ne (H : Nat) {t : T} (h : t ≠ .nil) (l r : T) : withT H t l r ≠ .nil := by
  cases t with
  | nil => exact absurd rfl h
  | node => intro h; cases h
theorem withT_cnt_le (H : Nat) (t l r : T) : (withT H t l r).cnt ≤ l.cnt + r.cnt + 1 := by
  cases t with
  | nil => simp [withT, T.cnt]
  | node => exact Nat.le_refl _

theorem dropT_cnt (H : Nat) : ∀ (t : T) (x : List UInt8), (dropT H x t).1.cnt ≤ t.cnt
  | .nil, x => by simp [dropT, T.cnt]
  | .node p y m l r, x => by
    have h1 := dropT_cnt H l x
    have h2 := dropT_cnt H r x
    have h3 := dropT_cnt H r (firstT r).top
    unfold dropT
    split
    · rw [evenT_cnt]; simp only [T.cnt]; omega
    · split
      · split
        · simp only [T.cnt]; omega
        · split
          · simp only [T.cnt]; omega
          · rw [evenT_cnt]
            have := withT_cnt_le (dropT H (firstT r).top r).2 (firstT r) l (dropT H (firstT r).top r).1
            simp only [T.cnt]; omega
      · rw [evenT_cnt]; simp only [T.cnt]; omega

set_option maxRecDepth 100000 in
set_option maxHeartbeats 400000 in
theorem drop_any : ∀ (t : T) (x : List UInt8) (w : World) (_ : okT w.heap.size w t) (_ : srt t) (_ : x ∈ t.names) (_ : t.cnt < 1099511627776),
    Calls Try.prog 21 #[ptr t, .string ⟨x.toArray⟩] w (TPost (dropT w.heap.size x t).1 (dropT w.heap.size x t).2 w) := by
  intro t
  induction t with
  | nil => intro x w _ _ hm; cases hm
  | node p y m l r ihl ihr =>
    intro x w ht hsrt hmem hc
    have hx := ht
    obtain ⟨h0, h1, _, h3, h4, _, _, hl, hr, _⟩ := ht
    obtain ⟨hsl, hsr, hll, hrr⟩ := hsrt
    have hcn : l.cnt + r.cnt + 1 < 1099511627776 := hc
    have hmem : x ∈ l.names ∨ x = y ∨ x ∈ r.names := by simpa [T.names] using hmem
    clear hc
    have hC0 : Below w.heap.size w w.drew := (Below.refl _ _).drew
    have hcell : ∀ w', Below w.heap.size w w' → w'.cell? ⟨p, 2, none⟩ = some (ptr l) ∧ w'.cell? ⟨p, 3, none⟩ = some (ptr r) := fun w' hw' =>
      ⟨(hw'.cell (p := ⟨p, 2, none⟩) h0).trans h3, (hw'.cell (p := ⟨p, 3, none⟩) h0).trans h4⟩
    have IHL := Lib.hid ihl
    have IHR := Lib.hid ihr
    clear ihl ihr
    show Calls Try.prog 21 #[.pointer (some ⟨p, 0, none⟩), .string ⟨x.toArray⟩] w _
    cases hlt : Op.bytesLess x y with
    | true =>
      have hev : dropT w.heap.size x (.node p y m l r) = evenT ((dropT w.heap.size x l).2 + 1) (.node (dropT w.heap.size x l).2 y m (dropT w.heap.size x l).1 r) := if_pos hlt
      have hml : x ∈ l.names := by
        rcases hmem with h | h | h
        · exact h
        · rw [h, lt_irrefl] at hlt; cases hlt
        · have := hrr _ h
          rw [less_dec] at this hlt
          have h1 := of_decide_eq_true this
          have h2 := of_decide_eq_true hlt
          exact absurd (List.lt_trans h1 h2) (List.lt_irrefl _)
      clear h3 h4 hrr hll hmem
      go_enter Try.func21, Try.ntmps21
      go_wp2_with fail
      refine wp_region_chain [6, 11, 12] (Below w.heap.size w) (by kernel_rfl) (by kernel_rfl) hC0 ?_
      iterate 2 (refine wpC_step rfl rfl rfl rfl hC0 ?_; apply Exists.intro; refine ⟨fun w' hw' K hK => ?_, ?_⟩; (obtain ⟨f0, f1⟩ := hcell w' hw'; go_step; exact hK))
      (refine wpC_nil_check rfl rfl _ rfl ⟨p, 0, none⟩ rfl fun a' ha => ?_; subst ha; simp only [Act.put, List.setIfInBounds_toArray, List.set_cons_succ, List.set_cons_zero])
      iterate 3 (refine wpC_step rfl rfl rfl rfl hC0 ?_; apply Exists.intro; refine ⟨fun w' hw' K hK => ?_, ?_⟩; (obtain ⟨f0, f1⟩ := hcell w' hw'; go_step; exact hK))
      refine wpC_eff rfl rfl fun K hK => ?_
      go_step
      refine (IHL.out x w.drew (okT.below hC0 hl) hsl hml (by omega)).mono ?_
      rintro e w1 ⟨rfl, h1', hB1, hs1⟩
      have hC1 : Below w.heap.size w w1 := hC0.trans hB1
      refine hK _ _ ⟨_, rfl⟩ hC1 ?_
      clear hK K
      iterate 1 (refine wpC_step rfl rfl rfl rfl hC1 ?_; apply Exists.intro; refine ⟨fun w' hw' K hK => ?_, ?_⟩; (obtain ⟨f0, f1⟩ := hcell w' hw'; go_step; exact hK))
      (refine wpC_nil_check rfl rfl _ rfl ⟨p, 0, none⟩ rfl fun a' ha => ?_; subst ha; simp only [Act.put, List.setIfInBounds_toArray, List.set_cons_succ, List.set_cons_zero])
      iterate 2 (refine wpC_step rfl rfl rfl rfl hC1 ?_; apply Exists.intro; refine ⟨fun w' hw' K hK => ?_, ?_⟩; (obtain ⟨f0, f1⟩ := hcell w' hw'; go_step; exact hK))
      refine wpC_eff rfl rfl fun K hK => ?_
      go_step
      have hcp := dropT_cnt w.drew.heap.size l x
      refine (with_any w1 (.node p y m l r) _ r (fun h => by cases h) (okT.mono hC1.size (okT.below hC1 hx)) h1' (okT.mono hC1.size (okT.below hC1 hr)) (by omega)).mono ?_
      rintro e w2 ⟨rfl, h2', hB2, hs2⟩
      have hC2 : Below w.heap.size w w2 := hC1.trans (hB2.mono hC1.size)
      refine hK _ _ ⟨_, rfl⟩ hC2 ?_
      clear hK K
      have e1 : withT w1.heap.size (.node p y m l r) (dropT w.drew.heap.size x l).1 r = .node (dropT w.heap.size x l).2 y m (dropT w.heap.size x l).1 r := by rw [hs1]; rfl
      rw [e1] at h2' ⊢
      refine wpC_eff rfl rfl fun K hK => ?_
      go_step
      refine (even_any w2 _ (fun h => by cases h) h2' (by show (dropT w.heap.size x l).1.cnt + r.cnt + 1 ≤ _; have hcp : (dropT w.heap.size x l).1.cnt ≤ l.cnt := hcp; omega)).mono ?_
      rintro e w3 ⟨rfl, h3', hB3, hs3⟩
      have hC3 : Below w.heap.size w w3 := hC2.trans (hB3.mono hC2.size)
      refine hK _ _ ⟨_, rfl⟩ hC3 ?_
      clear hK K
      have hs2' : w2.heap.size = (dropT w.heap.size x l).2 + 1 := by rw [hs2, hs1]; rfl
      rw [hs2', ← hev] at h3' hs3 ⊢
      iterate 1 (refine wpC_step rfl rfl rfl rfl hC3 ?_; apply Exists.intro; refine ⟨fun w' hw' K hK => ?_, ?_⟩; (obtain ⟨f0, f1⟩ := hcell w' hw'; go_step; exact hK))
      refine wpC_nil ?_
      go_wp2
      go_ret
      exact ⟨rfl, h3', hC3, hs3⟩
    | false =>
      cases heq : x == y with
      | false =>
        have hev : dropT w.heap.size x (.node p y m l r) = evenT ((dropT w.heap.size x r).2 + 1) (.node (dropT w.heap.size x r).2 y m l (dropT w.heap.size x r).1) := (if_neg (by rw [hlt]; simp)).trans (if_neg (by rw [heq]; simp))
        have hmr : x ∈ r.names := by
          rcases hmem with h | h | h
          · have := hll _ h; rw [hlt] at this; cases this
          · rw [h] at heq; simp at heq
          · exact h
        clear h3 h4 hrr hll hmem
        go_enter Try.func21, Try.ntmps21
        go_wp2_with fail
        refine wp_region_chain [10, 11, 12] (Below w.heap.size w) (by kernel_rfl) (by kernel_rfl) hC0 ?_
        iterate 2 (refine wpC_step rfl rfl rfl rfl hC0 ?_; apply Exists.intro; refine ⟨fun w' hw' K hK => ?_, ?_⟩; (obtain ⟨f0, f1⟩ := hcell w' hw'; go_step; exact hK))
        (refine wpC_nil_check rfl rfl _ rfl ⟨p, 0, none⟩ rfl fun a' ha => ?_; subst ha; simp only [Act.put, List.setIfInBounds_toArray, List.set_cons_succ, List.set_cons_zero])
        iterate 3 (refine wpC_step rfl rfl rfl rfl hC0 ?_; apply Exists.intro; refine ⟨fun w' hw' K hK => ?_, ?_⟩; (obtain ⟨f0, f1⟩ := hcell w' hw'; go_step; exact hK))
        (refine wpC_nil_check rfl rfl _ rfl ⟨p, 0, none⟩ rfl fun a' ha => ?_; subst ha; simp only [Act.put, List.setIfInBounds_toArray, List.set_cons_succ, List.set_cons_zero])
        iterate 3 (refine wpC_step rfl rfl rfl rfl hC0 ?_; apply Exists.intro; refine ⟨fun w' hw' K hK => ?_, ?_⟩; (obtain ⟨f0, f1⟩ := hcell w' hw'; go_step; exact hK))
        refine wpC_eff rfl rfl fun K hK => ?_
        go_step
        refine (IHR.out x w.drew (okT.below hC0 hr) hsr hmr (by omega)).mono ?_
        rintro e w1 ⟨rfl, h1', hB1, hs1⟩
        have hC1 : Below w.heap.size w w1 := hC0.trans hB1
        refine hK _ _ ⟨_, rfl⟩ hC1 ?_
        clear hK K
        refine wpC_eff rfl rfl fun K hK => ?_
        go_step
        have hcp := dropT_cnt w.drew.heap.size r x
        refine (with_any w1 (.node p y m l r) l _ (fun h => by cases h) (okT.mono hC1.size (okT.below hC1 hx)) (okT.mono hC1.size (okT.below hC1 hl)) h1' (by omega)).mono ?_
        rintro e w2 ⟨rfl, h2', hB2, hs2⟩
        have hC2 : Below w.heap.size w w2 := hC1.trans (hB2.mono hC1.size)
        refine hK _ _ ⟨_, rfl⟩ hC2 ?_
        clear hK K
        have e1 : withT w1.heap.size (.node p y m l r) l (dropT w.drew.heap.size x r).1 = .node (dropT w.heap.size x r).2 y m l (dropT w.heap.size x r).1 := by rw [hs1]; rfl
        rw [e1] at h2' ⊢
        refine wpC_eff rfl rfl fun K hK => ?_
        go_step
        refine (even_any w2 _ (fun h => by cases h) h2' (by show l.cnt + (dropT w.heap.size x r).1.cnt + 1 ≤ _; have hcp : (dropT w.heap.size x r).1.cnt ≤ r.cnt := hcp; omega)).mono ?_
        rintro e w3 ⟨rfl, h3', hB3, hs3⟩
        have hC3 : Below w.heap.size w w3 := hC2.trans (hB3.mono hC2.size)
        refine hK _ _ ⟨_, rfl⟩ hC3 ?_
        clear hK K
        have hs2' : w2.heap.size = (dropT w.heap.size x r).2 + 1 := by rw [hs2, hs1]; rfl
        rw [hs2', ← hev] at h3' hs3 ⊢
        iterate 1 (refine wpC_step rfl rfl rfl rfl hC3 ?_; apply Exists.intro; refine ⟨fun w' hw' K hK => ?_, ?_⟩; (obtain ⟨f0, f1⟩ := hcell w' hw'; go_step; exact hK))
        refine wpC_nil ?_
        go_wp2
        go_ret
        exact ⟨rfl, h3', hC3, hs3⟩
      | true =>
        obtain rfl : x = y := by simpa using heq
        cases l with
        | nil =>
          have hev : dropT w.heap.size x (.node p x m .nil r) = (r, w.heap.size) := (if_neg (by rw [hlt]; simp)).trans ((if_pos heq).trans (if_pos rfl))
          rw [ptr, adr] at h3
          clear hrr hll hmem hcell
          go_enter Try.func21, Try.ntmps21
          go_wp2
          go_ret
          rw [hev]
          exact ⟨rfl, hr, Below.refl _ _, rfl⟩
        | node q2 x2 m2 l2 r2 =>
          cases r with
          | nil =>
            have hev : dropT w.heap.size x (.node p x m (.node q2 x2 m2 l2 r2) .nil) = (.node q2 x2 m2 l2 r2, w.heap.size) := (if_neg (by rw [hlt]; simp)).trans ((if_pos heq).trans ((if_neg (by simp [T.isNil])).trans (if_pos rfl)))
            have h3 : w.cell? ⟨p, 2, none⟩ = some (.pointer (some ⟨q2, 0, none⟩)) := h3
            have h4 : w.cell? ⟨p, 3, none⟩ = some (.pointer none) := h4
            clear hrr hll hmem hcell
            go_enter Try.func21, Try.ntmps21
            go_wp2
            go_ret
            rw [hev]
            exact ⟨rfl, hl, Below.refl _ _, rfl⟩
          | node q3 x3 m3 l3 r3 =>
            have hrne : T.node q3 x3 m3 l3 r3 ≠ .nil := fun h => by cases h
            obtain ⟨q, z, k, c, hf⟩ := firstT_node _ hrne
            have hzm := firstT_mem _ hrne _ _ _ _ _ hf
            have hfo := firstT_ok hr
            have hfo' := hfo
            rw [hf] at hfo'
            obtain ⟨g0, g1, _⟩ := hfo'
            have hev : dropT w.heap.size x (.node p x m (.node q2 x2 m2 l2 r2) (.node q3 x3 m3 l3 r3)) = evenT ((dropT w.heap.size z (.node q3 x3 m3 l3 r3)).2 + 1) (.node (dropT w.heap.size z (.node q3 x3 m3 l3 r3)).2 z k (.node q2 x2 m2 l2 r2) (dropT w.heap.size z (.node q3 x3 m3 l3 r3)).1) := by
              refine (if_neg (by rw [hlt]; simp)).trans ((if_pos heq).trans ((if_neg (by simp [T.isNil])).trans ((if_neg (by simp [T.isNil])).trans ?_)))
              rw [hf]; rfl
            have hcell2 : ∀ w', Below w.heap.size w w' → w'.cell? ⟨p, 2, none⟩ = some (ptr (.node q2 x2 m2 l2 r2)) ∧ w'.cell? ⟨p, 3, none⟩ = some (ptr (.node q3 x3 m3 l3 r3)) ∧ w'.cell? ⟨q, 0, none⟩ = some (.string ⟨z.toArray⟩) := fun w' hw' =>
              ⟨(hcell w' hw').1, (hcell w' hw').2, (hw'.cell (p := ⟨q, 0, none⟩) g0).trans g1⟩
            generalize hL : T.node q2 x2 m2 l2 r2 = L at *
            generalize hR : T.node q3 x3 m3 l3 r3 = R at *
            have hln : ∃ ad, adr L = some ad := by rw [← hL]; exact ⟨_, rfl⟩
            have hrn : ∃ ad, adr R = some ad := by rw [← hR]; exact ⟨_, rfl⟩
            obtain ⟨adl, hadl⟩ := hln
            obtain ⟨adr', hadr⟩ := hrn
            have hfp : ptr (firstT R) = .pointer (some ⟨q, 0, none⟩) := by rw [hf]; rfl
            have h3' : w.cell? ⟨p, 2, none⟩ = some (.pointer (some adl)) := by rw [h3, ptr, hadl]
            have h4' : w.cell? ⟨p, 3, none⟩ = some (.pointer (some adr')) := by rw [h4, ptr, hadr]
            clear hrr hll hmem hL hcell h3 h4
            go_enter Try.func21, Try.ntmps21
            go_wp2_with fail
            have hcall := first_any w _ R hrne hr
            simp only [ptr, hadr] at hcall
            refine hcall.mono ?_
            rintro e w1 ⟨rfl, rfl⟩
            rw [hf, adr]
            clear h3' h4' hcall hadl hadr
            go_wp2_with fail
            refine wp_region_chain [13, 14, 15] (Below w.heap.size w) (by kernel_rfl) (by kernel_rfl) hC0 ?_
            iterate 2 (refine wpC_step rfl rfl rfl rfl hC0 ?_; apply Exists.intro; refine ⟨fun w' hw' K hK => ?_, ?_⟩; (obtain ⟨f0, f1, f2⟩ := hcell2 w' hw'; go_step; exact hK))
            (refine wpC_nil_check rfl rfl _ rfl ⟨p, 0, none⟩ rfl fun a' ha => ?_; subst ha; simp only [Act.put, List.setIfInBounds_toArray, List.set_cons_succ, List.set_cons_zero])
            iterate 3 (refine wpC_step rfl rfl rfl rfl hC0 ?_; apply Exists.intro; refine ⟨fun w' hw' K hK => ?_, ?_⟩; (obtain ⟨f0, f1, f2⟩ := hcell2 w' hw'; go_step; exact hK))
            (refine wpC_nil_check rfl rfl _ rfl ⟨p, 0, none⟩ rfl fun a' ha => ?_; subst ha; simp only [Act.put, List.setIfInBounds_toArray, List.set_cons_succ, List.set_cons_zero])
            iterate 3 (refine wpC_step rfl rfl rfl rfl hC0 ?_; apply Exists.intro; refine ⟨fun w' hw' K hK => ?_, ?_⟩; (obtain ⟨f0, f1, f2⟩ := hcell2 w' hw'; go_step; exact hK))
            (refine wpC_nil_check rfl rfl _ rfl ⟨q, 0, none⟩ rfl fun a' ha => ?_; subst ha; simp only [Act.put, List.setIfInBounds_toArray, List.set_cons_succ, List.set_cons_zero])
            iterate 2 (refine wpC_step rfl rfl rfl rfl hC0 ?_; apply Exists.intro; refine ⟨fun w' hw' K hK => ?_, ?_⟩; (obtain ⟨f0, f1, f2⟩ := hcell2 w' hw'; go_step; exact hK))
            refine wpC_eff rfl rfl fun K hK => ?_
            go_step
            have hcc : R.cnt < 1099511627776 := by omega
            have hcal := IHR.out z w.drew (okT.below hC0 hr) hsr hzm hcc
            refine hcal.mono ?_
            rintro e w1 ⟨rfl, h1', hB1, hs1⟩
            have hC1 : Below w.heap.size w w1 := hC0.trans hB1
            refine hK _ _ ⟨_, rfl⟩ hC1 ?_
            clear hK K
            rw [hf] at hfo
            refine wpC_eff rfl rfl fun K hK => ?_
            go_step
            have hcp := dropT_cnt w.drew.heap.size R z
            refine (with_any w1 (.node q z k .nil c) L _ (fun h => by cases h) (okT.mono hC1.size (okT.below hC1 hfo)) (okT.mono hC1.size (okT.below hC1 hl)) h1' (by omega)).mono ?_
            rintro e w2 ⟨rfl, h2', hB2, hs2⟩
            have hC2 : Below w.heap.size w w2 := hC1.trans (hB2.mono hC1.size)
            refine hK _ _ ⟨_, rfl⟩ hC2 ?_
            clear hK K
            have e1 : withT w1.heap.size (.node q z k .nil c) L (dropT w.drew.heap.size z R).1 = .node (dropT w.heap.size z R).2 z k L (dropT w.heap.size z R).1 := by rw [hs1]; rfl
            rw [e1] at h2' ⊢
            refine wpC_eff rfl rfl fun K hK => ?_
            go_step
            refine (even_any w2 _ (fun h => by cases h) h2' (by show L.cnt + (dropT w.heap.size z R).1.cnt + 1 ≤ _; have hcp : (dropT w.heap.size z R).1.cnt ≤ R.cnt := hcp; omega)).mono ?_
            rintro e w3 ⟨rfl, h3', hB3, hs3⟩
            have hC3 : Below w.heap.size w w3 := hC2.trans (hB3.mono hC2.size)
            refine hK _ _ ⟨_, rfl⟩ hC3 ?_
            clear hK K
            have hs2' : w2.heap.size = (dropT w.heap.size z R).2 + 1 := by rw [hs2, hs1]; rfl
            rw [hs2', ← hev] at h3' hs3 ⊢
            iterate 1 (refine wpC_step rfl rfl rfl rfl hC3 ?_; apply Exists.intro; refine ⟨fun w' hw' K hK => ?_, ?_⟩; (obtain ⟨f0, f1, f2⟩ := hcell2 w' hw'; go_step; exact hK))
            refine wpC_nil ?_
            go_wp2
            go_ret
            exact ⟨rfl, h3', hC3, hs3⟩
end Go.Proofs.Ytegkjnibkilbpaa
