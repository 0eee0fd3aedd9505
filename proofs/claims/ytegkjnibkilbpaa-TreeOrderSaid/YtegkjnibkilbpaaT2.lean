import Derived.Test.YtegkjnibkilbpaaT1
namespace Go.Proofs.Ytegkjnibkilbpaa
open Go.RowKit

theorem okT.new {w : World} {x : List UInt8} {n : Int} {l r : T} {d c : Int} (hl : okT w.heap.size w l) (hr : okT w.heap.size w r) (hd : d = ((T.node w.heap.size x n l r).dep : Nat)) (hc : c = ((T.node w.heap.size x n l r).cnt : Nat)) :
    okT (w.alloc (.cells #[.string ⟨x.toArray⟩, .int .i64 n, ptr l, ptr r, .int .i64 d, .int .i64 c] 50)).heap.size (w.alloc (.cells #[.string ⟨x.toArray⟩, .int .i64 n, ptr l, ptr r, .int .i64 d, .int .i64 c] 50)) (.node w.heap.size x n l r) := by
  have hB : Below w.heap.size w (w.alloc (.cells #[.string ⟨x.toArray⟩, .int .i64 n, ptr l, ptr r, .int .i64 d, .int .i64 c] 50)) := (Below.refl _ _).alloc (Nat.le_refl _) _
  subst hd hc
  refine ⟨by simp, ?_, ?_, ?_, ?_, ?_, ?_, hl.step hB, hr.step hB, _, _, heap_alloc_new w _⟩
  all_goals
    rw [World.cell?_alloc_at _ _ _ _ rfl]
    rfl

set_option maxRecDepth 100000 in
theorem join_any (w : World) (x : List UInt8) (n : Int) (l r : T) (hl : okT w.heap.size w l) (hr : okT w.heap.size w r) (hc : l.cnt + r.cnt ≤ 1099511627776) :
    Calls Try.prog 26 #[.string ⟨x.toArray⟩, .int .i64 n, ptr l, ptr r] w (TPost (.node w.heap.size x n l r) (w.heap.size + 1) w) := by
  have hdl := l.dep_le
  have hdr := r.dep_le
  have hd : (T.node w.heap.size x n l r).dep = max l.dep r.dep + 1 := rfl
  have hn : (T.node w.heap.size x n l r).cnt = l.cnt + r.cnt + 1 := rfl
  have HD := Lib.hid hd
  have HN := Lib.hid hn
  clear hd hn
  go_enter Try.func26, Try.ntmps26
  go_wp2_with fail
  refine (deep_any w _ l hl).mono ?_
  rintro e w1 ⟨rfl, rfl⟩
  go_wp2_with fail
  refine (deep_any w _ r hr).mono ?_
  rintro e w1 ⟨rfl, rfl⟩
  go_wp2_with fail
  all_goals
    refine (count_any w _ l hl).mono ?_
    rintro e w1 ⟨rfl, rfl⟩
    go_wp2_with fail
    refine (count_any w _ r hr).mono ?_
    rintro e w1 ⟨rfl, rfl⟩
    go_wp2
    go_ret
    refine ⟨rfl, ?_, (Below.refl _ _).alloc (Nat.le_refl _) _, by simp⟩
    refine okT.new hl hr ?_ ?_
    · rw [HD.out]; omega
    · rw [HN.out]; omega

/-- with: the parts are others -/
def withT (H : Nat) : T → T → T → T
  | .nil, _, _ => .nil
  | .node _ x n _ _, l, r => .node H x n l r

set_option maxRecDepth 100000 in
theorem with_any (w : World) (t l r : T) (hne : t ≠ .nil) (ht : okT w.heap.size w t) (hl : okT w.heap.size w l) (hr : okT w.heap.size w r) (hc : l.cnt + r.cnt ≤ 1099511627776) :
    Calls Try.prog 27 #[ptr t, ptr l, ptr r] w (TPost (withT w.heap.size t l r) (w.heap.size + 1) w) := by
  cases t with
  | nil => exact absurd rfl hne
  | node p x n a b =>
    obtain ⟨h0, h1, h2, h3, h4, h5, h6, h7, h8, _⟩ := ht
    clear h3 h4 h5 h6 h7 h8 hne
    show Calls Try.prog 27 #[.pointer (some ⟨p, 0, none⟩), ptr l, ptr r] w (TPost (.node w.heap.size x n l r) (w.heap.size + 1) w)
    go_enter Try.func27, Try.ntmps27
    go_wp2_with fail
    have hC0 : Below w.heap.size w w.drew := (Below.refl _ _).drew
    refine wp_region_chain [10] (Below w.heap.size w) (by kernel_rfl) (by kernel_rfl) hC0 ?_
    (refine wpC_step rfl rfl rfl rfl hC0 ?_; apply Exists.intro; refine ⟨fun w' hw' K hK => ?_, ?_⟩; (have f0 := (hw'.cell (p := ⟨p, 0, none⟩) h0).trans h1; have f1 := (hw'.cell (p := ⟨p, 1, none⟩) h0).trans h2; go_step; exact hK))
    (refine wpC_nil_check rfl rfl _ rfl ⟨p, 0, none⟩ rfl fun a' ha => ?_; subst ha; simp only [Act.put, List.setIfInBounds_toArray, List.set_cons_succ, List.set_cons_zero])
    iterate 3 (refine wpC_step rfl rfl rfl rfl hC0 ?_; apply Exists.intro; refine ⟨fun w' hw' K hK => ?_, ?_⟩; (have f0 := (hw'.cell (p := ⟨p, 0, none⟩) h0).trans h1; have f1 := (hw'.cell (p := ⟨p, 1, none⟩) h0).trans h2; go_step; exact hK))
    (refine wpC_nil_check rfl rfl _ rfl ⟨p, 0, none⟩ rfl fun a' ha => ?_; subst ha; simp only [Act.put, List.setIfInBounds_toArray, List.set_cons_succ, List.set_cons_zero])
    iterate 4 (refine wpC_step rfl rfl rfl rfl hC0 ?_; apply Exists.intro; refine ⟨fun w' hw' K hK => ?_, ?_⟩; (have f0 := (hw'.cell (p := ⟨p, 0, none⟩) h0).trans h1; have f1 := (hw'.cell (p := ⟨p, 1, none⟩) h0).trans h2; go_step; exact hK))
    refine wpC_eff rfl rfl fun K hK => ?_
    go_step
    refine (join_any w.drew x n l r (okT.below hC0 hl) (okT.below hC0 hr) hc).mono ?_
    rintro e w1 ⟨rfl, h1', hB1, hs1⟩
    have hC1 : Below w.heap.size w w1 := hC0.trans hB1
    refine hK _ _ ⟨_, rfl⟩ hC1 ?_
    clear hK K
    (refine wpC_step rfl rfl rfl rfl hC1 ?_; apply Exists.intro; refine ⟨fun w' hw' K hK => ?_, ?_⟩; (have f0 := (hw'.cell (p := ⟨p, 0, none⟩) h0).trans h1; have f1 := (hw'.cell (p := ⟨p, 1, none⟩) h0).trans h2; go_step; exact hK))
    refine wpC_nil ?_
    go_wp2
    go_ret
    exact ⟨rfl, h1', hC1, hs1⟩
end Go.Proofs.Ytegkjnibkilbpaa
