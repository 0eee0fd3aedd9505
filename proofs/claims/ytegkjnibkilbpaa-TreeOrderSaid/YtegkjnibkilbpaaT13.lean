import Derived.Test.YtegkjnibkilbpaaT12
import Derived.RangeFuncBox
namespace Go.Proofs.Ytegkjnibkilbpaa
open Go.RowKit Go.Shelf
attribute [local go_sem] Oper.semAt_some

theorem Try.infoS : (Try.prog.info? 9).map (fun i => (i.zero, i.size, i.bytes)) = some (some (.string ⟨#[]⟩), 1, 16) := by kernel_rfl

def strs (ys : List (List UInt8)) : List Value := ys.map fun y => .string ⟨y.toArray⟩

/-- what collects -/
def Col (H : Nat) (most : Int) (w : World) (pre : List (List UInt8)) (W : World) : Prop :=
  (∃ v, Boxed W (H + 1) 35 v ∧ W.ownsRow H 9 1 v pre.length (strs pre) ∧ True) ∧ Boxed W H 3 (.int .i64 most) ∧ Below H w W

theorem Col.own (H : Nat) (most : Int) (w : World) (hw : H = w.heap.size) (B : Nat) (hB : H ≤ B) : OwnFrom B (Col H most w) :=
  OwnFrom.and (Own.from (holdsRow_own H (H + 1) 35 9 1 (fun pre => pre.length) strs (fun _ _ => True)) _) (OwnFrom.and (Own.from (boxed_own _ _ _) _) (ownFrom_below (by omega) hB))

def FromPost (ys : List (List UInt8)) (w : World) (e : Ending) (w' : World) : Prop :=
  ∃ v, e = .returned v ∧ w'.ownsRow w.heap.size 9 1 v ys.length (strs ys) ∧ Below w.heap.size w w'

theorem fromT_len (s : List UInt8) : ∀ t : T, (fromT s t).length ≤ t.cnt
  | .nil => Nat.le_refl _
  | .node _ y _ l r => by
    have := fromT_len s l; have := fromT_len s r
    rw [fromT]; split <;> simp [T.cnt] <;> omega

theorem take_pre {all pre : List (List UInt8)} {x : List UInt8} {most : Int} (h : pre ++ [x] <+: all) (h1 : most ≤ pre.length) (h2 : pre.length ≤ most.toNat) : all.take most.toNat = pre := by
  obtain ⟨r, rfl⟩ := h
  have : most.toNat = pre.length := by omega
  rw [this, List.append_assoc, List.take_left']
  rfl

set_option maxRecDepth 100000 in
set_option maxHeartbeats 2000000 in
theorem From_in (F : Fence) (hd : F.depth = none) (n : Nat) (h1 : 1 ≤ n) (h17 : F.fn 17) (h25 : F.fn 25) (h30 : F.fn 30) (h31 : F.fn 31) (hro : F.round = none) (b : Nat) (s : List UInt8) (most : Int) (t : T) (w : World) (hT : okR w.heap.size w b t) (hc : t.cnt < 1099511627776) :
    CallsIn F n Try.prog 17 #[rad b, .string ⟨s.toArray⟩, .int .i64 most] w (FromPost ((fromT s t).take most.toNat) w) := by
  have hdd : ∀ k : Nat, (F.depth.isSome = true → 1 ≤ k) := fun k h => by rw [hd] at h; cases h
  obtain ⟨i0, hi, hz0, hz1, hz2⟩ := info_parts Try.infoS
  have hfl := fromT_len s t
  refine callsIn_of_wp_marks Try.func17 rfl h17 ?_ hro
  simp only [Try.ntmps17, List.size_toArray, List.length_cons, List.length_nil, Nat.reduceAdd, Nat.reduceSub, Array.replicate_succ, Array.replicate_zero, List.push_toArray, List.append_toArray, List.nil_append, List.cons_append]
  unfold rad
  gi_wp2_with ((try refine ⟨hdd _, ?_⟩); gi_at_call 25; refine (from_in F (n - 1) h25 hro b s _).mono ?_; rintro e w' ⟨rfl, rfl⟩)
  have hB0 : Below w.heap.size w ((((w.alloc (Obj.cells #[Value.int IntKind.i64 most] 3)).alloc (Obj.cells #[Value.slice none 0 0] 35)).alloc (Obj.cells #[rad b] 27)).alloc (Obj.cells #[Value.string { data := s.toArray }] 9)) :=
    ((((Below.refl _ w).alloc (Nat.le_refl _) _).alloc (by simp) _).alloc (by simp; omega) _).alloc (by simp; omega) _
  have bM := (((Boxed.new w 3 (.int .i64 most)).alloc (Obj.cells #[Value.slice none 0 0] 35)).alloc (Obj.cells #[rad b] 27)).alloc (Obj.cells #[Value.string { data := s.toArray }] 9)
  have bO := ((Boxed.new (w.alloc (Obj.cells #[Value.int IntKind.i64 most] 3)) 35 (Value.slice none 0 0)).alloc (Obj.cells #[rad b] 27)).alloc (Obj.cells #[Value.string { data := s.toArray }] 9)
  have bT := (Boxed.new ((w.alloc (Obj.cells #[Value.int IntKind.i64 most] 3)).alloc (Obj.cells #[Value.slice none 0 0] 35)) 27 (rad b)).alloc (Obj.cells #[Value.string { data := s.toArray }] 9)
  have bS := Boxed.new (((w.alloc (Obj.cells #[Value.int IntKind.i64 most] 3)).alloc (Obj.cells #[Value.slice none 0 0] 35)).alloc (Obj.cells #[rad b] 27)) 9 (Value.string { data := s.toArray })
  simp only [World.size_alloc] at bO bT bS
  have hsz : ((((w.alloc (Obj.cells #[Value.int IntKind.i64 most] 3)).alloc (Obj.cells #[Value.slice none 0 0] 35)).alloc (Obj.cells #[rad b] 27)).alloc (Obj.cells #[Value.string { data := s.toArray }] 9)).heap.size = w.heap.size + 4 := by simp
  generalize ((((w.alloc (Obj.cells #[Value.int IntKind.i64 most] 3)).alloc (Obj.cells #[Value.slice none 0 0] 35)).alloc (Obj.cells #[rad b] 27)).alloc (Obj.cells #[Value.string { data := s.toArray }] 9)) = w4 at *
  have hT4 : okR w.heap.size w4 b t := okR.below hB0 hT
  refine range_texts (brk := 0) (n₀ := w.heap.size) (N := (fromT s t).length) hro h1 (gf := 30) (lb := #[.pointer (some ⟨w.heap.size + 1 + 1, 0, none⟩), .pointer (some ⟨w.heap.size + 1 + 1 + 1, 0, none⟩)]) rfl h30 (enters_of Try.func30 (by kernel_rfl) rfl)
    (fromT s t) rfl ?seq (by omega) (fun pre W => Col w.heap.size most w pre W ∧ pre.length ≤ most.toNat) (fun q W => ∃ pre x, q = pre ++ [x] ∧ Col w.heap.size most w pre W ∧ most ≤ pre.length ∧ pre.length ≤ most.toNat)
    (OwnFrom.and (Col.own _ _ _ rfl _ (by omega)) (ownFrom_pure _ _)) ?ix ?drew ⟨⟨⟨_, bO, World.ownsRow_nil _ _ _ _, trivial⟩, bM, hB0⟩, Nat.zero_le _⟩
    (fun x => { tmps := #[rad b, Value.string { data := s.toArray }, Value.int IntKind.i64 most, undef, undef, Value.pointer (some { block := w.heap.size, off := 0 }), Value.slice none 0 0,
          Value.pointer (some { block := w.heap.size + 1, off := 0 }), .string ⟨x.toArray⟩, rad b, Value.string { data := s.toArray },
          Value.func (Fn.func 30) #[] #[Value.pointer (some { block := w.heap.size + 1 + 1, off := 0 }), Value.pointer (some { block := w.heap.size + 1 + 1 + 1, off := 0 })],
          .string ⟨x.toArray⟩, undef, undef, undef, undef, undef, undef, undef, undef, undef], defers := [] }) ?assign ?body ?done ?stop
  case seq =>
    intro l J Jx W hW hY hJ
    exact from1_in F hd (n - 1) h30 h31 hro l _ _ b w.heap.size s t J Jx hY W ((hW.cell (p := ⟨w.heap.size + 1 + 1, 0, none⟩) (by simp only []; omega)).trans bT.cell) ((hW.cell (p := ⟨w.heap.size + 1 + 1 + 1, 0, none⟩) (by simp only []; omega)).trans bS.cell) (okR.below (hW.mono (by omega)) hT4) hJ
  case ix =>
    rintro q A B row ⟨pre, x, rfl, hC, h1, h2⟩ hg hr
    exact ⟨pre, x, rfl, Col.own _ _ _ rfl _ (by omega) _ A B row hC hg hr, h1, h2⟩
  case drew =>
    rintro pre W ⟨⟨⟨v, hv, hrow, _⟩, hm, hB⟩, hl⟩
    exact ⟨⟨⟨v, hv, hrow.drew, trivial⟩, hm, hB.drew⟩, hl⟩
  case assign =>
    intro l x W K hK
    gi_wp2
    exact hK
  case body =>
    rintro l pre x W ⟨⟨⟨v, hv, hrow, _⟩, hm, hB⟩, hl⟩ hlt
    have hc1 := hv.cell
    have hm1 := hm.cell
    have hown := hrow
    obtain ⟨a', cap', rfl⟩ : ∃ a' cap', v = .slice a' pre.length cap' := by
      rcases hown.2 with ⟨rfl, h0⟩ | ⟨g, cap, _, rfl, _⟩
      · exact ⟨none, 0, by rw [h0]⟩
      · exact ⟨_, _, rfl⟩
    by_cases hge : most ≤ pre.length
    · gi_wp2
      exact ⟨KeepsOthers.refl _, ⟨⟨_, hv, hrow, trivial⟩, hm, hB⟩⟩
    · gi_wp2_with (gi_at_builtin; refine wpListIn_append_own _ rfl _ _ 35 rfl w.heap.size 9 i0 (.string ⟨#[]⟩) 1 16 Try.underlying35 hi hz0 hz1 hz2 rfl (by decide) _ _ _ rfl (hrow.alloc _) ⟨W.heap.size, 0, none⟩ 1 1 [.string ⟨x.toArray⟩] rfl rfl (cell_one_new _ _ _) (by simp [Value.oneCell']) (by unfold maxLen; omega) (by omega) (by have := hB.size; simp; omega) ?_; intro v' w1 hown' hgrow _; obtain ⟨g', cap', rfl⟩ := ownsRow_succ hown'; obtain ⟨hv1, hv2, hr2, hk2, hb2⟩ := hv.appended (by decide) hrow hB.size (by omega) hown' hgrow; have hc1 := hv1.cell; have hf1 := hv1.frozen)
      refine ⟨⟨⟨_, hv2, ?_, trivial⟩, ?_, hB.trans hb2⟩, by omega⟩
      · simpa [strs] using hr2
      · exact ((hm.alloc _).kept hgrow (hm.not_row (by decide) hrow)).other (by omega) _
  case done =>
    rintro D W hD ⟨⟨⟨v, hv, hrow, _⟩, hm, hB⟩, hl⟩ hK
    have hc := hv.cell
    gi_wp2
    refine ⟨by simp, .inl ⟨_, _, rfl, run_takeDeferred hK, ?_⟩⟩
    refine ⟨_, results_tmp rfl _ _ _, v, rfl, ?_, hB.trans (belowK_b (w := w) (Nat.le_refl _) W D _ _ (by omega) hK rfl rfl)⟩
    rw [List.take_of_length_le hl]
    exact ownsRow_putObj hrow _ hK rfl
  case stop =>
    rintro D q W hD hq ⟨pre, x, rfl, ⟨⟨v, hv, hrow, _⟩, hm, hB⟩, hge, hl⟩ hK
    have hc := hv.cell
    have htk := take_pre hq hge hl
    have HTK := Lib.hid htk
    clear htk hq
    gi_wp2
    refine ⟨by simp, .inl ⟨_, _, rfl, run_takeDeferred hK, ?_⟩⟩
    refine ⟨_, results_tmp rfl _ _ _, v, rfl, ?_, hB.trans (belowK_b (w := w) (Nat.le_refl _) W D _ _ (by omega) hK rfl rfl)⟩
    rw [HTK.out]
    exact ownsRow_putObj hrow _ hK rfl

theorem From_any (w : World) (b : Nat) (s : List UInt8) (most : Int) (t : T) (hT : okR w.heap.size w b t) (hc : t.cnt < 1099511627776) :
    Calls Try.prog 17 #[rad b, .string ⟨s.toArray⟩, .int .i64 most] w (FromPost ((fromT s t).take most.toNat) w) :=
  (callsIn_wide (n := 3)).1 (From_in _ rfl 3 (by omega) trivial trivial trivial trivial rfl b s most t w hT hc)
end Go.Proofs.Ytegkjnibkilbpaa
