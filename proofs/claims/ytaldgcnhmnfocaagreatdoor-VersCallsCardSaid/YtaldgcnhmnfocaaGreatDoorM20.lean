/-
  Texts put together: Q7, Q8, Q9, Q10, Q11, F8. No condition.
-/
import Derived.Test.YtaldgcnhmnfocaaGreatDoorM19
import Derived.Test.YtaldgcnhmnfocaaGreatDoorM18
import Derived.Test.YtaldgcnhmnfocaaGreatDoorM12
import Derived.Test.YtaldgcnhmnfocaaGreatDoorM8
/-
  Stores of versions: New, Push, Sweep. No condition.
-/
namespace Go.Proofs.YtaldgcnhmnfocaaGreatDoor
open Go.RowKit

theorem vAt_new {vs : List Vn} {n : Int} (h : ∀ v ∈ vs, n ≠ (v.n : Int)) : vAt vs n = none := List.find?_eq_none.2 fun v hv => by simpa using h v hv
theorem mpPut_new {vs : List Vn} {n : Nat} (h : ∀ v ∈ vs, ((n : Nat) : Int) ≠ (v.n : Int)) (clk b : Nat) (t : Tre) (l : List En) : mpPut (.i (n : Nat)) (.ptr b 0) (vEs vs) clk = (vEs (vs ++ [⟨clk, n, b, t, l, 0⟩]), clk + 1) := by
  unfold mpPut
  rw [mpFind_vs, vAt_new h]
  unfold vEs
  rw [List.map_append]
  rfl
theorem mpDel_mid {a b : List Vn} {v : Vn} (h : ∀ u ∈ a, (v.n : Int) ≠ (u.n : Int)) : mpDel (.i (v.n : Nat)) (vEs (a ++ v :: b)) = vEs (a ++ b) := by
  induction a with
  | nil =>
    show (bif decide ((v.n : Int) = (v.n : Int)) then vEs b else _) = vEs b
    rw [decide_eq_true rfl]
    rfl
  | cons u a ih =>
    show (bif decide ((v.n : Int) = (u.n : Int)) then vEs (a ++ v :: b) else vE u :: mpDel (.i (v.n : Nat)) (vEs (a ++ v :: b))) = vEs (u :: (a ++ b))
    rw [decide_eq_false (h u (by simp)), ih fun x hx => h x (List.mem_cons_of_mem _ hx)]
    rfl
theorem rem_sub {p : Nat × AObj} {H R : Heap} (h : H.Perm (p :: R)) : ∃ H' : Heap, H'.Sublist H ∧ H'.Perm R := by
  have hm : p ∈ H := h.mem_iff.2 List.mem_cons_self
  obtain ⟨A, B, rfl⟩ := List.append_of_mem hm
  exact ⟨A ++ B, (List.sublist_cons_self _ _).append_left _, (List.perm_middle.symm.trans h).cons_inv⟩
/-- a store of one version -/
def newS (bs bm b : Nat) (most last : Int) (t : Tre) (l : List En) : Sto := ⟨bs, bm, most, last, 0, [⟨0, 0, b, t, l, 0⟩], 1⟩
theorem newS_ok (bs bm b : Nat) (most last : Int) (t : Tre) (l : List En) : (newS bs bm b most last t l).Ok :=
  ⟨⟨List.pairwise_singleton _ _, List.pairwise_singleton _ _, fun v hv => by
    rw [show v = ⟨0, 0, b, t, l, 0⟩ from List.mem_singleton.1 hv]
    exact Nat.lt_succ_self 0⟩, ⟨[], _, rfl, rfl⟩, by show 1 ≤ 100000; omega, by show 0 ≤ 2000000; omega⟩
set_option maxRecDepth 100000 in
theorem verNew_con (t : Tre) (l : List En) (most last : Int) {H : Heap} {Q : AV → Heap → Prop} (h0 : (most < 1 ∨ 64 < most ∨ last < 0 ∨ 1099511627776 < last) → Q (.tup [.v (.pointer none), .i 12]) H)
    (h1 : 1 ≤ most → most ≤ 64 → 0 ≤ last → last ≤ 1099511627776 → ∀ bs bm b H', HasSt (newS bs bm b most last t l) H H' → Q (.tup [.ptr bs 0, .i 0]) H') : Con Tryz.prog 12 [envX t l, .i most, .i last] H Q := by
  refine con_of_awp (esc := ([27,30].contains ·)) tab_ok mixed Tryz.func12 rfl (ent Tryz.func12 (by kernel_rfl) rfl) (by kernel_rfl) ?_
  intro hw hn
  clear hw hn
  refine ifB_dec (fun g1 => ?_) (fun g1 => ?_)
  · exact ⟨_, H, Le.refl _, List.Sublist.refl _, h0 (Or.inl g1)⟩
  · refine ifB_dec (fun g2 => ?_) (fun g2 => ?_)
    · exact ⟨_, H, Le.refl _, List.Sublist.refl _, h0 (Or.inr (Or.inl (by omega)))⟩
    · refine ifB_dec (fun g3 => ?_) (fun g3 => ?_)
      · exact ⟨_, H, Le.refl _, List.Sublist.refl _, h0 (Or.inr (Or.inr (Or.inl g3)))⟩
      · refine ifB_dec (fun g4 => ?_) (fun g4 => ?_)
        · exact ⟨_, H, Le.refl _, List.Sublist.refl _, h0 (Or.inr (Or.inr (Or.inr (by omega))))⟩
        · have hq := h1 (by omega) (by omega) (by omega) (by omega)
          intro bm hbm b hb
          refine ⟨[], 0, [(0, .i 0, .ptr b 0)], 1, (b, .cells [envX t l, .i 0]) :: (bm, .mp [(0, .i 0, .ptr b 0)] 1) :: H, .there .here, ⟨rfl, nofun⟩, rfl, ?_⟩
          intro bs hbs
          refine ⟨_, _, Le.refl _, List.Sublist.refl _, hq bs bm b _ ?_⟩
          exact List.Perm.cons _ (List.Perm.swap _ _ _)
/-- a version more -/
def Sto.more (s : Sto) (b : Nat) (t : Tre) (l : List En) : Sto := { s with head := s.head + 1, vs := s.vs ++ [⟨s.clk, s.head + 1, b, t, l, 0⟩], clk := s.clk + 1 }
theorem Sto.Ok.fresh {s : Sto} (hs : s.Ok) : ∀ v ∈ s.vs, ((s.head + 1 : Nat) : Int) ≠ (v.n : Int) := fun v hv => by have := hs.le hv; omega
theorem Sto.Ok.more {s : Sto} (hs : s.Ok) (h1 : s.vs.length < 100000) (h2 : s.head < 2000000) (b : Nat) (t : Tre) (l : List En) : (s.more b t l).Ok := by
  refine ⟨⟨List.pairwise_append.2 ⟨hs.vs.ns, List.pairwise_singleton _ _, fun u hu v hv => ?_⟩, List.pairwise_append.2 ⟨hs.vs.ss, List.pairwise_singleton _ _, fun u hu v hv => ?_⟩, fun v hv => ?_⟩, ⟨s.vs, _, rfl, rfl⟩, ?_, ?_⟩
  · rw [List.mem_singleton] at hv; subst hv
    have := hs.le hu
    show u.n < s.head + 1
    omega
  · rw [List.mem_singleton] at hv; subst hv
    exact hs.vs.lt u hu
  · show v.st < s.clk + 1
    rcases List.mem_append.1 hv with hv | hv
    · have := hs.vs.lt v hv; omega
    · rw [List.mem_singleton] at hv; subst hv; exact Nat.lt_succ_self _
  · show (s.vs ++ [_]).length ≤ 100000
    rw [List.length_append]; simp only [List.length_cons, List.length_nil]; omega
  · show s.head + 1 ≤ 2000000
    omega
section
variable {s : Sto} {X H : Heap}
set_option maxRecDepth 100000 in
set_option maxHeartbeats 1000000 in
theorem verPush_con (h : HasSt s X H) (hs : s.Ok) (t : Tre) (l : List En) {Q : AV → Heap → Prop} (h0 : roomS s ≠ 0 → Q (.tup [.i 0, .i (roomS s)]) H)
    (h1 : roomS s = 0 → ∀ b H', HasSt (s.more b t l) X H' → Q (.tup [.i ((s.head + 1 : Nat) : Int), .i 0]) H') : Con Tryz.prog 15 [.ptr s.bs 0, envX t l] H Q := by
  have hhd := hs.hd
  by_cases hr : roomS s = 0
  · have hq := h1 hr
    obtain ⟨H1, hat, hpm⟩ := at_perm (y := .cells [.i s.most, .i s.last, .i ((s.head + 1 : Nat) : Int), .mp s.bm]) (h : H.Perm (_ :: _))
    have hb1 : (s.bs, AObj.cells [.i s.most, .i s.last, .i ((s.head + 1 : Nat) : Int), .mp s.bm]) ∈ H1 := hpm.mem_iff.2 List.mem_cons_self
    have hmap : H1.Perm ((s.bm, .mp (vEs s.vs) s.clk) :: (s.bs, .cells [.i s.most, .i s.last, .i ((s.head + 1 : Nat) : Int), .mp s.bm]) :: (s.vs.map vO ++ X)) := hpm.trans (List.Perm.swap _ _ _)
    refine con_of_awp (esc := ([29].contains ·)) tab_ok mixed Tryz.func15 rfl (ent Tryz.func15 (by kernel_rfl) rfl) (by kernel_rfl) ?_
    intro hw hn
    clear hw hn
    refine ⟨_, LeL.refl _, verRoom_con h ?_⟩
    intro hz1 hz2; clear hz1 hz2
    refine ifB_t hr ?_
    refine ⟨_, h.st, ?_⟩
    refine ⟨in64_of (by first | omega | (dsimp only; omega)) (by first | omega | (dsimp only; omega)), ?_⟩
    refine ⟨_, H1, hat, (by show 2 + 1 ≤ 4; omega), ?_⟩
    refine ⟨[0, 1, 2, 3, 4, 5, 6, 7, 8, 9, 10, 11], [(s.bs, .cells [.i s.most, .i s.last, .i ((s.head + 1 : Nat) : Int), .mp s.bm])], by kernel_rfl, pin1 hb1, ?_⟩
    refine ⟨_, List.mem_singleton.2 rfl, ?_⟩
    refine ⟨_, List.mem_singleton.2 rfl, ?_⟩
    intro b hb
    refine ⟨pin1 (List.mem_cons_of_mem _ hb1), ?_⟩
    obtain ⟨H2, hat2, hpm2⟩ := at_perm (y := .mp (vEs (s.vs ++ [⟨s.clk, s.head + 1, b, t, l, 0⟩])) (s.clk + 1)) hmap
    have hb2 : (s.bs, AObj.cells [.i s.most, .i s.last, .i ((s.head + 1 : Nat) : Int), .mp s.bm]) ∈ (b, AObj.cells [envX t l, .i 0]) :: H2 := List.mem_cons_of_mem _ (hpm2.mem_iff.2 (List.mem_cons_of_mem _ List.mem_cons_self))
    have hst : HasSt (s.more b t l) X ((b, AObj.cells [envX t l, .i 0]) :: H2) := by
      refine (hpm2.cons _).trans ?_
      have e : (s.more b t l).H ++ X = [(s.bs, AObj.cells [.i s.most, .i s.last, .i ((s.head + 1 : Nat) : Int), .mp s.bm]), (s.bm, .mp (vEs (s.vs ++ [⟨s.clk, s.head + 1, b, t, l, 0⟩])) (s.clk + 1))] ++ s.vs.map vO ++ (b, AObj.cells [envX t l, .i 0]) :: X := by
        unfold Sto.H Sto.more
        simp only [List.map_append, List.map_cons, List.map_nil, List.append_assoc, List.cons_append, List.nil_append]
        rfl
      rw [e]
      refine List.Perm.trans (List.Perm.cons _ ?_) List.perm_middle.symm
      exact List.Perm.swap _ _ _
    refine ⟨vEs s.vs, s.clk, _, _, _, .there hat2, keysOk_vs _ _, mpPut_new hs.fresh _ _ _ _, ?_⟩
    refine ⟨pin1 hb2, ?_⟩
    refine ⟨_, hst.st, ?_⟩
    exact ⟨_, _, Le.refl _, List.Sublist.refl _, hq b _ hst⟩
  · have hq := h0 hr
    refine con_of_awp (esc := ([29].contains ·)) tab_ok mixed Tryz.func15 rfl (ent Tryz.func15 (by kernel_rfl) rfl) (by kernel_rfl) ?_
    intro hw hn
    clear hw hn
    refine ⟨_, LeL.refl _, verRoom_con h ?_⟩
    intro hz1 hz2; clear hz1 hz2
    refine ifB_f hr ?_
    exact ⟨_, H, Le.refl _, List.Sublist.refl _, hq⟩
end
end Go.Proofs.YtaldgcnhmnfocaaGreatDoor

/-
  Stores of versions: Sweep. No condition.
-/
namespace Go.Proofs.YtaldgcnhmnfocaaGreatDoor
open Go.RowKit

def needN (s : Sto) (z : Int) : Bool := decide (z = (s.head : Int)) || decide (0 < (pinsAt s.vs z : Int))
def Sto.gone (s : Sto) : List Int := (vNs s.vs).filter fun z => !needN s z
def Sto.swept (s : Sto) : Sto := { s with vs := s.vs.filter fun v => needN s v.n }
theorem vAt_in {vs : List Vn} {clk : Nat} (h : VsOk vs clk) {v : Vn} (hv : v ∈ vs) : vAt vs (v.n : Int) = some v := by
  cases hf : vAt vs (v.n : Int) with
  | none => exact absurd rfl (vAt_none hf v hv)
  | some u =>
    obtain ⟨h1, h2⟩ := vAt_some hf
    rw [h.sameN h1 hv (by omega)]
theorem pinsAt_in {vs : List Vn} {clk : Nat} (h : VsOk vs clk) {v : Vn} (hv : v ∈ vs) : pinsAt vs (v.n : Int) = v.pins := by rw [pinsAt, vAt_in h hv]
theorem VsOk.sub {vs ws : List Vn} {clk : Nat} (h : VsOk vs clk) (hs : ws.Sublist vs) : VsOk ws clk := ⟨h.ns.sublist hs, h.ss.sublist hs, fun v hv => h.lt v (hs.subset hv)⟩
theorem Sto.Ok.swept {s : Sto} (h : s.Ok) : s.swept.Ok := by
  obtain ⟨i, v, e, hv⟩ := h.top
  refine ⟨h.vs.sub List.filter_sublist, ?_, Nat.le_trans (List.length_filter_le _ _) h.len, h.hd⟩
  refine ⟨i.filter fun v => needN s v.n, v, ?_, hv⟩
  show s.vs.filter _ = _
  rw [e, List.filter_append, List.filter_cons, if_pos (by unfold needN; rw [hv, decide_eq_true rfl]; rfl), List.filter_nil]
section
variable {s : Sto} {X H : Heap}
set_option maxRecDepth 100000 in
theorem needed_con (h : HasSt s X H) {z : Int} (hz : z ∈ vNs s.vs) {b1 : Nat} (hb : (b1, AObj.cells [.ptr s.bs 0]) ∈ H) {Q : AV → Heap → Prop} (hq : Q (.b (needN s z)) H) : Con Tryz.prog 57 [.i z, .ptr b1 0] H Q := by
  have hf := mpFind_vs z s.vs
  have fin : ∀ q : Bool, q = needN s z → ∃ r H', Le (.b q) r ∧ List.Sublist H' H ∧ Q r H' := fun q h => ⟨_, H, ret_b h, List.Sublist.refl _, hq⟩
  obtain ⟨v, hv⟩ : ∃ v, vAt s.vs z = some v := by
    obtain ⟨u, hu, rfl⟩ := List.mem_map.1 hz
    cases hv : vAt s.vs (u.n : Int) with
    | none => exact absurd rfl (vAt_none hv u hu)
    | some v => exact ⟨v, rfl⟩
  have hpv : pinsAt s.vs z = v.pins := by rw [pinsAt, hv]
  rw [hv] at hf
  refine con_of_awp (esc := fun _ => false) tab_ok mixed Tryz.func57 rfl (ent Tryz.func57 (by kernel_rfl) rfl) (by kernel_rfl) ?_
  intro hw hn
  clear hw hn
  refine ⟨_, hb, ?_⟩
  refine ⟨_, h.st, ?_⟩
  refine ifB_dec (fun g1 => ?_) (fun g1 => ?_)
  · exact fin true (by rw [needN, decide_eq_true g1]; rfl)
  · refine ⟨_, hb, ?_⟩
    refine ⟨_, h.st, ?_⟩
    refine ⟨vEs s.vs, s.clk, some (v.st, .ptr v.b 0), rfl, h.map, keysOk_vs z s.vs, hf, ?_⟩
    refine ⟨_, h.ver (vAt_some hv).1, ?_⟩
    refine ifB_dec (fun g2 => ?_) (fun g2 => ?_)
    · exact fin true (by rw [needN, hpv, decide_eq_true (show (0 : Int) < (v.pins : Int) by omega), Bool.or_true])
    · exact fin false (by rw [needN, hpv, decide_eq_false g1, decide_eq_false (show ¬ (0 : Int) < (v.pins : Int) by omega)]; rfl)
/-- what is left when so many are struck -/
def Sto.less (s : Sto) (k : Nat) : Sto := { s with vs := s.vs.filter fun v => !(s.gone.take k).contains (v.n : Int) }
theorem less_zero (s : Sto) : s.less 0 = s := by
  unfold Sto.less
  have e : s.vs.filter (fun v => !(s.gone.take 0).contains (v.n : Int)) = s.vs := List.filter_eq_self.2 fun v _ => by rw [List.take_zero]; rfl
  rw [e]
theorem gone_in {s : Sto} (hs : s.Ok) {v : Vn} (hv : v ∈ s.vs) : (v.n : Int) ∈ s.gone ↔ needN s v.n = false := by
  unfold Sto.gone
  rw [List.mem_filter]
  constructor
  · rintro ⟨_, h⟩; simpa using h
  · intro h; exact ⟨List.mem_map.2 ⟨v, hv, rfl⟩, by rw [h]; rfl⟩
theorem less_all {s : Sto} (hs : s.Ok) : s.less s.gone.length = s.swept := by
  unfold Sto.less Sto.swept
  rw [List.take_length]
  congr 1
  refine List.filter_congr fun v hv => ?_
  cases hn : needN s v.n with
  | false => simp [(gone_in hs hv).2 hn]
  | true =>
    have : (v.n : Int) ∉ s.gone := fun h => by rw [(gone_in hs hv).1 h] at hn; cases hn
    simp [this]
theorem gone_nodup {s : Sto} (hs : s.Ok) : s.gone.Nodup := by
  have h1 : (vNs s.vs).Nodup := (vNs_rise hs.vs).imp fun h e => by omega
  exact h1.sublist List.filter_sublist
/-- one more is struck -/
theorem less_step {s : Sto} (hs : s.Ok) {k : Nat} (hk : k < s.gone.length) : ∃ a v b, (s.less k).vs = a ++ v :: b ∧ (v.n : Int) = s.gone[k] ∧ (∀ u ∈ a, (v.n : Int) ≠ (u.n : Int)) ∧ s.less (k + 1) = { s.less k with vs := a ++ b } := by
  have hnd := gone_nodup hs
  have hg : s.gone[k] ∈ s.gone := List.getElem_mem hk
  have hgv : s.gone[k] ∈ vNs s.vs := (List.mem_filter.1 hg).1
  obtain ⟨v, hv, e⟩ := List.mem_map.1 hgv
  have hnt : s.gone[k] ∉ s.gone.take k := fun h => by
    obtain ⟨j, hj, e⟩ := List.getElem_of_mem h
    rw [List.getElem_take] at e
    rw [List.length_take] at hj
    have := (List.getElem_inj hnd).1 e
    omega
  have hvl : v ∈ (s.less k).vs := List.mem_filter.2 ⟨hv, by simp only [e]; simpa using hnt⟩
  obtain ⟨a, b, hab⟩ := List.append_of_mem hvl
  have hvs : VsOk (s.less k).vs s.clk := hs.vs.sub List.filter_sublist
  have hn := hvs.ns
  rw [hab] at hn
  have hn1 := List.pairwise_append.1 hn
  have hn2 := List.pairwise_cons.1 hn1.2.1
  have ha : ∀ u ∈ a, (v.n : Int) ≠ (u.n : Int) := fun u hu => by have := hn1.2.2 u hu v (by simp); omega
  have hb : ∀ u ∈ b, (v.n : Int) ≠ (u.n : Int) := fun u hu => by have := hn2.1 u hu; omega
  refine ⟨a, v, b, hab, e, ha, ?_⟩
  have h1 : s.vs.filter (fun v => !(s.gone.take (k + 1)).contains (v.n : Int)) = (s.less k).vs.filter fun u => decide (s.gone[k] ≠ (u.n : Int)) := by
    unfold Sto.less
    rw [List.filter_filter]
    refine List.filter_congr fun u _ => ?_
    have key : (s.gone.take (k + 1)).contains (u.n : Int) = ((s.gone.take k).contains (u.n : Int) || decide (s.gone[k] = (u.n : Int))) := by
      rw [Bool.eq_iff_iff, Bool.or_eq_true, decide_eq_true_eq, List.contains_iff_mem, List.contains_iff_mem, List.take_succ_eq_append_getElem hk, List.mem_append, List.mem_singleton]
      exact or_congr_right eq_comm
    rw [key]
    by_cases h2 : s.gone[k] = (u.n : Int) <;> cases (s.gone.take k).contains (u.n : Int) <;> simp [h2]
  have h2 : (a ++ v :: b).filter (fun u => decide (s.gone[k] ≠ (u.n : Int))) = a ++ b := by
    rw [List.filter_append, List.filter_cons, if_neg (by simp [e]), List.filter_eq_self.2 fun u hu => decide_eq_true (by rw [← e]; exact ha u hu), List.filter_eq_self.2 fun u hu => decide_eq_true (by rw [← e]; exact hb u hu)]
  show ({ s with vs := _ } : Sto) = _
  rw [h1, hab, h2]
  rfl
set_option maxRecDepth 100000 in
set_option maxHeartbeats 1000000 in
theorem verSweep_con (h : HasSt s X H) (hs : s.Ok) {Q : AV → Heap → Prop} (hq : ∀ H', HasSt s.swept X H' → Q (intsX s.gone) H') : Con Tryz.prog 23 [.ptr s.bs 0] H Q := by
  have hlen := hs.len
  have hgl : s.gone.length ≤ s.vs.length := Nat.le_trans (List.length_filter_le _ _) (Nat.le_of_eq (vNs_len _))
  have hgm : (s.gone.map AV.i).length = s.gone.length := List.length_map _
  refine con_of_awp (esc := ([1].contains ·)) tab_ok mixed Tryz.func23 rfl (ent Tryz.func23 (by kernel_rfl) rfl) (by kernel_rfl) ?_
  intro hw hn
  clear hw hn
  intro b1 hb1
  have h1 := h.cons (b1, AObj.cells [.ptr s.bs 0])
  refine ⟨_, List.mem_cons_self, ?_⟩
  refine ⟨_, LeL.refl _, verLive_con h1 hs fun m hm => ?_⟩
  intro hz1 hz2; clear hz1 hz2
  cases m with
  | none => exact absurd hm.1 (by have := hs.pos; omega)
  | some p =>
    obtain ⟨b, cap, cs⟩ := p
    refine ⟨_, LeL.refl _, DeleteI_con (p := needN s) (vNs s.vs) hm.2 (by omega) (fun z hz cs' Q hQ => needed_con ((h1.cons (b, AObj.cells cs'))) hz (List.mem_cons_of_mem _ List.mem_cons_self) hQ) _ ?_⟩
    intro hz1 hz2; clear hz1 hz2
    refine ⟨Nat × Heap, fun x => ⟨[(1, .g (.ptr b1 0)), (2, .g (.sl .full 0 [])), (4, .g (intsX s.gone)), (12, .g (intsX s.gone)), (13, .g (.i (s.gone.length : Nat))), (14, .g (.i x.1))], [], x.2⟩, fun x => x.1 ≤ s.gone.length ∧ HasSt (s.less x.1) ((b1, AObj.cells [.ptr s.bs 0]) :: X) x.2, fun x => s.gone.length - x.1, ⟨(0, (b1, AObj.cells [.ptr s.bs 0]) :: H), ⟨Nat.zero_le _, by rw [less_zero]; exact h1⟩, ?_⟩, ?_⟩
    · exact ⟨⟨Le.refl _, Le.refl _, Le.refl _, Le.refl _, ret_i (congrArg Int.ofNat hgm), Le.refl _, trivial⟩, trivial, List.Sublist.refl _⟩
    · rintro ⟨k, Hk⟩ ⟨hk, hst⟩
      simp only at hk hst
      refine ifB_dec (fun g1 => ?_) (fun g1 => ?_)
      · have hlt : k < s.gone.length := by omega
        obtain ⟨a, v, b2, e1, e2, e3, e4⟩ := less_step hs hlt
        have hp0 : Hk.Perm ((s.bm, AObj.mp (vEs (s.less k).vs) s.clk) :: (s.bs, .cells [.i s.most, .i s.last, .i (s.head : Nat), .mp s.bm]) :: ((s.less k).vs.map vO ++ (b1, AObj.cells [.ptr s.bs 0]) :: X)) := hst.trans (List.Perm.swap _ _ _)
        obtain ⟨H1, hat, hpm⟩ := at_perm (y := .mp (vEs (a ++ b2)) s.clk) hp0
        have hdel : mpDel (.i s.gone[k]) (vEs (s.less k).vs) = vEs (a ++ b2) := by rw [e1, ← e2]; exact mpDel_mid e3
        have hat' : Heap.At s.bm (.mp (vEs (s.less k).vs) s.clk) (.mp (mpDel (.i s.gone[k]) (vEs (s.less k).vs)) s.clk) Hk H1 := by rw [hdel]; exact hat
        obtain ⟨H2, hsub, hpm2⟩ := rem_sub (p := vO v) (R := (s.bm, AObj.mp (vEs (a ++ b2)) s.clk) :: (s.bs, .cells [.i s.most, .i s.last, .i (s.head : Nat), .mp s.bm]) :: ((a ++ b2).map vO ++ (b1, AObj.cells [.ptr s.bs 0]) :: X)) (hpm.trans (by
          rw [e1, List.map_append, List.map_cons, List.map_append]
          have p1 : (a.map vO ++ vO v :: b2.map vO).Perm (vO v :: (a.map vO ++ b2.map vO)) := List.perm_middle
          have p2 := ((p1.cons (s.bs, AObj.cells [.i s.most, .i s.last, .i (s.head : Nat), .mp s.bm])).cons (s.bm, AObj.mp (vEs (a ++ b2)) s.clk)).append_right ((b1, AObj.cells [.ptr s.bs 0]) :: X)
          exact p2.trans (List.perm_middle (l₁ := [(s.bm, AObj.mp (vEs (a ++ b2)) s.clk), (s.bs, AObj.cells [.i s.most, .i s.last, .i (s.head : Nat), .mp s.bm])]) (l₂ := (a.map vO ++ b2.map vO) ++ (b1, AObj.cells [.ptr s.bs 0]) :: X))))
        have hst2 : HasSt (s.less (k + 1)) ((b1, AObj.cells [.ptr s.bs 0]) :: X) H2 := by
          rw [e4]
          exact hpm2.trans (List.Perm.swap _ _ _)
        have hcell : (s.gone.map AV.i)[k]? = some (.i s.gone[k]) := by simp [hlt]
        refine ⟨k, rfl, _, hcell, ?_⟩
        refine ⟨_, hst.in List.mem_cons_self, ?_⟩
        refine ⟨_, hst.st, ?_⟩
        refine ⟨vEs (s.less k).vs, s.clk, H1, hat', keysOk_vs _ _, ?_⟩
        refine ⟨in64_of (by first | omega | (dsimp only; omega)) (by first | omega | (dsimp only; omega)), ?_⟩
        refine ⟨(k + 1, H2), ⟨by simp only; omega, hst2⟩, by (try dsimp only); omega, ?_⟩
        exact ⟨⟨Le.refl _, Le.refl _, Le.refl _, Le.refl _, Le.refl _, Le.refl _, trivial⟩, trivial, hsub⟩
      · have hke : k = s.gone.length := by omega
        subst hke
        rw [less_all hs] at hst
        obtain ⟨H2, hsub, hpm⟩ := rem_sub (p := (b1, AObj.cells [.ptr s.bs 0])) (R := s.swept.H ++ X) (hst.trans List.perm_middle)
        exact ⟨_, H2, Le.refl _, hsub, hq H2 hpm⟩
end
end Go.Proofs.YtaldgcnhmnfocaaGreatDoor

/-
  Live, seen as it is; SameInts; numbered. No condition.
-/
namespace Go.Proofs.YtaldgcnhmnfocaaGreatDoor
open Go.RowKit

theorem Con.iceQ {P : Program} {f : FuncId} {args : List AV} {H : Heap} {Q : AV → Heap → Prop} (h : Con P f args H fun r H' => Q r H' ∨ ∃ b cs H0 r', Heap.Rem (b, .cells cs) H' H0 ∧ (∀ M, atL M cs b 0 → LeM M r r') ∧ Q r' H0) : Con P f args H Q :=
  fun M w vs h0 h1 h2 => (h M w vs h0 h1 h2).mono fun v w' ⟨M', r, H', a, b, c, d, e⟩ => by
    rcases e with e | ⟨b0, cs, H0, r', e1, e2, e3⟩
    · exact ⟨M', r, H', a, b, c, d, e⟩
    · obtain ⟨M2, g1, g2, g3⟩ := inv_ice b e1
      refine ⟨M2, r', H0, ?_, g2, fun k hk => c k ?_, e2 M2 g3 v (rep.mono g1.sub _ _ d), e3⟩
      · refine (a.trans g1 fun k hk => ?_)
        exact c k hk
      · exact ((e1.perm.map (·.1)).mem_iff.2 (List.mem_cons_of_mem _ hk))
set_option maxRecDepth 100000 in
theorem verLives_con {s : Sto} {X H : Heap} (h : HasSt s X H) (hs : s.Ok) {Q : AV → Heap → Prop} (hq : Q (intsX (vNs s.vs)) H) : Con Tryz.prog 28 [.ptr s.bs 0] H Q := by
  refine Con.iceQ (verLive_con h hs fun m hm => ?_)
  cases m with
  | none => exact absurd hm.1 (by have := hs.pos; omega)
  | some p =>
    obtain ⟨b, cap, cs⟩ := p
    exact Or.inr ⟨b, cs, H, intsX (vNs s.vs), .here, fun M hM => hm.2.see (wide_ints _) hM, hq⟩
theorem inAt {zs : List Int} {k : Nat} (h : k < zs.length) : (zs.map AV.i)[k]? = some (.i zs[k]) := by simp [h]
set_option maxRecDepth 100000 in
theorem SameInts_con {o o' : Own} (a b : List Int) : Ans Tryz.prog 22 [.sl o 1 (a.map .i), .sl o' 1 (b.map .i)] (.b (decide (a = b))) := by
  intro H Q hq
  refine con_of_awp (esc := fun _ => false) tab_ok mixed Tryz.func22 rfl (ent Tryz.func22 (by kernel_rfl) rfl) (by kernel_rfl) ?_
  intro hw hn
  have hlen := Wf.len (hw (.sl o 1 (a.map .i)) (by simp))
  rw [List.length_map] at hlen
  have fin : ∀ q : Bool, q = decide (a = b) → ∃ r H', Le (.b q) r ∧ List.Sublist H' H ∧ Q r H' := fun q h => ⟨_, H, ret_b h, List.Sublist.refl _, hq⟩
  refine ifB_dec (fun h1 => ?_) (fun h1 => ?_)
  · simp only [List.length_map] at h1
    refine ⟨Nat, fun k => ⟨[(0, .g (.sl o 1 (a.map .i))), (1, .g (.sl o' 1 (b.map .i))), (4, .g (.b false)), (5, .g (.i k))], [], H⟩, fun k => k ≤ a.length ∧ a.take k = b.take k, fun k => a.length - k, ⟨0, ⟨Nat.zero_le _, rfl⟩, ?_⟩, ?_⟩
    · (constructor <;> repeat' (first | exact trivial | exact ⟨rfl, rfl⟩ | exact ⟨rfl, LeL.refl _⟩ | exact Le.refl _ | exact List.Sublist.refl _ | (show Le (AV.i _) (AV.i _); rw [List.length_map]; exact Le.refl _) | refine And.intro ?_ ?_))
    · rintro k ⟨hk, hpre⟩
      refine ifB_dec (fun h => ?_) (fun h => ?_)
      · have hlt : k < a.length := by simpa using h
        have hlt' : k < b.length := by omega
        refine ⟨[0, 1, 2, 3, 4, 5, 6, 7, 8], [], by kernel_rfl, by simp, ?_⟩
        refine ⟨k, rfl, _, inAt hlt, ?_⟩
        refine ⟨k, rfl, _, inAt hlt', ?_⟩
        refine ifB_dec (fun h2 => ?_) (fun h2 => ?_)
        · refine ⟨in64_of (by first | omega | (dsimp only; omega)) (by first | omega | (dsimp only; omega)), ?_⟩
          refine ⟨k + 1, ⟨by omega, take_next hlt hlt' hpre h2⟩, by dsimp only; omega, ?_⟩
          (constructor <;> repeat' (first | exact trivial | exact ⟨rfl, rfl⟩ | exact ⟨rfl, LeL.refl _⟩ | exact Le.refl _ | exact List.Sublist.refl _ | (show Le (AV.i _) (AV.i _); rw [List.length_map]; exact Le.refl _) | refine And.intro ?_ ?_))
        · exact fin _ (by rw [eq_comm, decide_eq_false_iff_not]; rintro rfl; exact h2 rfl)
      · have hk' : k = a.length := by
          have : ¬ k < a.length := by simpa using h
          omega
        refine fin _ ?_
        rw [hk', List.take_length, show a.length = b.length by omega, List.take_length] at hpre
        simp [hpre]
  · exact fin _ (by rw [eq_comm, decide_eq_false_iff_not]; rintro rfl; exact h1 rfl)
/-! environments of so many axioms -/
def nmB (i : Nat) : List UInt8 := 97 :: List.replicate i 98
def eN (i : Nat) : En := ⟨1, 0, nmB i, pT, tm0, 0, [], 0, 0, 0, []⟩
def lN (n : Nat) : List En := (List.range n).map eN
def tN (n : Nat) : Tre := putAll .nil 0 (lN n)
theorem lN_len (n : Nat) : (lN n).length = n := by rw [lN, List.length_map, List.length_range]
theorem lN_take {n k : Nat} (h : k ≤ n) : (lN n).take k = lN k := by rw [lN, lN, ← List.map_take, List.take_range, Nat.min_eq_left h]
theorem lN_at {n k : Nat} (h : k < (lN n).length) : (lN n)[k] = eN k := by simp [lN]
set_option maxRecDepth 100000 in
theorem adN : addAll [] (lN 15) = 0 := by kernel_rfl
theorem adK {k : Nat} (h : k ≤ 15) : addAll [] (lN k) = 0 := by
  rw [← lN_take h]
  exact addAll_part adN k
theorem plN {k : Nat} (h : k ≤ 15) : Places (tN k) (lN k) ∧ AllRight (lN k) := places_all (lN k) .nil [] Places.nil none_right (adK h)
theorem nmB_snoc (j : Nat) : nmB j ++ [98] = nmB (j + 1) := by
  unfold nmB
  rw [List.cons_append, ← List.replicate_succ']
set_option maxRecDepth 100000 in
theorem le_en (i : Nat) : Le (.sl .full 19 [.agg [.i 1, .i 0, .str (nmB i), .i 2, .i 0, .str [], .sl .full 3 [.agg [.i 1, .i 0, .sl .full 0 []]], .sl .full 0 [], .i 0, .i 0, .str [], .sl .full 0 [], .sl .full 0 [], .i 0, .str [], .i 0, .i 0, .i 0, .sl .full 0 []]]) (.sl .no 19 ([eN i].map enX)) :=
  Le.slE ⟨⟨Le.refl _, Le.refl _, Le.refl _, Le.refl _, Le.refl _, Le.refl _, le_pL, Le.nil _ _, Le.refl _, Le.refl _, Le.refl _, Le.nil _ _, Le.nil _ _, Le.refl _, Le.refl _, Le.refl _, Le.refl _, Le.refl _, Le.nil _ _, trivial⟩, trivial⟩
set_option maxRecDepth 100000 in
theorem addN {k : Nat} (h : k < 15) : Ans Tryz.prog 55 [envX (tN k) (lN k), .sl .no 19 ([eN k].map enX)] (.tup [envX (tN (k + 1)) (lN (k + 1)), .i 0]) := by
  have hl : k < (lN 15).length := by rw [lN_len]; exact h
  have h0 : addAll [] ((lN 15).take k) = 0 := by rw [lN_take (by omega)]; exact adK (by omega)
  obtain ⟨s1, s2, s3⟩ := step_add hl h0
  rw [lN_take (by omega), lN_take (by omega), lN_at] at s1 s2
  rw [lN_take (by omega), lN_take (by omega), lN_at] at s3
  have s0 : addAll (lN k) [eN k] = 0 := by rw [addAll_one, ← s1]; exact adK (by omega)
  refine (envAddAll_con .no (tN k) (lN k) [eN k] (plN (by omega)).1 (plN (by omega)).2 (by rw [lN_len]; simp only [List.length_cons, List.length_nil]; omega)).to ?_
  rw [if_pos s0, s3]
  show AV.tup [envX (putAll (putAll .nil 0 (lN k)) (lN k).length [eN k]) (lN (k + 1)), .i 0] = _
  rw [s2]
  rfl
set_option maxRecDepth 100000 in
set_option maxHeartbeats 1000000 in
theorem numbered_con (n : Nat) (hn15 : n ≤ 15) : Ans Tryz.prog 13 [.i (n : Nat)] (envX (tN n) (lN n)) := by
  intro H Q hq
  refine con_of_awp (esc := fun _ => false) tab_ok mixed Tryz.func13 rfl (ent Tryz.func13 (by kernel_rfl) rfl) (by kernel_rfl) ?_
  intro hw hn
  clear hw hn
  refine ⟨_, LeL.refl _, envNew_con _ _ ?_⟩
  intro hz1 hz2; clear hz1 hz2
  refine ⟨Nat, fun k => ⟨[(0, .g (.i (n : Nat))), (2, .g (.v (.pointer none))), (3, .g (envX (tN k) (lN k))), (4, .g (.i k))], [], H⟩, fun k => k ≤ n, fun k => n - k, ⟨0, Nat.zero_le _, ?_⟩, ?_⟩
  · exact ⟨⟨Le.refl _, Le.refl _, Le.refl _, Le.refl _, trivial⟩, trivial, List.Sublist.refl _⟩
  · intro k hk
    refine ifB_dec (fun h1 => ?_) (fun h1 => ?_)
    · have hlt : k < n := by omega
      refine ⟨Nat, fun j => ⟨[(0, .g (.i (n : Nat))), (2, .g (.v (.pointer none))), (3, .g (envX (tN k) (lN k))), (4, .g (.i k)), (5, .g (.str (nmB j))), (6, .g (.i j))], [], H⟩, fun j => j ≤ k, fun j => k - j, ⟨0, Nat.zero_le _, ?_⟩, ?_⟩
      · exact ⟨⟨Le.refl _, Le.refl _, Le.refl _, Le.refl _, Le.refl _, Le.refl _, trivial⟩, trivial, List.Sublist.refl _⟩
      · intro j hj
        refine ifB_dec (fun h2 => ?_) (fun h2 => ?_)
        · refine ⟨by show (nmB j).length + 1 ≤ _; unfold nmB; rw [List.length_cons, List.length_replicate]; omega, ?_⟩
          refine ⟨in64_of (by first | omega | (dsimp only; omega)) (by first | omega | (dsimp only; omega)), ?_⟩
          refine ⟨j + 1, (by omega), by (try dsimp only); omega, ?_⟩
          exact ⟨⟨Le.refl _, Le.refl _, Le.refl _, Le.refl _, le_of_eq (congrArg AV.str (nmB_snoc j)), Le.refl _, trivial⟩, trivial, List.Sublist.refl _⟩
        · have hje : j = k := by omega
          subst hje
          refine ⟨[envX (tN j) (lN j), .sl .no 19 ([eN j].map enX)], ⟨Le.refl _, le_en j, trivial⟩, addN (by omega) _ _ ?_⟩
          intro hz1 hz2; clear hz1 hz2
          refine ⟨in64_of (by first | omega | (dsimp only; omega)) (by first | omega | (dsimp only; omega)), ?_⟩
          refine ⟨j + 1, (by omega), by (try dsimp only); omega, ?_⟩
          exact ⟨⟨Le.refl _, Le.refl _, Le.refl _, Le.refl _, trivial⟩, trivial, List.Sublist.refl _⟩
    · have hke : k = n := by omega
      subst hke
      exact ⟨_, H, Le.refl _, List.Sublist.refl _, hq⟩
end Go.Proofs.YtaldgcnhmnfocaaGreatDoor

/-
  Law 22's alive. No condition.
-/
namespace Go.Proofs.YtaldgcnhmnfocaaGreatDoor
open Go.RowKit

section
variable (bs bm b b1 b2 : Nat)
def al0 : Sto := newS bs bm b 3 9 (tN 0) (lN 0)
def al1 : Sto := (al0 bs bm b).more b1 (tN 1) (lN 1)
def al2 : Sto := (al1 bs bm b b1).more b2 (tN 2) (lN 2)
def al3 : Sto := (al2 bs bm b b1 b2).pins 1 1
def al4 : Sto := (al3 bs bm b b1 b2).swept
def al5 : Sto := (al4 bs bm b b1 b2).pins 1 0
theorem al0_room : roomS (al0 bs bm b) = 0 := rfl
theorem al1_room : roomS (al1 bs bm b b1) = 0 := rfl
theorem al2_room : roomS (al2 bs bm b b1 b2) = 24 := rfl
theorem al0_ok : (al0 bs bm b).Ok := newS_ok _ _ _ _ _ _ _
theorem al1_ok : (al1 bs bm b b1).Ok := (al0_ok bs bm b).more (by show 1 < 100000; omega) (by show 0 < 2000000; omega) _ _ _
theorem al2_ok : (al2 bs bm b b1 b2).Ok := (al1_ok bs bm b b1).more (by show 2 < 100000; omega) (by show 1 < 2000000; omega) _ _ _
theorem al3_ok : (al3 bs bm b b1 b2).Ok := (al2_ok bs bm b b1 b2).pins _ _
theorem al4_ok : (al4 bs bm b b1 b2).Ok := (al3_ok bs bm b b1 b2).swept
theorem al5_ok : (al5 bs bm b b1 b2).Ok := (al4_ok bs bm b b1 b2).pins _ _
theorem al2_pins : pinsAt (al2 bs bm b b1 b2).vs 1 = 0 := rfl
theorem al2_at : vAt (al2 bs bm b b1 b2).vs 1 = some ⟨1, 1, b1, tN 1, lN 1, 0⟩ := rfl
theorem al3_gone : (al3 bs bm b b1 b2).gone = [0] := rfl
theorem al4_at1 : vAt (al4 bs bm b b1 b2).vs 1 = some ⟨1, 1, b1, tN 1, lN 1, 1⟩ := rfl
theorem al4_at0 : vAt (al4 bs bm b b1 b2).vs 0 = none := rfl
theorem al4_head : (al4 bs bm b b1 b2).head = 2 := rfl
theorem al4_pins : pinsAt (al4 bs bm b b1 b2).vs 1 = 1 := rfl
theorem al4_live : vNs (al4 bs bm b b1 b2).vs = [1, 2] := rfl
theorem al4_room : roomS (al4 bs bm b b1 b2) = 0 := rfl
theorem al5_pins : pinsAt (al5 bs bm b b1 b2).vs 1 = 0 := rfl
end
/-- objects in another order; fewer of them -/
theorem Con.loose {P : Program} {f : FuncId} {args : List AV} {H : Heap} {Q : AV → Heap → Prop} (h : Con P f args H fun r H' => ∃ H2 H3 : Heap, H'.Perm H2 ∧ H3.Sublist H2 ∧ Q r H3) : Con P f args H Q :=
  fun M w vs h0 h1 h2 => (h M w vs h0 h1 h2).mono fun v w' ⟨M', r, H', a, b, c, d, H2, H3, e1, e2, e3⟩ =>
    ⟨M', r, H3, a, (b.perm e1).sub e2, fun k hk => c k ((List.Perm.map (·.1) e1).mem_iff.2 ((e2.map (·.1)).subset hk)), d, e3⟩
theorem lN1_len : (lN 1).length = 1 := rfl
set_option maxRecDepth 100000 in
set_option maxHeartbeats 4000000 in
theorem alive22_con : Ans Tryz.prog 11 [] (.b true) := by
  intro H Q hq
  refine Con.loose ?_
  refine con_of_sem tab_ok Tryz.func11 rfl (ent Tryz.func11 (by kernel_rfl) rfl) (by kernel_rfl) ?_
  intro hw hn
  clear hw hn
  refine sem_seq (esc := fun _ => false) tab_ok mixed ?_
  refine sem_seq (esc := fun _ => false) tab_ok mixed ?_
  refine ⟨[.i ((0 : Nat) : Int)], LeL.refl _, numbered_con 0 (by omega) _ _ ?_⟩
  intro hz1 hz2; clear hz1 hz2
  refine ⟨_, LeL.refl _, verNew_con (tN 0) (lN 0) 3 9 (fun h => absurd h (by omega)) fun _ _ _ _ bs bm b H0 hs0 => ?_⟩
  intro hz1 hz2; clear hz1 hz2
  refine sem_le ⟨[(0, .g (.b false)), (1, .g (.ptr bs 0)), (2, .g (.i 0))], [], H0⟩ ?_ ?_
  · exact ⟨⟨Le.refl _, Le.refl _, Le.refl _, trivial⟩, trivial, List.Sublist.refl _⟩
  have hs0 : HasSt (al0 bs bm b) H H0 := hs0
  refine sem_seq (esc := fun _ => false) tab_ok mixed ?_
  refine sem_seq (esc := fun _ => false) tab_ok mixed ?_
  refine ⟨[.i ((1 : Nat) : Int)], LeL.refl _, numbered_con 1 (by omega) _ _ ?_⟩
  intro hz1 hz2; clear hz1 hz2
  refine ⟨_, LeL.refl _, verPush_con hs0 (al0_ok bs bm b) (tN 1) (lN 1) (fun h => absurd (al0_room bs bm b) h) fun _ b1 H1 hs1 => ?_⟩
  intro hz1 hz2; clear hz1 hz2
  refine sem_le ⟨[(0, .g (.b false)), (1, .g (.ptr bs 0)), (2, .g (.i 0)), (3, .g (.i 1))], [], H1⟩ ?_ ?_
  · exact ⟨⟨Le.refl _, Le.refl _, Le.refl _, Le.refl _, trivial⟩, trivial, List.Sublist.refl _⟩
  have hs1 : HasSt (al1 bs bm b b1) H H1 := hs1
  refine sem_seq (esc := fun _ => false) tab_ok mixed ?_
  refine ⟨[.i ((2 : Nat) : Int)], LeL.refl _, numbered_con 2 (by omega) _ _ ?_⟩
  intro hz1 hz2; clear hz1 hz2
  refine ⟨_, LeL.refl _, verPush_con hs1 (al1_ok bs bm b b1) (tN 2) (lN 2) (fun h => absurd (al1_room bs bm b b1) h) fun _ b2 H2 hs2 => ?_⟩
  intro hz1 hz2; clear hz1 hz2
  refine sem_le ⟨[(0, .g (.b false)), (1, .g (.ptr bs 0)), (2, .g (.i 0)), (3, .g (.i 1)), (4, .g (.i 2)), (5, .g (.i 0))], [], H2⟩ ?_ ?_
  · exact ⟨⟨Le.refl _, Le.refl _, Le.refl _, Le.refl _, Le.refl _, Le.refl _, trivial⟩, trivial, List.Sublist.refl _⟩
  have hs2 : HasSt (al2 bs bm b b1 b2) H H2 := hs2
  refine sem_seq (esc := fun _ => false) tab_ok mixed ?_
  refine ⟨[.i ((3 : Nat) : Int)], LeL.refl _, numbered_con 3 (by omega) _ _ ?_⟩
  intro hz1 hz2; clear hz1 hz2
  refine ⟨_, LeL.refl _, verPush_con hs2 (al2_ok bs bm b b1 b2) (tN 3) (lN 3) (fun _ => ?_) fun h => absurd ((al2_room bs bm b b1 b2).symm.trans h) (by decide)⟩
  intro hz1 hz2; clear hz1 hz2
  refine sem_le ⟨[(0, .g (.b false)), (1, .g (.ptr bs 0)), (2, .g (.i 0)), (3, .g (.i 1)), (4, .g (.i 2)), (5, .g (.i 0)), (7, .g (.i 24))], [], H2⟩ ?_ ?_
  · exact ⟨⟨Le.refl _, Le.refl _, Le.refl _, Le.refl _, Le.refl _, Le.refl _, ret_i (al2_room bs bm b b1 b2), trivial⟩, trivial, List.Sublist.refl _⟩
  refine sem_seq (esc := fun _ => false) tab_ok mixed ?_
  refine ⟨_, LeL.refl _, verPin_con hs2 (al2_ok bs bm b b1 b2) 1 (by rw [al2_pins]; omega) (fun h => absurd ((al2_at bs bm b b1 b2).symm.trans h) (by simp)) fun _ H3 hs3 => ?_⟩
  intro hz1 hz2; clear hz1 hz2
  refine sem_le ⟨[(0, .g (.b false)), (1, .g (.ptr bs 0)), (2, .g (.i 0)), (3, .g (.i 1)), (4, .g (.i 2)), (5, .g (.i 0)), (7, .g (.i 24)), (8, .g (.i 0))], [], H3⟩ ?_ ?_
  · exact ⟨⟨Le.refl _, Le.refl _, Le.refl _, Le.refl _, Le.refl _, Le.refl _, Le.refl _, Le.refl _, trivial⟩, trivial, List.Sublist.refl _⟩
  have hs3 : HasSt (al3 bs bm b b1 b2) H H3 := hs3
  refine sem_seq (esc := fun _ => false) tab_ok mixed ?_
  refine ⟨_, LeL.refl _, verSweep_con hs3 (al3_ok bs bm b b1 b2) fun H4 hs4 => ?_⟩
  intro hz1 hz2; clear hz1 hz2
  refine sem_le ⟨[(0, .g (.b false)), (1, .g (.ptr bs 0)), (2, .g (.i 0)), (3, .g (.i 1)), (4, .g (.i 2)), (5, .g (.i 0)), (7, .g (.i 24)), (8, .g (.i 0)), (9, .g (intsX [0]))], [], H4⟩ ?_ ?_
  · exact ⟨⟨Le.refl _, Le.refl _, Le.refl _, Le.refl _, Le.refl _, Le.refl _, Le.refl _, Le.refl _, le_of_eq (congrArg intsX (al3_gone bs bm b b1 b2)), trivial⟩, trivial, List.Sublist.refl _⟩
  have hs4 : HasSt (al4 bs bm b b1 b2) H H4 := hs4
  refine sem_seq (esc := fun _ => false) tab_ok mixed ?_
  refine ⟨_, LeL.refl _, verEnv_con hs4 1 (fun h => absurd ((al4_at1 bs bm b b1 b2).symm.trans h) (by simp)) fun v hv => ?_⟩
  intro hz1 hz2; clear hz1 hz2
  refine sem_le ⟨[(0, .g (.b false)), (1, .g (.ptr bs 0)), (2, .g (.i 0)), (3, .g (.i 1)), (4, .g (.i 2)), (5, .g (.i 0)), (7, .g (.i 24)), (8, .g (.i 0)), (9, .g (intsX [0])), (10, .g (envX (tN 1) (lN 1))), (11, .g (.b true))], [], H4⟩ ?_ ?_
  · refine ⟨⟨Le.refl _, Le.refl _, Le.refl _, Le.refl _, Le.refl _, Le.refl _, Le.refl _, Le.refl _, Le.refl _, ?_, Le.refl _, trivial⟩, trivial, List.Sublist.refl _⟩
    have e := Option.some.inj ((al4_at1 bs bm b b1 b2).symm.trans hv)
    exact le_of_eq (by rw [← e])
  clear hv v
  refine sem_seq (esc := fun _ => false) tab_ok mixed ?_
  refine ⟨_, LeL.refl _, verEnv_con hs4 0 (fun _ => ?_) fun v hv => absurd ((al4_at0 bs bm b b1 b2).symm.trans hv) (by simp)⟩
  intro hz1 hz2; clear hz1 hz2
  refine sem_le ⟨[(0, .g (.b false)), (1, .g (.ptr bs 0)), (2, .g (.i 0)), (3, .g (.i 1)), (4, .g (.i 2)), (5, .g (.i 0)), (7, .g (.i 24)), (8, .g (.i 0)), (9, .g (intsX [0])), (10, .g (envX (tN 1) (lN 1))), (11, .g (.b true)), (13, .g (.b false))], [], H4⟩ ?_ ?_
  · exact ⟨⟨Le.refl _, Le.refl _, Le.refl _, Le.refl _, Le.refl _, Le.refl _, Le.refl _, Le.refl _, Le.refl _, Le.refl _, Le.refl _, Le.refl _, trivial⟩, trivial, List.Sublist.refl _⟩
  obtain ⟨zh, hzh⟩ : ∃ z : Int, z = 2 := ⟨_, rfl⟩
  refine sem_of (esc := fun _ => false) tab_ok mixed ?_
  refine ⟨[.sl .no 1 ([0].map .i), .sl .full 1 ([0].map .i)], LeL.refl _, (SameInts_con [0] [0]).as (decide_eq_true rfl) _ _ ?_⟩
  intro hz1 hz2; clear hz1 hz2
  refine ⟨_, LeL.refl _, (envLen_con (tN 1) (lN 1)).to (congrArg (fun n : Nat => AV.i (n : Nat)) lN1_len) _ _ ?_⟩
  intro hz1 hz2; clear hz1 hz2
  refine ⟨_, LeL.refl _, verHead_con hs4 ?_⟩
  intro hz1 hz2; clear hz1 hz2
  refine ⟨_, LeL.refl _, verPins_con hs4 1 ?_⟩
  intro hz1 hz2; clear hz1 hz2
  refine ⟨_, LeL.refl _, verLives_con hs4 (al4_ok bs bm b b1 b2) ?_⟩
  intro hz1 hz2; clear hz1 hz2
  refine ⟨[.sl .no 1 ((vNs (al4 bs bm b b1 b2).vs).map .i), .sl .full 1 ([1, 2].map .i)], LeL.refl _, (SameInts_con (vNs (al4 bs bm b b1 b2).vs) [1, 2]).as (decide_eq_true (al4_live bs bm b b1 b2)) _ _ ?_⟩
  intro hz1 hz2; clear hz1 hz2
  refine ⟨_, LeL.refl _, verRoom_con hs4 ?_⟩
  intro hz1 hz2; clear hz1 hz2
  refine ⟨_, LeL.refl _, verUnpin_con hs4 (al4_ok bs bm b b1 b2) 1 (by rw [al4_pins]; omega) (fun h => absurd ((al4_pins bs bm b b1 b2).symm.trans h) (by simp)) fun _ H5 hs5 => ?_⟩
  intro hz1 hz2; clear hz1 hz2
  have hs5 : HasSt (al5 bs bm b b1 b2) H H5 := hs5
  refine ⟨_, LeL.refl _, verUnpin_con hs5 (al5_ok bs bm b b1 b2) 1 (by rw [al5_pins]; omega) (fun _ => ?_) fun h => absurd (al5_pins bs bm b b1 b2) h⟩
  intro hz1 hz2; clear hz1 hz2
  exact ⟨_, H5, Le.refl _, List.Sublist.refl _, _, H, hs5, List.sublist_append_right _ _, hq⟩
end Go.Proofs.YtaldgcnhmnfocaaGreatDoor

/-
  VersNumbers: the law's walk. No condition.
-/
namespace Go.Proofs.YtaldgcnhmnfocaaGreatDoor
open Go.RowKit

/-- something that a store is told -/
structure Cl where
  what : Int
  n : Int
def clX (c : Cl) : AV := .agg [.i c.what, .i c.n]
def clsX (cs : List Cl) : AV := .sl .no 2 (cs.map clX)
theorem clAt {cs : List Cl} {k : Nat} (h : k < cs.length) : (cs.map clX)[k]? = some (clX cs[k]) := by simp [h]
theorem cls_len (cs : List Cl) : (cs.map clX).length = cs.length := List.length_map _
theorem ifNil_map {ys : List Int} {A B : Prop} (h0 : ys = [] → A) (h1 : ys ≠ [] → B) : ifNil (ys.map AV.i) A B := by
  cases ys with
  | nil => exact h0 rfl
  | cons y ys => exact h1 (by simp)
/-- a row that one may append to, somewhere among the objects -/
theorem own_ofP {q : Option Cap} {H0 HH : Heap} {b : Bool} {R1 : Cap → Prop} {R : Cap → Heap → Prop} (hH : HH.Perm (bufH q H0)) (hb : b = true) (hR : ∀ c, R c HH → R1 c) (h : ∀ (c : Cap) (H1 : Heap), H1.Perm H0 → R c H1) :
    (match ownQ q with
      | .no => False
      | .full => ∀ c : Cap, c.b ∉ HH.keys → R1 c
      | .own c0 => bif b then (∃ H0, Heap.Rem (c0.b, .cap c0) HH H0 ∧ ∀ c : Cap, c.b ∉ H0.keys → R c H0) else False) := by
  subst hb
  cases q with
  | none => exact fun c hc => hR c (h c HH hH)
  | some c0 =>
    obtain ⟨H1, h1, h2⟩ := rem_perm hH
    exact ⟨H1, h1, fun c _ => h c H1 h2⟩
theorem HasSt.buf {s : Sto} {q : Option Cap} {X H : Heap} (h : HasSt s (bufH q X) H) : H.Perm (bufH q (s.H ++ X)) := by
  cases q with
  | none => exact h
  | some c => exact List.Perm.trans h List.perm_middle
/-- pins are few -/
def Few (s : Sto) (n : Nat) : Prop := ∀ v ∈ s.vs, v.pins ≤ n
theorem Few.at {s : Sto} {n : Nat} (h : Few s n) (z : Int) : pinsAt s.vs z ≤ n := by
  unfold pinsAt
  split
  · rename_i v hv; exact h v (vAt_some hv).1
  · exact Nat.zero_le _
theorem Few.set {s : Sto} {n p : Nat} (h : Few s n) (hp : p ≤ n + 1) (z : Int) : Few (s.pins z p) (n + 1) := by
  intro v hv
  obtain ⟨u, hu, rfl⟩ := List.mem_map.1 hv
  have := h u hu
  split
  · exact hp
  · omega
theorem Few.up {s : Sto} {n : Nat} (h : Few s n) : Few s (n + 1) := fun v hv => by have := h v hv; omega
theorem vAt_pins {vs : List Vn} {n z : Int} {p : Nat} : vAt (setPins n p vs) z = none ↔ vAt vs z = none := by
  have key : ∀ ws : List Vn, vAt ws z = none ↔ ∀ k ∈ ws.map Vn.n, z ≠ (k : Int) := fun ws => by
    unfold vAt
    rw [List.find?_eq_none]
    simp
  rw [key, key, setPins_ns]
/-- what the law keeps -/
structure NumOk (i : Nat) (bs : Nat) (H : Heap) (s : Sto) (q : Option Cap) (gone : List Int) (Hk : Heap) : Prop where
  ok : s.Ok
  st : HasSt s (bufH q H) Hk
  bs : s.bs = bs
  hd : s.head ≤ i
  few : Few s i
  none : ∀ z ∈ gone, vAt s.vs z = none
  low : ∀ z ∈ gone, z ≤ (s.head : Int)
  sum : s.vs.length + gone.length = s.head + 1
theorem NumOk.up {i bs : Nat} {H : Heap} {s : Sto} {q : Option Cap} {gone : List Int} {Hk : Heap} (h : NumOk i bs H s q gone Hk) : NumOk (i + 1) bs H s q gone Hk := ⟨h.ok, h.st, h.bs, by have := h.hd; omega, h.few.up, h.none, h.low, h.sum⟩
theorem NumOk.set {i bs : Nat} {H : Heap} {s : Sto} {q : Option Cap} {gone : List Int} {Hk Hk' : Heap} (h : NumOk i bs H s q gone Hk) (n : Int) {p : Nat} (hp : p ≤ i + 1) (hst : HasSt (s.pins n p) (bufH q H) Hk') : NumOk (i + 1) bs H (s.pins n p) q gone Hk' :=
  ⟨h.ok.pins n p, hst, h.bs, by have := h.hd; show s.head ≤ i + 1; omega, h.few.set hp n, fun z hz => vAt_pins.2 (h.none z hz), h.low, by show (setPins n p s.vs).length + _ = _; rw [setPins, List.length_map]; exact h.sum⟩
theorem NumOk.push {i bs : Nat} {H : Heap} {s : Sto} {q : Option Cap} {gone : List Int} {Hk Hk' : Heap} (h : NumOk i bs H s q gone Hk) (hi : i ≤ 80) {b : Nat} {t : Tre} {l : List En} (hst : HasSt (s.more b t l) (bufH q H) Hk') : NumOk (i + 1) bs H (s.more b t l) q gone Hk' := by
  have hhd := h.hd
  have hsum := h.sum
  refine ⟨h.ok.more (by omega) (by omega) b t l, hst, h.bs, by show s.head + 1 ≤ i + 1; omega, fun v hv => ?_, fun z hz => vAt_new fun v hv => ?_, fun z hz => ?_, ?_⟩
  · rcases List.mem_append.1 hv with hv | hv
    · exact h.few.up v hv
    · rw [List.mem_singleton.1 hv]; exact Nat.zero_le _
  · rcases List.mem_append.1 hv with hv | hv
    · exact vAt_none (h.none z hz) v hv
    · rw [List.mem_singleton.1 hv]
      have := h.low z hz
      show z ≠ ((s.head + 1 : Nat) : Int)
      omega
  · have := h.low z hz
    show z ≤ ((s.head + 1 : Nat) : Int)
    omega
  · show (s.vs ++ [_]).length + gone.length = s.head + 1 + 1
    rw [List.length_append]
    simp only [List.length_cons, List.length_nil]
    omega
theorem filter_two {α : Type} (p : α → Bool) (l : List α) : (l.filter p).length + (l.filter fun x => !p x).length = l.length := by
  induction l with
  | nil => rfl
  | cons a l ih =>
    rw [List.filter_cons, List.filter_cons]
    cases p a
    · simp only [Bool.false_eq_true, if_false, Bool.not_false, if_true, List.length_cons]; omega
    · simp only [if_true, Bool.not_true, Bool.false_eq_true, if_false, List.length_cons]; omega
theorem gone_sum {s : Sto} : s.swept.vs.length + s.gone.length = s.vs.length := by
  have h1 : s.gone = (s.vs.filter fun v => !needN s v.n).map fun v => (v.n : Int) := by
    unfold Sto.gone vNs
    rw [List.filter_map]
    rfl
  rw [h1, List.length_map]
  exact filter_two (fun v => needN s v.n) s.vs
theorem gone_none {s : Sto} (hs : s.Ok) {z : Int} (hz : z ∈ s.gone) : vAt s.swept.vs z = none := by
  refine vAt_new fun v hv e => ?_
  obtain ⟨h1, h2⟩ := List.mem_filter.1 hv
  rw [e] at hz
  rw [(gone_in hs h1).1 hz] at h2
  cases h2
theorem vAt_sub {vs ws : List Vn} (h : ws.Sublist vs) {z : Int} (hz : vAt vs z = none) : vAt ws z = none := vAt_new fun v hv => vAt_none hz v (h.subset hv)
theorem NumOk.sweep {i bs : Nat} {H : Heap} {s : Sto} {q q' : Option Cap} {gone : List Int} {Hk Hk' : Heap} (h : NumOk i bs H s q gone Hk) (hst : HasSt s.swept (bufH q' H) Hk') : NumOk (i + 1) bs H s.swept q' (gone ++ s.gone) Hk' := by
  have hsum := h.sum
  have hg := gone_sum (s := s)
  refine ⟨h.ok.swept, hst, h.bs, by have := h.hd; show s.head ≤ i + 1; omega, fun v hv => h.few.up v (List.mem_filter.1 hv).1, fun z hz => ?_, fun z hz => ?_, ?_⟩
  · rcases List.mem_append.1 hz with hz | hz
    · exact vAt_sub List.filter_sublist (h.none z hz)
    · exact gone_none h.ok hz
  · rcases List.mem_append.1 hz with hz | hz
    · exact h.low z hz
    · obtain ⟨v, hv, rfl⟩ := List.mem_map.1 (List.mem_filter.1 hz).1
      have := h.ok.le hv
      show (v.n : Int) ≤ (s.head : Int)
      omega
  · show s.swept.vs.length + _ = s.head + 1
    rw [List.length_append]
    omega
set_option maxRecDepth 100000 in
set_option maxHeartbeats 4000000 in
theorem versNumbers_con (most : Int) (calls : List Cl) : Ans Tryz.prog 5 [.i most, clsX calls] (.b true) := by
  intro H Q hq
  have hcl := cls_len calls
  have fin : ∃ r H', Le (.b true) r ∧ List.Sublist H' H ∧ ∃ H2 H3 : Heap, H'.Perm H2 ∧ H3.Sublist H2 ∧ Q r H3 := ⟨_, H, Le.refl _, List.Sublist.refl _, H, H, List.Perm.refl _, List.Sublist.refl _, hq⟩
  refine Con.loose ?_
  refine con_of_sem tab_ok Tryz.func5 rfl (ent Tryz.func5 (by kernel_rfl) rfl) (by kernel_rfl) ?_
  intro hw hn
  clear hw hn
  refine sem_seq (esc := fun _ => false) tab_ok mixed ?_
  refine sem_seq (esc := fun _ => false) tab_ok mixed ?_
  refine ⟨_, LeL.refl _, alive22_con _ _ ?_⟩
  intro hz1 hz2; clear hz1 hz2
  refine sem_seq (esc := fun _ => false) tab_ok mixed ?_
  refine ifB_dec (fun g1 => ?_) (fun g1 => ?_)
  · exact fin
  · refine ifB_dec (fun g2 => ?_) (fun g2 => ?_)
    · exact fin
    · refine ifB_dec (fun g3 => ?_) (fun g3 => ?_)
      · exact fin
      · have hlen : calls.length ≤ 80 := by omega
        have hm1 : 1 ≤ most := by omega
        have hm2 : most ≤ 64 := by omega
        clear g1 g2 g3 fin
        refine sem_le ⟨[(0, .g (.i most)), (1, .g (clsX calls)), (4, .g (.b false))], [], H⟩ ?_ ?_
        · exact ⟨⟨Le.refl _, Le.refl _, Le.refl _, trivial⟩, trivial, List.Sublist.refl _⟩
        refine sem_seq (esc := fun _ => false) tab_ok mixed ?_
        refine ⟨[.i ((0 : Nat) : Int)], LeL.refl _, numbered_con 0 (by omega) _ _ ?_⟩
        intro hz1 hz2; clear hz1 hz2
        refine ⟨_, LeL.refl _, verNew_con (tN 0) (lN 0) most 1048576 (fun h => absurd h (by omega)) fun _ _ _ _ bs bm b H0 hs0 => ?_⟩
        intro hz1 hz2; clear hz1 hz2
        refine sem_seq (esc := fun _ => false) tab_ok mixed ?_
        refine sem_seq (esc := fun _ => false) tab_ok mixed ?_
        refine sem_seq (esc := fun _ => false) tab_ok mixed ?_
        have hN0 : NumOk 0 bs H (newS bs bm b most 1048576 (tN 0) (lN 0)) none [] H0 := ⟨newS_ok _ _ _ _ _ _ _, hs0, rfl, Nat.le_refl _, fun v hv => by rw [List.mem_singleton.1 hv]; exact Nat.le_refl _, nofun, nofun, rfl⟩
        refine sem_thenJ (fun H' : Heap => ⟨[], [], H'⟩) (fun H' => ∃ H2, H'.Perm (H2 ++ H)) ?_ ?_
        · refine sem_seq (esc := fun _ => false) tab_ok mixed ?_
          refine sem_block ?_
          refine sem_loop (fun x : Nat × Sto × Option Cap × List Int × Heap => ⟨[(1, .g (clsX calls)), (4, .g (.b false)), (5, .g (.ptr bs 0)), (7, .g (.i (x.2.1.head : Nat))), (8, .g (.sl (ownQ x.2.2.1) 1 (x.2.2.2.1.map .i))), (9, .g (.i x.1))], [], x.2.2.2.2⟩) (fun x => x.1 ≤ calls.length ∧ NumOk x.1 bs H x.2.1 x.2.2.1 x.2.2.2.1 x.2.2.2.2) (fun x => calls.length - x.1) ⟨(0, _, none, [], H0), ⟨Nat.zero_le _, hN0⟩, ?_⟩ ?_
          · exact ⟨⟨Le.refl _, Le.refl _, Le.refl _, Le.refl _, Le.refl _, Le.refl _, trivial⟩, trivial, List.Sublist.refl _⟩
          · rintro ⟨i, s, q, gone, Hk⟩ ⟨hi, hN⟩
            simp only at hi hN
            have hle : Le (.ptr bs 0) (.ptr s.bs 0) := le_of_eq (by rw [hN.bs])
            have hhd := hN.hd
            have hsum := hN.sum
            have hgs := gone_sum (s := s)
            refine sem_seq (esc := fun _ => false) tab_ok mixed ?_
            refine ifB_dec (fun h1 => ?_) (fun h1 => ?_)
            · have hlt : i < calls.length := by omega
              have hfew := hN.few.at calls[i].n
              have hgm : (gone.map AV.i).length = gone.length := List.length_map _
              have hsm : (s.gone.map AV.i).length = s.gone.length := List.length_map _
              refine sem_then ?_
              refine sem_block ?_
              refine sem_seq (esc := fun _ => false) tab_ok mixed ?_
              refine ⟨i, rfl, _, clAt hlt, ?_⟩
              refine sem_join (esc := fun _ => false) tab_ok mixed (fun y : Sto × Option Cap × List Int × Heap => ⟨[(1, .g (clsX calls)), (4, .g (.b false)), (5, .g (.ptr bs 0)), (7, .g (.i (y.1.head : Nat))), (8, .g (.sl (ownQ y.2.1) 1 (y.2.2.1.map .i))), (9, .g (.i i))], [], y.2.2.2⟩) (fun y => NumOk (i + 1) bs H y.1 y.2.1 y.2.2.1 y.2.2.2) ?_ ?_
              · refine ifB_dec (fun c0 => ?_) (fun c0 => ?_)
                · refine ⟨[.i ((1 : Nat) : Int)], LeL.refl _, numbered_con 1 (by omega) _ _ ?_⟩
                  intro hz1 hz2; clear hz1 hz2
                  refine ⟨[.ptr s.bs 0, envX (tN 1) (lN 1)], ⟨hle, Le.refl _, trivial⟩, verPush_con hN.st hN.ok (tN 1) (lN 1) (fun hr => ?_) fun hr b1 H1 hs1 => ?_⟩
                  · intro hz1 hz2; clear hz1 hz2
                    refine ifB_f hr ?_
                    refine ifB_f hr ?_
                    refine ifB_dec (fun g => ?_) (fun g => ?_)
                    · refine ⟨(s, q, gone, Hk), hN.up, ?_⟩
                      exact ⟨⟨Le.refl _, Le.refl _, Le.refl _, Le.refl _, Le.refl _, Le.refl _, trivial⟩, trivial, List.Sublist.refl _⟩
                    · refine ⟨(s, q, gone, Hk), hN.up, ?_⟩
                      exact ⟨⟨Le.refl _, Le.refl _, Le.refl _, Le.refl _, Le.refl _, Le.refl _, trivial⟩, trivial, List.Sublist.refl _⟩
                  · intro hz1 hz2; clear hz1 hz2
                    refine ⟨in64_of (by first | omega | (dsimp only; omega)) (by first | omega | (dsimp only; omega)), ?_⟩
                    refine ifB_t (show ((s.head + 1 : Nat) : Int) = (s.head : Int) + 1 by omega) ?_
                    refine ifB_t (show (0 : Int) < ((s.head + 1 : Nat) : Int) by omega) ?_
                    refine ⟨(s.more b1 (tN 1) (lN 1), q, gone, H1), hN.push (by omega) hs1, ?_⟩
                    exact ⟨⟨Le.refl _, Le.refl _, Le.refl _, Le.refl _, Le.refl _, Le.refl _, trivial⟩, trivial, List.Sublist.refl _⟩
                · refine ifB_dec (fun c1 => ?_) (fun c1 => ?_)
                  · refine ⟨[.ptr s.bs 0, .i calls[i].n], ⟨hle, Le.refl _, trivial⟩, verPin_con hN.st hN.ok calls[i].n (by omega) (fun _ => ?_) fun _ H1 hs1 => ?_⟩
                    · intro hz1 hz2; clear hz1 hz2
                      refine ⟨(s, q, gone, Hk), hN.up, ?_⟩
                      exact ⟨⟨Le.refl _, Le.refl _, Le.refl _, Le.refl _, Le.refl _, Le.refl _, trivial⟩, trivial, List.Sublist.refl _⟩
                    · intro hz1 hz2; clear hz1 hz2
                      refine ⟨(s.pins calls[i].n (pinsAt s.vs calls[i].n + 1), q, gone, H1), hN.set _ (by omega) hs1, ?_⟩
                      exact ⟨⟨Le.refl _, Le.refl _, Le.refl _, Le.refl _, Le.refl _, Le.refl _, trivial⟩, trivial, List.Sublist.refl _⟩
                  · refine ifB_dec (fun c2 => ?_) (fun c2 => ?_)
                    · refine ⟨[.ptr s.bs 0, .i calls[i].n], ⟨hle, Le.refl _, trivial⟩, verUnpin_con hN.st hN.ok calls[i].n (by omega) (fun _ => ?_) fun _ H1 hs1 => ?_⟩
                      · intro hz1 hz2; clear hz1 hz2
                        refine ⟨(s, q, gone, Hk), hN.up, ?_⟩
                        exact ⟨⟨Le.refl _, Le.refl _, Le.refl _, Le.refl _, Le.refl _, Le.refl _, trivial⟩, trivial, List.Sublist.refl _⟩
                      · intro hz1 hz2; clear hz1 hz2
                        refine ⟨(s.pins calls[i].n (pinsAt s.vs calls[i].n - 1), q, gone, H1), hN.set _ (by omega) hs1, ?_⟩
                        exact ⟨⟨Le.refl _, Le.refl _, Le.refl _, Le.refl _, Le.refl _, Le.refl _, trivial⟩, trivial, List.Sublist.refl _⟩
                    · refine ifB_dec (fun c3 => ?_) (fun c3 => ?_)
                      · refine ⟨[.ptr s.bs 0], ⟨hle, trivial⟩, verSweep_con hN.st hN.ok fun H1 hs1 => ?_⟩
                        intro hz1 hz2; clear hz1 hz2
                        refine ⟨by rw [hgm, hsm]; show _ * (8 + 1) ≤ _; omega, ifNil_map (fun hg => ?_) fun hg => ?_⟩
                        · refine ⟨(s.swept, q, gone ++ s.gone, H1), hN.sweep hs1, ?_⟩
                          exact ⟨⟨Le.refl _, Le.refl _, Le.refl _, Le.refl _, le_of_eq (by rw [hg, List.append_nil]), Le.refl _, trivial⟩, trivial, List.Sublist.refl _⟩
                        · refine own_ofP (q := q) (H0 := s.swept.H ++ H) hs1.buf rfl (fun _ h => h) fun c H2 hp => ?_
                          refine ⟨(s.swept, some c, gone ++ s.gone, (c.b, .cap c) :: H2), hN.sweep (HasSt.cons hp _), ?_⟩
                          exact ⟨⟨Le.refl _, Le.refl _, Le.refl _, Le.refl _, le_of_eq (by rw [List.map_append]; rfl), Le.refl _, trivial⟩, trivial, List.Sublist.refl _⟩
                      · refine ⟨(s, q, gone, Hk), hN.up, ?_⟩
                        exact ⟨⟨Le.refl _, Le.refl _, Le.refl _, Le.refl _, Le.refl _, Le.refl _, trivial⟩, trivial, List.Sublist.refl _⟩
              · rintro ⟨s2, q2, gone2, Hk2⟩ hN2
                simp only at hN2
                clear hN hle hhd hsum hgs hfew hgm hsm
                have hle : Le (.ptr bs 0) (.ptr s2.bs 0) := le_of_eq (by rw [hN2.bs])
                have hhd := hN2.hd
                have hsum := hN2.sum
                have hgm : (gone2.map AV.i).length = gone2.length := List.length_map _
                have hvm : ((vNs s2.vs).map AV.i).length = s2.vs.length := by rw [List.length_map, vNs_len]
                refine sem_seq (esc := fun _ => false) tab_ok mixed ?_
                refine ⟨Nat, fun k => ⟨[(1, .g (clsX calls)), (4, .g (.b false)), (5, .g (.ptr bs 0)), (7, .g (.i (s2.head : Nat))), (8, .g (.sl (ownQ q2) 1 (gone2.map .i))), (9, .g (.i i)), (13, .g (.i k))], [], Hk2⟩, fun k => k ≤ gone2.length, fun k => gone2.length - k, ⟨0, Nat.zero_le _, ?_⟩, ?_⟩
                · exact ⟨⟨Le.refl _, Le.refl _, Le.refl _, Le.refl _, Le.refl _, Le.refl _, Le.refl _, trivial⟩, trivial, List.Sublist.refl _⟩
                · intro k hk
                  refine ifB_dec (fun h2 => ?_) (fun h2 => ?_)
                  · have hk2 : k < gone2.length := by omega
                    have hno := hN2.none _ (List.getElem_mem hk2)
                    refine ⟨k, rfl, _, inAt hk2, ?_⟩
                    refine ⟨[.ptr s2.bs 0, .i gone2[k]], ⟨hle, Le.refl _, trivial⟩, verEnv_con hN2.st gone2[k] (fun _ => ?_) fun v hv => absurd (hno.symm.trans hv) (by simp)⟩
                    intro hz1 hz2; clear hz1 hz2
                    refine ⟨k, rfl, _, inAt hk2, ?_⟩
                    refine ⟨[.ptr s2.bs 0, .i gone2[k]], ⟨hle, Le.refl _, trivial⟩, verPin_con hN2.st hN2.ok gone2[k] (by have := hN2.few.at gone2[k]; omega) (fun _ => ?_) fun h => absurd hno h⟩
                    intro hz1 hz2; clear hz1 hz2
                    refine ⟨in64_of (by first | omega | (dsimp only; omega)) (by first | omega | (dsimp only; omega)), ?_⟩
                    refine ⟨k + 1, (by omega), by (try dsimp only); omega, ?_⟩
                    exact ⟨⟨Le.refl _, Le.refl _, Le.refl _, Le.refl _, Le.refl _, Le.refl _, Le.refl _, trivial⟩, trivial, List.Sublist.refl _⟩
                  · refine sem_of (esc := fun _ => false) tab_ok mixed ?_
                    refine ⟨[.ptr s2.bs 0], ⟨hle, trivial⟩, verHead_con hN2.st ?_⟩
                    intro hz1 hz2; clear hz1 hz2
                    refine ifB_t rfl ?_
                    refine ⟨[.ptr s2.bs 0], ⟨hle, trivial⟩, verLives_con hN2.st hN2.ok ?_⟩
                    intro hz1 hz2; clear hz1 hz2
                    refine ⟨in64_of (by first | omega | (dsimp only; omega)) (by first | omega | (dsimp only; omega)), ?_⟩
                    refine ⟨in64_of (by first | omega | (dsimp only; omega)) (by first | omega | (dsimp only; omega)), ?_⟩
                    refine ifB_t (show ((((vNs s2.vs).map AV.i).length : Nat) : Int) + (((gone2.map AV.i).length : Nat) : Int) = (s2.head : Int) + 1 by omega) ?_
                    refine sem_of (esc := fun _ => false) tab_ok mixed ?_
                    refine ⟨in64_of (by first | omega | (dsimp only; omega)) (by first | omega | (dsimp only; omega)), ?_⟩
                    refine ⟨(i + 1, s2, q2, gone2, Hk2), ⟨by simp only; omega, hN2⟩, by (try dsimp only); omega, ?_⟩
                    exact ⟨⟨Le.refl _, Le.refl _, Le.refl _, Le.refl _, Le.refl _, Le.refl _, trivial⟩, trivial, List.Sublist.refl _⟩
            · refine ⟨Hk, ?_, ?_⟩
              · have hp := hN.st
                cases q with
                | none => exact ⟨s.H, hp⟩
                | some c => exact ⟨s.H ++ [(c.b, .cap c)], by rw [List.append_assoc]; exact hp⟩
              · exact ⟨trivial, trivial, List.Sublist.refl _⟩
        · rintro H' ⟨H2, hp⟩
          refine sem_of (esc := fun _ => false) tab_ok mixed ?_
          exact ⟨_, H', Le.refl _, List.Sublist.refl _, H2 ++ H, H, hp, List.sublist_append_right _ _, hq⟩
end Go.Proofs.YtaldgcnhmnfocaaGreatDoor

/-
  Rows of calls of a store as a law's arguments. No condition.
-/
namespace Go.Proofs.YtaldgcnhmnfocaaGreatDoor
open Go.ChangeShapes Go.WideShapes Go.ChangeAt Go.RowKit

section
variable {H : Type} {enc : TypeId × Value → H} {W : World}
theorem op_cl : ∀ n, Op enc Tryz.prog W n 34 fun xs => ∃ c : Cl, xs = (clX c).cells
  | 0 => Op.zero
  | n + 1 => by
    refine (Op.struct (As := [fun xs => ∃ z, xs = [AV.i z], fun xs => ∃ z, xs = [AV.i z]]) Tryz.underlying34 (by kernel_rfl) ⟨?_, ?_, trivial⟩).mono fun xs hx => ?_
    · exact (Op.int (k := .i64) (by kernel_rfl)).mono fun _ ⟨z, _, h⟩ => ⟨z, h⟩
    · exact (Op.int (k := .i64) (by kernel_rfl)).mono fun _ ⟨z, _, h⟩ => ⟨z, h⟩
    · obtain ⟨_, _, ⟨s, rfl⟩, ⟨_, _, ⟨t, rfl⟩, rfl, rfl⟩, rfl⟩ := hx
      exact ⟨⟨s, t⟩, rfl⟩
theorem op_cls (n : Nat) : Op enc Tryz.prog W n 22 fun xs => ∃ ls : List Cl, xs = [clsX ls] := by
  cases n with
  | zero => exact Op.zero
  | succ n =>
    refine (Op.slice (C := 2) (e := 34) (B := fun y => ∃ l, y = clX l) (by kernel_rfl) (by kernel_rfl) (by decide) ((op_cl n).mono fun xs hx => ?_)).mono fun xs hx => ?_
    · obtain ⟨l, rfl⟩ := hx
      exact ⟨clX l, ⟨l, rfl⟩, rfl⟩
    · obtain ⟨ys, hy, rfl⟩ := hx
      obtain ⟨zs, rfl⟩ := map_of hy
      exact ⟨zs, rfl⟩
end
end Go.Proofs.YtaldgcnhmnfocaaGreatDoor
