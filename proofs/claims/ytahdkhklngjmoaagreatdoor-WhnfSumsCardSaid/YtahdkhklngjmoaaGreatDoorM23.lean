/-
  Texts put together: I31, I32. No condition.
-/
import Derived.Test.YtahdkhklngjmoaaGreatDoorM22
/-
  Whnf, plain: sums and products of numbers come to what they are. No condition.
-/
namespace Go.Proofs.YtahdkhklngjmoaaGreatDoor
open Go.RowKit

/-! what has no loose variable -/
mutual
theorem lift_closed {p c : Int} : ∀ (t : Tm) (d : Int), tmFit p t d = true → tmLift c t d = t
  | .mk k n nm ls xs, d, h => by
    rw [tmLift, liftL_closed k xs 0 d (fit_args h)]
    by_cases h1 : k = 1
    · obtain ⟨_, b, _⟩ := fit_var h h1
      rw [if_neg (fun e => by omega)]
    · rw [if_neg (fun e => h1 e.1)]
theorem liftL_closed {p c : Int} (k : Int) : ∀ (ts : List Tm) (i : Nat) (d : Int), tmFitL p k ts i d = true → tmLiftL c k ts i d = ts
  | [], _, _, _ => rfl
  | t :: ts, i, d, h => by
    obtain ⟨h1, h2⟩ := fitL_cons h
    rw [tmLiftL, lift_closed t _ h1, liftL_closed k ts (i + 1) d h2]
end
mutual
theorem bld_closed {p : Int} {args : List Tm} : ∀ (t : Tm) (d : Int), tmFit p t d = true → bld (instF args) t d = t
  | .mk k n nm ls xs, d, h => by
    by_cases h1 : k = 1
    · obtain ⟨_, b, rfl, rfl, rfl⟩ := fit_var h h1
      subst h1
      rw [bld_inst_var, if_neg (by omega)]
    · rw [bld_inst_other h1, bldL_closed k xs 0 d (fit_args h)]
theorem bldL_closed {p : Int} {args : List Tm} (k : Int) : ∀ (ts : List Tm) (i : Nat) (d : Int), tmFitL p k ts i d = true → bldL (instF args) k ts i d = ts
  | [], _, _, _ => rfl
  | t :: ts, i, d, h => by
    obtain ⟨h1, h2⟩ := fitL_cons h
    rw [bldL, bld_closed t _ h1, bldL_closed k ts (i + 1) d h2]
end
/-- a closed term of so many nodes -/
structure Cl (t : Tm) (s : Nat) : Prop where
  fit : tmFit 4 t 0 = true
  nodes : t.nodes ≤ s
theorem Cl.at {t : Tm} {s : Nat} (h : Cl t s) {d : Int} (hd : 0 ≤ d) : tmFit 4 t d = true := tmFit_mono 4 t 0 d hd h.fit
theorem Cl.bld {t : Tm} {s : Nat} (h : Cl t s) (args : List Tm) {d : Int} (hd : 0 ≤ d) : bld (instF args) t d = t := bld_closed t d (h.at hd)
theorem Cl.lift {t : Tm} {s : Nat} (h : Cl t s) (c : Int) : tmLift c t 0 = t := lift_closed t 0 h.fit
theorem Cl.mono {t : Tm} {s s' : Nat} (h : Cl t s) (k : s ≤ s') : Cl t s' := ⟨h.fit, Nat.le_trans h.nodes k⟩
theorem Cl.right {t : Tm} {s : Nat} (h : Cl t s) (hs : s ≤ 2000) : tmRight 4 1125899906842624 t = true := by
  have := h.nodes
  unfold tmRight
  simp only [Bool.and_eq_true, decide_eq_true_eq]
  exact ⟨⟨⟨⟨by decide, by decide⟩, by decide⟩, by omega⟩, h.at (by decide)⟩

/-! steps and heads, whatever ticks are left behind -/
def StpT (t u : Tm) (c : Nat) : Prop := ∃ k, ∀ m, wStep libL t (m + c + 1) = (.to k u, m)
def HdTo (t w : Tm) (c : Nat) : Prop := ∀ n, wHd libL t (n + c) = (w, 0, n)
theorem HdTo.step {t u w : Tm} {c c' : Nat} (h : StpT t u c) (k : HdTo u w c') : HdTo t w (c' + c + 1) := fun n => by
  obtain ⟨i, h⟩ := h
  have := h (n + c')
  rw [wHd_eq, show n + (c' + c + 1) = n + c' + c + 1 by omega, this]
  exact k n
theorem HdTo.stay {t : Tm} (h : ∀ n, wFind libL (wHd libL) t n = (.none, n)) : HdTo t t 0 := fun n => by
  rw [wHd_eq]
  unfold wStep
  rw [Nat.add_zero, h n]
  rfl
theorem stp_of {t u : Tm} {c : Nat} {k : Int} (h : ∀ m, wFind libL (wHd libL) t (m + c) = (.rx k u true, m)) (hu : u.nodes ≤ 2000) : StpT t u c := ⟨k, fun m => by
  unfold wStep
  rw [show m + c + 1 = (m + 1) + c by omega, h (m + 1)]
  unfold wDone
  simp [hu]⟩
theorem find_beta (T b a : Tm) (ys : List Tm) (n : Nat) : wFind libL (wHd libL) (tmAps (lamT T b) (a :: ys)) n = (.rx 1 (tmAps (bInst b [a]).1 ys) (bInst b [a]).2, n) := by
  obtain ⟨h1, h2⟩ := app_spine (a :: ys) (lamT T b)
  have hk : ¬((lamT T b).kind = 4 ∧ (lamT T b).args.length = 2) := fun h => absurd (show (5 : Int) = 4 from h.1) (by decide)
  have e1 : tmHead (lamT T b) = lamT T b := (spine_stop hk).1
  have e2 : tmArgs (lamT T b) = [] := (spine_stop hk).2
  rw [e1] at h1
  rw [e2] at h2
  unfold wFind
  rw [h1, h2]
  rfl
/-- a function of a closed term -/
theorem stp_beta {T b a r : Tm} {ys : List Tm} {s : Nat} (ha : Cl a s) (hs : s ≤ 2000) (hb : tmFit 4 b 1 = true) (hbn : b.nodes ≤ 2000) (hr : bld (instF [a]) b 0 = r) (hn : r.nodes + Tm.nodesL ys + ys.length ≤ 2000) : StpT (tmAps (lamT T b) (a :: ys)) (tmAps r ys) 0 := by
  have hbr : tmRight 4 1125899906842624 b = true := by
    unfold tmRight
    simp only [Bool.and_eq_true, decide_eq_true_eq]
    exact ⟨⟨⟨⟨by decide, by decide⟩, by decide⟩, hbn⟩, tmFit_mono 4 b 1 _ (by decide) hb⟩
  have e : bInst b [a] = (r, true) := by
    unfold bInst
    rw [if_pos ⟨hbr, (show 1 ≤ 1048576 by decide), by rw [List.all_cons, ha.right hs]; rfl⟩, hr]
    unfold madeB
    rw [if_pos (by omega)]
  refine stp_of (k := 1) (fun m => ?_) (by rw [app_nodes]; exact hn)
  rw [find_beta, e]
  rfl
theorem Cl.packOk {t : Tm} {s : Nat} (h : Cl t s) (hs : s ≤ 2000) : packOk t = true := by
  have h1 := h.nodes
  have h2 : tmRight 4 1099511627776 t = true := by
    unfold tmRight
    simp only [Bool.and_eq_true, decide_eq_true_eq]
    exact ⟨⟨⟨⟨by decide, by decide⟩, by decide⟩, by omega⟩, h.at (by decide)⟩
  unfold Proofs.YtahdkhklngjmoaaGreatDoor.packOk
  rw [h2, near_fit t 4 0 (by omega) h.fit]
  rfl
/-- a chain of steps, whatever it ends in -/
def Pre (t t' : Tm) (d : Nat) : Prop := ∀ w c, HdTo t' w c → HdTo t w (c + d)
theorem Pre.trans {a b c : Tm} {d e : Nat} (h : Pre a b d) (k : Pre b c e) : Pre a c (e + d) := fun w n hw => by
  have := h w _ (k w n hw)
  rw [show n + (e + d) = n + e + d by omega]
  exact this
theorem StpT.pre {t u : Tm} {c : Nat} (h : StpT t u c) : Pre t u (c + 1) := fun w n hw => hw.step h
theorem find_conT (nm : List UInt8) (ls : List Lv) (ys : List Tm) (n : Nat) : wFind libL (wHd libL) (tmAps (conT nm ls) ys) n = wConst libL (wHd libL) (conT nm ls) ys n := by
  obtain ⟨h1, h2⟩ := app_spine ys (conT nm ls)
  have hk : ¬((conT nm ls).kind = 4 ∧ (conT nm ls).args.length = 2) := fun h => absurd (show (3 : Int) = 4 from h.1) (by decide)
  have e1 : tmHead (conT nm ls) = conT nm ls := (spine_stop hk).1
  have e2 : tmArgs (conT nm ls) = [] := (spine_stop hk).2
  rw [e1] at h1
  rw [e2, List.nil_append] at h2
  unfold wFind
  rw [h1, h2]
  rfl
theorem stp_delta {nm : List UInt8} {e : En} {v : Tm} (he : envGet libL nm = (e, true)) (hp : e.params = 0) (hk : e.kind = 2) (hv : enValue e [] = (v, 0)) (ys : List Tm) (hn : v.nodes + Tm.nodesL ys + ys.length ≤ 2000) : StpT (tmAps (conT nm []) ys) (tmAps v ys) 0 := by
  refine stp_of (k := 3) (fun m => ?_) (by rw [app_nodes]; exact hn)
  rw [find_conT]
  unfold wConst
  rw [show (conT nm []).name = nm from rfl, show (conT nm []).levels = [] from rfl, he, if_pos ⟨rfl, by rw [hp]; rfl⟩]
  simp only
  rw [if_pos hk, hv]
  rfl

/-! a closed term in the place of a variable -/
theorem bld_con (args : List Tm) (nm : List UInt8) (ls : List Lv) (d : Int) : bld (instF args) (conT nm ls) d = conT nm ls := bld_inst_other (by decide)
theorem bld_lam (args : List Tm) (a b : Tm) (d : Int) : bld (instF args) (lamT a b) d = lamT (bld (instF args) a d) (bld (instF args) b (d + 1)) := bld_inst_other (by decide)
theorem bld_app (args : List Tm) (a b : Tm) (d : Int) : bld (instF args) (.mk 4 0 [] [] [a, b]) d = .mk 4 0 [] [] [bld (instF args) a d, bld (instF args) b d] := bld_inst_other (by decide)
theorem bld_aps (args : List Tm) (d : Int) : ∀ (ts : List Tm) (f : Tm), bld (instF args) (tmAps f ts) d = tmAps (bld (instF args) f d) (ts.map fun t => bld (instF args) t d)
  | [], f => rfl
  | t :: ts, f => by rw [tmAps_cons, bld_aps args d ts, bld_app, List.map_cons, tmAps_cons]
theorem bld_at (a : Tm) (d : Int) : bld (instF [a]) (varT d) d = tmLift d a 0 := by
  unfold varT
  rw [bld_inst_var, if_pos (Int.le_refl _), if_neg (by simp only [List.length_cons, List.length_nil]; omega), Int.sub_self]
  rfl
theorem bld_below (a : Tm) (n d : Int) (h : n < d) : bld (instF [a]) (varT n) d = varT n := by
  unfold varT
  rw [bld_inst_var, if_neg (by omega)]
theorem fit_lam2 {v : Int} {a b : Tm} (ha : tmFit 4 a v = true) (hb : tmFit 4 b (v + 1) = true) : tmFit 4 (lamT a b) v = true := by
  unfold lamT
  rw [fit_pair (Or.inr (Or.inl rfl)), ha, if_neg (by decide), hb]
  rfl
theorem fit_aps4 {v : Int} {f : Tm} {ts : List Tm} (hf : tmFit 4 f v = true) (ht : ∀ t ∈ ts, tmFit 4 t v = true) : tmFit 4 (tmAps f ts) v = true := app_fit ts f hf ht
theorem fit_v {n v : Int} (h0 : 0 ≤ n) (h1 : n < v) : tmFit 4 (varT n) v = true := fit_tV h0 h1
theorem cl_nat : Cl natT 1 := ⟨by kernel_rfl, by decide⟩
set_option maxRecDepth 100000 in
theorem cl_rec : Cl (recT oneLs) 2 := ⟨by kernel_rfl, by decide⟩
theorem cl_add : Cl (conT [97, 100, 100] []) 1 := ⟨by kernel_rfl, by decide⟩
theorem cl_mul : Cl (conT [109, 117, 108] []) 1 := ⟨by kernel_rfl, by decide⟩
theorem cl_zero : Cl zeroT 1 := ⟨by kernel_rfl, by decide⟩
theorem cl_succ : Cl succT 1 := ⟨by kernel_rfl, by decide⟩
theorem cl_motive : Cl motiveT 3 := ⟨by kernel_rfl, by decide⟩
set_option maxRecDepth 100000 in
theorem cl_next : Cl nextT 7 := ⟨by kernel_rfl, by decide⟩
theorem all2 {P : Tm → Prop} {a b : Tm} (ha : P a) (hb : P b) : ∀ t ∈ [a, b], P t := by
  intro t ht
  rcases List.mem_cons.1 ht with rfl | ht
  · exact ha
  · rw [List.mem_singleton.1 ht]; exact hb
theorem all1 {P : Tm → Prop} {a : Tm} (ha : P a) : ∀ t ∈ [a], P t := by
  intro t ht
  rw [List.mem_singleton.1 ht]
  exact ha
theorem allc {P : Tm → Prop} {a : Tm} {l : List Tm} (ha : P a) (hl : ∀ t ∈ l, P t) : ∀ t ∈ a :: l, P t := by
  intro t ht
  rcases List.mem_cons.1 ht with rfl | ht
  · exact ha
  · exact hl t ht
/-- the recursor -/
def recA (m x f y : Tm) : Tm := tmAps (recT oneLs) [m, x, f, y]
set_option maxRecDepth 100000 in
theorem get_rec : envGet libL [110, 97, 116, 46, 114, 101, 99] = (enRec, true) := by kernel_rfl
set_option maxRecDepth 100000 in
theorem find_rec (m x f y : Tm) (n : Nat) : wFind libL (wHd libL) (recA m x f y) n = wIota libL (wHd libL) (recT oneLs) enRec [m, x, f, y] n := by
  unfold recA recT
  rw [find_conT]
  unfold wConst
  rw [show (conT [110, 97, 116, 46, 114, 101, 99] oneLs).name = [110, 97, 116, 46, 114, 101, 99] from rfl, get_rec, if_pos ⟨rfl, rfl⟩]
  simp only
  rw [if_neg (by decide), if_pos (by rfl)]
set_option maxRecDepth 100000 in
theorem iota_at {m x f y w : Tm} {c : Nat} (h : HdTo y w c) (n : Nat) : wIota libL (wHd libL) (recT oneLs) enRec [m, x, f, y] (n + c) = match wCtor libL enRec.ctors w with
    | some ce => (wRule (recT oneLs) [m, x, f, y] 3 3 w ce, n)
    | none => (.none, n) := by
  have e0 : ([m, x, f, y] : List Tm)[enRec.fixed.toNat + 1 + enRec.ctors.length + enRec.index.toNat]? = some y := rfl
  unfold wIota
  simp only [e0]
  rw [h n]
  simp only [if_true]
  rfl
def succ1V : Tm := lamT natT (lamT natT (lamT natT (lamT natT (tmAps (varT 1) [varT 0, recA (varT 3) (varT 2) (varT 1) (varT 0)]))))
set_option maxRecDepth 100000 in
theorem ctor0 : wCtor libL enRec.ctors zeroT = some enZero := by kernel_rfl
set_option maxRecDepth 100000 in
theorem ctorS (u : Tm) : wCtor libL enRec.ctors (tmAps succT [u]) = some enSucc := by kernel_rfl
set_option maxRecDepth 100000 in
theorem rule0 (m x f y : Tm) : wRule (recT oneLs) [m, x, f, y] 3 3 zeroT enZero = .rx 4 (tmAps zeroV [m, x, f]) true := by kernel_rfl
set_option maxRecDepth 100000 in
theorem ruleS (m x f y u : Tm) : wRule (recT oneLs) [m, x, f, y] 3 3 (tmAps succT [u]) enSucc = .rx 4 (tmAps succ1V [m, x, f, u]) true := by kernel_rfl
set_option maxRecDepth 100000 in
theorem stp_iota0 {m x f y : Tm} {c : Nat} (h : HdTo y zeroT c) (hn : m.nodes + x.nodes + f.nodes ≤ 1900) : StpT (recA m x f y) (tmAps zeroV [m, x, f]) c := by
  refine stp_of (k := 4) (fun n => ?_) (by
    have : zeroV.nodes ≤ 30 := by decide
    rw [app_nodes]
    simp only [Tm.nodesL, List.length_cons, List.length_nil]
    omega)
  rw [find_rec, iota_at h, ctor0]
  simp only
  rw [rule0]
set_option maxRecDepth 100000 in
theorem stp_iotaS {m x f y u : Tm} {c : Nat} (h : HdTo y (tmAps succT [u]) c) (hn : m.nodes + x.nodes + f.nodes + u.nodes ≤ 1900) : StpT (recA m x f y) (tmAps succ1V [m, x, f, u]) c := by
  refine stp_of (k := 4) (fun n => ?_) (by
    have : succ1V.nodes ≤ 30 := by decide
    rw [app_nodes]
    simp only [Tm.nodesL, List.length_cons, List.length_nil]
    omega)
  rw [find_rec, iota_at h, ctorS]
  simp only
  rw [ruleS]
theorem recA_nodes (m x f y : Tm) : (recA m x f y).nodes = m.nodes + x.nodes + f.nodes + y.nodes + 6 := by
  unfold recA
  have : (recT oneLs).nodes = 2 := rfl
  rw [app_nodes]
  simp only [Tm.nodesL, List.length_cons, List.length_nil]
  omega
theorem fit_recA {v : Int} {m x f y : Tm} (h0 : 0 ≤ v) (hm : tmFit 4 m v = true) (hx : tmFit 4 x v = true) (hf : tmFit 4 f v = true) (hy : tmFit 4 y v = true) : tmFit 4 (recA m x f y) v = true := fit_aps4 (cl_rec.at h0) (allc hm (allc hx (allc hf (all1 hy))))
theorem lam_nodes (a b : Tm) : (lamT a b).nodes = a.nodes + b.nodes + 1 := by
  unfold lamT
  simp only [Tm.nodes, Tm.nodesL, Lv.nodesL]
  omega
theorem aps1_nodes (f a : Tm) : (tmAps f [a]).nodes = f.nodes + a.nodes + 1 := by
  rw [app_nodes]
  simp only [Tm.nodesL, List.length_cons, List.length_nil]
  omega
theorem aps2_nodes (f a b : Tm) : (tmAps f [a, b]).nodes = f.nodes + a.nodes + b.nodes + 2 := by
  rw [app_nodes]
  simp only [Tm.nodesL, List.length_cons, List.length_nil]
  omega
theorem bld_recA (args : List Tm) (m x f y : Tm) (d : Int) : bld (instF args) (recA m x f y) d = recA (bld (instF args) m d) (bld (instF args) x d) (bld (instF args) f d) (bld (instF args) y d) := by
  unfold recA recT
  rw [bld_aps, bld_con]
  rfl
set_option maxRecDepth 100000 in
/-- a case of zero: what it begins with -/
theorem pre_rec0 {m x f y : Tm} {c sm sx sf : Nat} (hm : Cl m sm) (hx : Cl x sx) (hf : Cl f sf) (hs : sm + sx + sf ≤ 1900) (h : HdTo y zeroT c) : Pre (recA m x f y) x (c + 4) := by
  have n1 := hm.nodes
  have n2 := hx.nodes
  have n3 := hf.nodes
  have p1 := (stp_iota0 (f := f) (m := m) (x := x) h (by omega)).pre
  have p2 := (stp_beta (T := natT) (b := lamT natT (lamT natT (varT 1))) (ys := [x, f]) (r := lamT natT (lamT natT (varT 1))) hm (by omega) (by kernel_rfl) (by decide) (by
    simp only [natT, bld_lam, bld_con]
    rw [bld_below _ 1 _ (by decide)]) (by
    have : (lamT natT (lamT natT (varT 1))).nodes ≤ 30 := by decide
    simp only [Tm.nodesL, List.length_cons, List.length_nil]
    omega)).pre
  have p3 := (stp_beta (T := natT) (b := lamT natT (varT 1)) (ys := [f]) (r := lamT natT x) hx (by omega) (by kernel_rfl) (by decide) (by
    unfold natT
    rw [bld_lam, bld_con]
    show lamT _ (bld (instF [x]) (varT 1) 1) = _
    rw [bld_at, hx.lift]) (by
    rw [lam_nodes]
    have : natT.nodes = 1 := rfl
    simp only [Tm.nodesL, List.length_cons, List.length_nil]
    omega)).pre
  have p4 := (stp_beta (T := natT) (b := x) (ys := []) (r := x) hf (by omega) (hx.at (by decide)) (by omega) (hx.bld _ (by decide)) (by
    simp only [Tm.nodesL, List.length_nil]
    omega)).pre
  have := p1.trans (p2.trans (p3.trans p4))
  rw [show 0 + 1 + (0 + 1) + (0 + 1) + (c + 1) = c + 4 by omega] at this
  exact this
set_option maxRecDepth 100000 in
/-- a case of a successor: the function of what is before, and of the recursion -/
theorem pre_recS {m x f y u : Tm} {c sm sx sf su : Nat} (hm : Cl m sm) (hx : Cl x sx) (hf : Cl f sf) (hu : Cl u su) (hs : sm + sx + sf + su ≤ 900) (h : HdTo y (tmAps succT [u]) c) : Pre (recA m x f y) (tmAps f [u, recA m x f u]) (c + 5) := by
  have n1 := hm.nodes
  have n2 := hx.nodes
  have n3 := hf.nodes
  have n4 := hu.nodes
  have v1 : (varT 0).nodes = 1 := rfl
  have v2 : (varT 1).nodes = 1 := rfl
  have v3 : (varT 2).nodes = 1 := rfl
  have v4 : natT.nodes = 1 := rfl
  have p1 := (stp_iotaS (f := f) (m := m) (x := x) h (by omega)).pre
  have p2 := (stp_beta (T := natT) (b := lamT natT (lamT natT (lamT natT (tmAps (varT 1) [varT 0, recA (varT 3) (varT 2) (varT 1) (varT 0)])))) (ys := [x, f, u]) (r := lamT natT (lamT natT (lamT natT (tmAps (varT 1) [varT 0, recA m (varT 2) (varT 1) (varT 0)])))) hm (by omega) (by kernel_rfl) (by decide) (by
    simp only [natT, bld_lam, bld_con, bld_aps, bld_recA, List.map_cons, List.map_nil]
    rw [bld_below _ 0 _ (by decide), bld_below _ 1 _ (by decide), bld_below _ 2 _ (by decide)]
    show lamT _ (lamT _ (lamT _ (tmAps _ [_, recA (bld (instF [m]) (varT 3) 3) _ _ _]))) = _
    rw [bld_at, hm.lift]) (by
    rw [lam_nodes, lam_nodes, lam_nodes, aps2_nodes, recA_nodes]
    simp only [Tm.nodesL, List.length_cons, List.length_nil]
    omega)).pre
  have p3 := (stp_beta (T := natT) (b := lamT natT (lamT natT (tmAps (varT 1) [varT 0, recA m (varT 2) (varT 1) (varT 0)]))) (ys := [f, u]) (r := lamT natT (lamT natT (tmAps (varT 1) [varT 0, recA m x (varT 1) (varT 0)]))) hx (by omega) (by
    refine fit_lam2 (cl_nat.at (by decide)) (fit_lam2 (cl_nat.at (by decide)) (fit_aps4 (fit_v (by decide) (by decide)) (all2 (fit_v (by decide) (by decide)) (fit_recA (by decide) (hm.at (by decide)) (fit_v (by decide) (by decide)) (fit_v (by decide) (by decide)) (fit_v (by decide) (by decide))))))) (by
    rw [lam_nodes, lam_nodes, aps2_nodes, recA_nodes]
    omega) (by
    simp only [natT, bld_lam, bld_con, bld_aps, bld_recA, List.map_cons, List.map_nil]
    rw [bld_below _ 0 _ (by decide), bld_below _ 1 _ (by decide), hm.bld _ (by decide)]
    show lamT _ (lamT _ (tmAps _ [_, recA _ (bld (instF [x]) (varT 2) 2) _ _])) = _
    rw [bld_at, hx.lift]) (by
    rw [lam_nodes, lam_nodes, aps2_nodes, recA_nodes]
    simp only [Tm.nodesL, List.length_cons, List.length_nil]
    omega)).pre
  have p4 := (stp_beta (T := natT) (b := lamT natT (tmAps (varT 1) [varT 0, recA m x (varT 1) (varT 0)])) (ys := [u]) (r := lamT natT (tmAps f [varT 0, recA m x f (varT 0)])) hf (by omega) (by
    refine fit_lam2 (cl_nat.at (by decide)) (fit_aps4 (fit_v (by decide) (by decide)) (all2 (fit_v (by decide) (by decide)) (fit_recA (by decide) (hm.at (by decide)) (hx.at (by decide)) (fit_v (by decide) (by decide)) (fit_v (by decide) (by decide)))))) (by
    rw [lam_nodes, aps2_nodes, recA_nodes]
    omega) (by
    simp only [natT, bld_lam, bld_con, bld_aps, bld_recA, List.map_cons, List.map_nil]
    rw [bld_below _ 0 _ (by decide), hm.bld _ (by decide), hx.bld _ (by decide)]
    show lamT _ (tmAps (bld (instF [f]) (varT 1) 1) [_, recA _ _ (bld (instF [f]) (varT 1) 1) _]) = _
    rw [bld_at, hf.lift]) (by
    rw [lam_nodes, aps2_nodes, recA_nodes]
    simp only [Tm.nodesL, List.length_cons, List.length_nil]
    omega)).pre
  have p5 := (stp_beta (T := natT) (b := tmAps f [varT 0, recA m x f (varT 0)]) (ys := []) (r := tmAps f [u, recA m x f u]) hu (by omega) (by
    refine fit_aps4 (hf.at (by decide)) (all2 (fit_v (by decide) (by decide)) (fit_recA (by decide) (hm.at (by decide)) (hx.at (by decide)) (hf.at (by decide)) (fit_v (by decide) (by decide))))) (by
    rw [aps2_nodes, recA_nodes]
    omega) (by
    rw [bld_aps]
    simp only [List.map_cons, List.map_nil]
    rw [bld_recA, hm.bld _ (by decide), hx.bld _ (by decide), hf.bld _ (by decide), bld_at, hu.lift]) (by
    rw [aps2_nodes, recA_nodes]
    simp only [Tm.nodesL, List.length_nil]
    omega)).pre
  have := p1.trans (p2.trans (p3.trans (p4.trans p5)))
  rw [show 0 + 1 + (0 + 1) + (0 + 1) + (0 + 1) + (c + 1) = c + 5 by omega] at this
  exact this
/-- a function of two closed terms -/
theorem pre_two {b b1 r : Tm} {u v : Tm} {su sv : Nat} (hu : Cl u su) (hv : Cl v sv) (hs : su ≤ 2000 ∧ sv ≤ 2000) (hb : tmFit 4 b 2 = true) (hb1 : tmFit 4 b1 1 = true) (h1 : bld (instF [u]) b 1 = b1) (h2 : bld (instF [v]) b1 0 = r) (n1 : b.nodes ≤ 1900) (n2 : b1.nodes + sv ≤ 1900) (n3 : r.nodes ≤ 2000) : Pre (tmAps (lamT natT (lamT natT b)) [u, v]) r 2 := by
  have k1 := hu.nodes
  have k2 := hv.nodes
  have v4 : natT.nodes = 1 := rfl
  have p1 := (stp_beta (T := natT) (b := lamT natT b) (ys := [v]) (r := lamT natT b1) hu hs.1 (fit_lam2 (cl_nat.at (by decide)) hb) (by rw [lam_nodes]; omega) (by
    unfold natT
    rw [bld_lam, bld_con]
    show lamT _ (bld (instF [u]) b 1) = _
    rw [h1]) (by
    rw [lam_nodes]
    simp only [Tm.nodesL, List.length_cons, List.length_nil]
    omega)).pre
  have p2 := (stp_beta (T := natT) (b := b1) (ys := []) (r := r) hv hs.2 hb1 (by omega) h2 (by
    simp only [Tm.nodesL, List.length_nil]
    omega)).pre
  exact p1.trans p2
set_option maxRecDepth 100000 in
theorem pre_next {u v : Tm} {su sv : Nat} (hu : Cl u su) (hv : Cl v sv) (hs : su + sv ≤ 1800) : Pre (tmAps nextT [u, v]) (tmAps succT [v]) 2 := by
  have k2 := hv.nodes
  have k3 : (tmAps succT [varT 0]).nodes = 3 := rfl
  have k4 : succT.nodes = 1 := rfl
  refine pre_two (b := tmAps succT [varT 0]) (b1 := tmAps succT [varT 0]) hu hv (by omega) (by kernel_rfl) (by kernel_rfl) ?_ ?_ (by omega) (by omega) (by rw [aps1_nodes]; omega)
  · unfold succT
    rw [bld_aps, bld_con, List.map_cons, List.map_nil, bld_below _ _ _ (by decide)]
  · unfold succT
    rw [bld_aps, bld_con, List.map_cons, List.map_nil, bld_at, hv.lift]
def moreX (x : Tm) : Tm := lamT natT (lamT natT (addT (varT 0) x))
theorem addT_nodes (a b : Tm) : (addT a b).nodes = a.nodes + b.nodes + 3 := by
  unfold addT
  rw [aps2_nodes]
  have : (conT [97, 100, 100] []).nodes = 1 := rfl
  omega
theorem mulT_nodes (a b : Tm) : (mulT a b).nodes = a.nodes + b.nodes + 3 := by
  unfold mulT
  rw [aps2_nodes]
  have : (conT [109, 117, 108] []).nodes = 1 := rfl
  omega
theorem bld_addT (args : List Tm) (a b : Tm) (d : Int) : bld (instF args) (addT a b) d = addT (bld (instF args) a d) (bld (instF args) b d) := by
  unfold addT
  rw [bld_aps, bld_con]
  rfl
theorem fit_addT {v : Int} {a b : Tm} (h0 : 0 ≤ v) (ha : tmFit 4 a v = true) (hb : tmFit 4 b v = true) : tmFit 4 (addT a b) v = true := fit_aps4 (cl_add.at h0) (all2 ha hb)
theorem cl_addT {a b : Tm} {sa sb : Nat} (ha : Cl a sa) (hb : Cl b sb) : Cl (addT a b) (sa + sb + 3) := ⟨fit_addT (by decide) ha.fit hb.fit, by
  have := ha.nodes
  have := hb.nodes
  rw [addT_nodes]
  omega⟩
theorem cl_mulT {a b : Tm} {sa sb : Nat} (ha : Cl a sa) (hb : Cl b sb) : Cl (mulT a b) (sa + sb + 3) := ⟨fit_aps4 cl_mul.fit (all2 ha.fit hb.fit), by
  have := ha.nodes
  have := hb.nodes
  rw [mulT_nodes]
  omega⟩
theorem cl_recA {m x f y : Tm} {a b c d : Nat} (hm : Cl m a) (hx : Cl x b) (hf : Cl f c) (hy : Cl y d) : Cl (recA m x f y) (a + b + c + d + 6) := ⟨fit_recA (by decide) hm.fit hx.fit hf.fit hy.fit, by
  have := hm.nodes
  have := hx.nodes
  have := hf.nodes
  have := hy.nodes
  rw [recA_nodes]
  omega⟩
theorem cl_more {x : Tm} {s : Nat} (hx : Cl x s) : Cl (moreX x) (s + 8) := ⟨fit_lam2 cl_nat.fit (fit_lam2 (cl_nat.at (by decide)) (fit_addT (by decide) (fit_v (by decide) (by decide)) (hx.at (by decide)))), by
  have := hx.nodes
  have v1 : (varT 0).nodes = 1 := rfl
  have v4 : natT.nodes = 1 := rfl
  unfold moreX
  rw [lam_nodes, lam_nodes, addT_nodes]
  omega⟩
theorem cl_succ1 {u : Tm} {s : Nat} (h : Cl u s) : Cl (tmAps succT [u]) (s + 2) := ⟨fit_aps4 cl_succ.fit (all1 h.fit), by
  have := h.nodes
  have v4 : succT.nodes = 1 := rfl
  rw [aps1_nodes]
  omega⟩
set_option maxRecDepth 100000 in
theorem pre_more {x u v : Tm} {sx su sv : Nat} (hx : Cl x sx) (hu : Cl u su) (hv : Cl v sv) (hs : sx + su + sv ≤ 1800) : Pre (tmAps (moreX x) [u, v]) (addT v x) 2 := by
  have k1 := hx.nodes
  have k2 := hv.nodes
  have v1 : (varT 0).nodes = 1 := rfl
  have hf : ∀ v : Int, 1 ≤ v → tmFit 4 (addT (varT 0) x) v = true := fun v h => fit_addT (by omega) (fit_v (by decide) (by omega)) (hx.at (by omega))
  refine pre_two (b := addT (varT 0) x) (b1 := addT (varT 0) x) hu hv (by omega) (hf 2 (by decide)) (hf 1 (by decide)) ?_ ?_ (by rw [addT_nodes]; omega) (by rw [addT_nodes]; omega) (by rw [addT_nodes]; omega)
  · rw [bld_addT, bld_below _ _ _ (by decide), hx.bld _ (by decide)]
  · rw [bld_addT, bld_at, hv.lift, hx.bld _ (by decide)]
set_option maxRecDepth 100000 in
theorem pre_add {x y : Tm} {sx sy : Nat} (hx : Cl x sx) (hy : Cl y sy) (hs : sx + sy ≤ 1800) : Pre (addT x y) (recA motiveT x nextT y) 3 := by
  have k1 := hx.nodes
  have k2 := hy.nodes
  have v1 : (varT 0).nodes = 1 := rfl
  have v2 : (varT 1).nodes = 1 := rfl
  have v3 : motiveT.nodes = 3 := rfl
  have v4 : nextT.nodes = 7 := rfl
  have p1 : Pre (addT x y) (tmAps addV [x, y]) 1 := (stp_delta (e := enAdd) (by kernel_rfl) rfl rfl (by kernel_rfl) [x, y] (by
    have : addV.nodes ≤ 50 := by decide
    simp only [Tm.nodesL, List.length_cons, List.length_nil]
    omega)).pre
  refine p1.trans (pre_two (b := recA motiveT (varT 1) nextT (varT 0)) (b1 := recA motiveT x nextT (varT 0)) hx hy (by omega) (by kernel_rfl) (fit_recA (by decide) (cl_motive.at (by decide)) (hx.at (by decide)) (cl_next.at (by decide)) (fit_v (by decide) (by decide))) ?_ ?_ (by rw [recA_nodes]; omega) (by rw [recA_nodes]; omega) (by rw [recA_nodes]; omega))
  · rw [bld_recA, cl_motive.bld _ (by decide), cl_next.bld _ (by decide), bld_at, hx.lift, bld_below _ _ _ (by decide)]
  · rw [bld_recA, cl_motive.bld _ (by decide), cl_next.bld _ (by decide), bld_at, hy.lift, hx.bld _ (by decide)]
set_option maxRecDepth 100000 in
theorem pre_mul {x y : Tm} {sx sy : Nat} (hx : Cl x sx) (hy : Cl y sy) (hs : sx + sy ≤ 1800) : Pre (mulT x y) (recA motiveT zeroT (moreX x) y) 3 := by
  have k1 := hx.nodes
  have k2 := hy.nodes
  have k3 := (cl_more hx).nodes
  have v1 : (varT 0).nodes = 1 := rfl
  have v2 : zeroT.nodes = 1 := rfl
  have v3 : motiveT.nodes = 3 := rfl
  have v4 : moreT.nodes = 9 := rfl
  have p1 : Pre (mulT x y) (tmAps mulV [x, y]) 1 := (stp_delta (e := enMul) (by kernel_rfl) rfl rfl (by kernel_rfl) [x, y] (by
    have : mulV.nodes ≤ 50 := by decide
    simp only [Tm.nodesL, List.length_cons, List.length_nil]
    omega)).pre
  refine p1.trans (pre_two (b := recA motiveT zeroT moreT (varT 0)) (b1 := recA motiveT zeroT (moreX x) (varT 0)) hx hy (by omega) (by kernel_rfl) (fit_recA (by decide) (cl_motive.at (by decide)) (cl_zero.at (by decide)) ((cl_more hx).at (by decide)) (fit_v (by decide) (by decide))) ?_ ?_ (by rw [recA_nodes]; omega) (by rw [recA_nodes]; omega) (by rw [recA_nodes]; omega))
  · rw [bld_recA, cl_motive.bld _ (by decide), cl_zero.bld _ (by decide), bld_below _ _ _ (by decide)]
    congr 1
    show bld (instF [x]) (lamT natT (lamT natT (addT (varT 0) (varT 3)))) 1 = _
    rw [bld_lam, bld_lam, cl_nat.bld _ (by decide), cl_nat.bld _ (by decide), bld_addT, bld_below _ _ _ (by decide)]
    show lamT _ (lamT _ (addT _ (bld (instF [x]) (varT 3) 3))) = _
    rw [bld_at, hx.lift]
    rfl
  · rw [bld_recA, cl_motive.bld _ (by decide), cl_zero.bld _ (by decide), (cl_more hx).bld _ (by decide), bld_at, hy.lift]

/-! what comes to a number, in so many ticks -/
def Nv (s : Nat) : Nat → Tm → Nat → Prop
  | 0, t, c => Cl t s ∧ ∃ c1, c1 ≤ c ∧ HdTo t zeroT c1
  | k + 1, t, c => Cl t s ∧ ∃ u c1 c2, c1 + c2 ≤ c ∧ HdTo t (tmAps succT [u]) c1 ∧ Nv s k u c2
theorem Nv.cl {s : Nat} : ∀ {k : Nat} {t : Tm} {c : Nat}, Nv s k t c → Cl t s
  | 0, _, _, h => h.1
  | _ + 1, _, _, h => h.1
theorem Nv.mono {s s' : Nat} (hs : s ≤ s') : ∀ {k : Nat} {t : Tm} {c c' : Nat}, c ≤ c' → Nv s k t c → Nv s' k t c'
  | 0, _, _, _, hc, ⟨h, c1, h1, h2⟩ => ⟨h.mono hs, c1, Nat.le_trans h1 hc, h2⟩
  | _ + 1, _, _, _, hc, ⟨h, u, c1, c2, h1, h2, h3⟩ => ⟨h.mono hs, u, c1, c2, Nat.le_trans h1 hc, h2, h3.mono hs (Nat.le_refl _)⟩
theorem Nv.pre {s : Nat} {t t' : Tm} {d : Nat} (hp : Pre t t' d) (hc : Cl t s) : ∀ {k c : Nat}, Nv s k t' c → Nv s k t (c + d)
  | 0, _, ⟨_, c1, h1, h2⟩ => ⟨hc, c1 + d, by omega, hp _ _ h2⟩
  | _ + 1, _, ⟨_, u, c1, c2, h1, h2, h3⟩ => ⟨hc, u, c1 + d, c2, by omega, hp _ _ h2, h3⟩
theorem succ_stays (u : Tm) : HdTo (tmAps succT [u]) (tmAps succT [u]) 0 := HdTo.stay fun n => by
  unfold succT
  rw [find_conT]
  kernel_rfl
theorem zero_stays : HdTo zeroT zeroT 0 := HdTo.stay fun n => by kernel_rfl
theorem num_nv : ∀ k : Nat, Nv (2 * k + 1) k (numT k) 0
  | 0 => ⟨cl_zero, 0, Nat.le_refl _, zero_stays⟩
  | k + 1 => by
    have h := num_nv k
    exact ⟨(cl_succ1 h.cl).mono (by omega), numT k, 0, 0, Nat.le_refl _, succ_stays _, h.mono (by omega) (Nat.le_refl _)⟩
theorem nv_add {sx sy a ca : Nat} {x : Tm} (hx : Nv sx a x ca) : ∀ (b : Nat) (y : Tm) (cb : Nat), Nv sy b y cb → sx + sy ≤ 800 → Nv (sx + sy + 16) (a + b) (recA motiveT x nextT y) (ca + cb + 7 * b + 4)
  | 0, y, cb, ⟨hy, c1, h1, h2⟩, hs => by
    have hc := cl_recA cl_motive hx.cl cl_next hy
    have := Nv.pre (pre_rec0 cl_motive hx.cl cl_next (by omega) h2) (hc.mono (show _ ≤ sx + sy + 16 by omega)) (hx.mono (by omega) (Nat.le_refl _))
    exact this.mono (Nat.le_refl _) (by omega)
  | b + 1, y, cb, ⟨hy, u, c1, c2, h1, h2, h3⟩, hs => by
    have hc := cl_recA cl_motive hx.cl cl_next hy
    have hcu := cl_recA cl_motive hx.cl cl_next h3.cl
    have ih := nv_add hx b u c2 h3 hs
    have p := (pre_recS cl_motive hx.cl cl_next h3.cl (by omega) h2).trans (pre_next h3.cl hcu (by omega))
    exact ⟨hc.mono (by omega), recA motiveT x nextT u, 0 + (2 + (c1 + 5)), ca + c2 + 7 * b + 4, by omega, p _ _ (succ_stays _), ih⟩
theorem nv_mul {sx sy a ca : Nat} {x : Tm} (hx : Nv sx a x ca) : ∀ (b : Nat) (y : Tm) (cb : Nat), Nv sy b y cb → b ≤ 8 → sx ≤ 20 → sy ≤ 100 → Nv (sx + sy + 20 + b * (sx + 16)) (a * b) (recA motiveT zeroT (moreX x) y) (cb + b * (ca + 7 * a + 14) + 4)
  | 0, y, cb, ⟨hy, c1, h1, h2⟩, hb, hs1, hs2 => by
    have hc := cl_recA cl_motive cl_zero (cl_more hx.cl) hy
    have hz : Nv (sx + sy + 20 + 0 * (sx + 16)) 0 zeroT 0 := ⟨cl_zero.mono (by omega), 0, Nat.le_refl _, zero_stays⟩
    have := Nv.pre (pre_rec0 cl_motive cl_zero (cl_more hx.cl) (by omega) h2) (hc.mono (by omega)) hz
    exact this.mono (Nat.le_refl _) (by omega)
  | b + 1, y, cb, ⟨hy, u, c1, c2, h1, h2, h3⟩, hb, hs1, hs2 => by
    have hc := cl_recA cl_motive cl_zero (cl_more hx.cl) hy
    have ih := nv_mul hx b u c2 h3 (by omega) hs1 hs2
    have e1 : (b + 1) * (sx + 16) = b * (sx + 16) + (sx + 16) := Nat.succ_mul _ _
    have e2 : (b + 1) * (ca + 7 * a + 14) = b * (ca + 7 * a + 14) + (ca + 7 * a + 14) := Nat.succ_mul _ _
    have e3 : b * (sx + 16) ≤ 7 * 36 := Nat.mul_le_mul (by omega) (by omega)
    have e4 : a * (b + 1) = a * b + a := Nat.mul_succ _ _
    generalize b * (sx + 16) = B at *
    generalize b * (ca + 7 * a + 14) = D at *
    have hs := nv_add ih a x ca hx (by omega)
    have p := (pre_recS cl_motive cl_zero (cl_more hx.cl) h3.cl (by omega) h2).trans ((pre_more hx.cl h3.cl ih.cl (by omega)).trans (pre_add ih.cl hx.cl (by omega)))
    have := Nv.pre p (hc.mono (show _ ≤ sx + sy + 20 + (B + (sx + 16)) by omega)) (hs.mono (by omega) (Nat.le_refl _))
    rw [e4, e1, e2]
    exact this.mono (Nat.le_refl _) (by omega)
/-- what comes to a number has it as its normal form -/
theorem numT_nodes : ∀ k, (numT k).nodes = 2 * k + 1
  | 0 => rfl
  | k + 1 => by
    have : succT.nodes = 1 := rfl
    show (tmAps succT [numT k]).nodes = _
    rw [aps1_nodes, numT_nodes k]
    omega
theorem nv_nf {s : Nat} : ∀ (k : Nat) (t : Tm) (c : Nat), Nv s k t c → k ≤ 500 → ∀ n, c ≤ n → ∃ n', n ≤ n' + c ∧ wNf libL t n = (numT k, 0, n')
  | 0, t, c, ⟨_, c1, h1, h2⟩, _, n, hn => by
    have e := h2 (n - c1)
    rw [show n - c1 + c1 = n by omega] at e
    refine ⟨n - c1, by omega, ?_⟩
    rw [wNf_eq, e]
    rfl
  | k + 1, t, c, ⟨_, u, c1, c2, h1, h2, h3⟩, hk, n, hn => by
    have e := h2 (n - c1)
    rw [show n - c1 + c1 = n by omega] at e
    obtain ⟨n', h4, h5⟩ := nv_nf k u c2 h3 (by omega) (n - c1) (by omega)
    refine ⟨n', by omega, ?_⟩
    have g1 : wEach (wNf libL) (tmHead (tmAps succT [u])).args (n - c1) = ([], 0, n - c1) := rfl
    have g2 : wEach (wNf libL) (tmArgs (tmAps succT [u])) (n - c1) = ([numT k], 0, n') := by
      show wEach (wNf libL) [u] (n - c1) = _
      rw [wEach, h5]
      rfl
    rw [wNf_eq, e]
    simp only [g1, g2, if_true]
    show wBuild succT [] [numT k] n' = _
    have hnn := numT_nodes (k + 1)
    unfold wBuild
    rw [if_pos (by
      show (tmAps succT [numT k]).nodes ≤ 2000
      show (numT (k + 1)).nodes ≤ 2000
      omega)]
    rfl
theorem sums_law (a b c : Nat) (ha : a ≤ 6) (hb : b ≤ 6) (hc : c ≤ 6) (n : Nat) (hn : 5000 ≤ n) : ∃ n', n ≤ n' + 5000 ∧ wNf libL (addT (mulT (numT a) (numT b)) (numT c)) n = (numT (a * b + c), 0, n') := by
  have na := num_nv a
  have nb := num_nv b
  have nc := num_nv c
  have e3 : b * (2 * a + 1 + 16) ≤ 6 * 29 := Nat.mul_le_mul (by omega) (by omega)
  have e4 : b * (0 + 7 * a + 14) ≤ 6 * 56 := Nat.mul_le_mul (by omega) (by omega)
  have e5 : a * b ≤ 6 * 6 := Nat.mul_le_mul ha hb
  have m1 : Nv 300 (a * b) (recA motiveT zeroT (moreX (numT a)) (numT b)) 400 := (nv_mul na b _ _ nb (by omega) (by omega) (by omega)).mono (by omega) (by omega)
  have m2 : Nv 300 (a * b) (mulT (numT a) (numT b)) (400 + 3) := Nv.pre (pre_mul na.cl nb.cl (by omega)) ((cl_mulT na.cl nb.cl).mono (by omega)) m1
  have m3 : Nv 400 (a * b + c) (recA motiveT (mulT (numT a) (numT b)) nextT (numT c)) 500 := (nv_add m2 c _ _ nc (by omega)).mono (by omega) (by omega)
  have m4 : Nv 400 (a * b + c) (addT (mulT (numT a) (numT b)) (numT c)) (500 + 3) := Nv.pre (pre_add m2.cl nc.cl (by omega)) ((cl_addT m2.cl nc.cl).mono (by omega)) m3
  obtain ⟨n', h1, h2⟩ := nv_nf _ _ _ m4 (by omega) n (by omega)
  exact ⟨n', by omega, h2⟩
theorem prods_law (a b : Nat) (ha : a ≤ 6) (hb : b ≤ 6) (n : Nat) (hn : 5000 ≤ n) : ∃ n', n ≤ n' + 5000 ∧ wNf libL (mulT (numT a) (addT (numT b) (numT 1))) n = (numT (a * (b + 1)), 0, n') := by
  have na := num_nv a
  have nb := num_nv b
  have n1 := num_nv 1
  have e3 : (b + 1) * (2 * a + 1 + 16) ≤ 7 * 29 := Nat.mul_le_mul (by omega) (by omega)
  have e4 : (b + 1) * (0 + 7 * a + 14) ≤ 7 * 56 := Nat.mul_le_mul (by omega) (by omega)
  have e5 : a * (b + 1) ≤ 6 * 7 := Nat.mul_le_mul ha (by omega)
  have m1 : Nv 50 (b + 1) (recA motiveT (numT b) nextT (numT 1)) 20 := (nv_add nb 1 _ _ n1 (by omega)).mono (by omega) (by omega)
  have m2 : Nv 50 (b + 1) (addT (numT b) (numT 1)) (20 + 3) := Nv.pre (pre_add nb.cl n1.cl (by omega)) ((cl_addT nb.cl n1.cl).mono (by omega)) m1
  have m3 : Nv 400 (a * (b + 1)) (recA motiveT zeroT (moreX (numT a)) (addT (numT b) (numT 1))) 500 := (nv_mul na (b + 1) _ _ m2 (by omega) (by omega) (by omega)).mono (by omega) (by omega)
  have m4 : Nv 400 (a * (b + 1)) (mulT (numT a) (addT (numT b) (numT 1))) (500 + 3) := Nv.pre (pre_mul na.cl m2.cl (by omega)) ((cl_mulT na.cl m2.cl).mono (by omega)) m3
  obtain ⟨n', h1, h2⟩ := nv_nf _ _ _ m4 (by omega) n (by omega)
  exact ⟨n', by omega, h2⟩
theorem sums_pack (a b c : Nat) (ha : a ≤ 6) (hb : b ≤ 6) (hc : c ≤ 6) : packOk (addT (mulT (numT a) (numT b)) (numT c)) = true ∧ packOk (mulT (numT a) (addT (numT b) (numT 1))) = true :=
  ⟨(cl_addT (cl_mulT (num_nv a).cl (num_nv b).cl) (num_nv c).cl).packOk (by omega), (cl_mulT (num_nv a).cl (cl_addT (num_nv b).cl (num_nv 1).cl)).packOk (by omega)⟩
end Go.Proofs.YtahdkhklngjmoaaGreatDoor

/-
  Whnf: the law of sums and products. No condition.
-/
namespace Go.Proofs.YtahdkhklngjmoaaGreatDoor
open Go.RowKit

set_option maxRecDepth 100000 in
set_option maxHeartbeats 4000000 in
theorem whnfSums_con (a b c : Int) : Ans Tryz.prog 3 [.i a, .i b, .i c] (.b true) := by
  intro H Q hq
  obtain ⟨hp, ha⟩ := runs_ok lib_adds
  obtain ⟨te, hte⟩ : ∃ te, treL libL = te := ⟨_, rfl⟩
  rw [hte] at hp
  refine Con.permR ?_
  refine con_of_sem tab_ok Tryz.func3 rfl (ent Tryz.func3 (by kernel_rfl) rfl) (by kernel_rfl) ?_
  intro hw hn
  clear hw hn
  refine sem_seq (esc := fun _ => false) tab_ok mixed ?_
  refine sem_seq (esc := fun _ => false) tab_ok mixed ?_
  refine ⟨_, LeL.refl _, alive13_con _ _ ?_⟩
  intro hz1 hz2; clear hz1 hz2
  refine sem_seq (esc := fun _ => false) tab_ok mixed ?_
  refine ifB_dec (fun g1 => ?_) (fun g1 => ?_)
  · exact ⟨_, H, Le.refl _, List.Sublist.refl _, H, List.Perm.refl _, hq⟩
  refine ifB_dec (fun g2 => ?_) (fun g2 => ?_)
  · exact ⟨_, H, Le.refl _, List.Sublist.refl _, H, List.Perm.refl _, hq⟩
  refine ifB_dec (fun g3 => ?_) (fun g3 => ?_)
  · exact ⟨_, H, Le.refl _, List.Sublist.refl _, H, List.Perm.refl _, hq⟩
  refine ifB_dec (fun g4 => ?_) (fun g4 => ?_)
  · exact ⟨_, H, Le.refl _, List.Sublist.refl _, H, List.Perm.refl _, hq⟩
  refine ifB_dec (fun g5 => ?_) (fun g5 => ?_)
  · exact ⟨_, H, Le.refl _, List.Sublist.refl _, H, List.Perm.refl _, hq⟩
  refine ifB_dec (fun g6 => ?_) (fun g6 => ?_)
  · exact ⟨_, H, Le.refl _, List.Sublist.refl _, H, List.Perm.refl _, hq⟩
  obtain ⟨a, rfl⟩ : ∃ k : Nat, a = k := ⟨a.toNat, by omega⟩
  obtain ⟨b, rfl⟩ : ∃ k : Nat, b = k := ⟨b.toNat, by omega⟩
  obtain ⟨c, rfl⟩ : ∃ k : Nat, c = k := ⟨c.toNat, by omega⟩
  have la : a ≤ 6 := by omega
  have lb : b ≤ 6 := by omega
  have lc : c ≤ 6 := by omega
  clear g1 g2 g3 g4 g5 g6
  obtain ⟨p1, p2⟩ := sums_pack a b c la lb lc
  have m1 : a * b ≤ 6 * 6 := Nat.mul_le_mul la lb
  have m2 : a * (b + 1) ≤ 6 * 7 := Nat.mul_le_mul la (by omega)
  have z1 : (a : Int) * b = (a * b : Nat) := (Int.natCast_mul a b).symm
  have z2 : (a : Int) * (b + 1) = (a * (b + 1) : Nat) := by rw [Int.natCast_mul, Int.natCast_add]; rfl
  have hnum1 : Ans Tryz.prog 13 [.i ((a : Int) * b + c)] (tmX (numT (a * b + c))) := by
    rw [z1, ← Int.natCast_add]
    exact num13_con (a * b + c) (by omega)
  have hnum2 : Ans Tryz.prog 13 [.i ((a : Int) * (b + 1))] (tmX (numT (a * (b + 1)))) := by
    rw [z2]
    exact num13_con (a * (b + 1)) (by omega)
  obtain ⟨n1, l1, e1⟩ := sums_law a b c la lb lc 65536 (by decide)
  obtain ⟨n2, l2, e2⟩ := prods_law a b la lb n1 (by omega)
  have n1le : n1 ≤ 65536 := by
    have := wNf_left libL (addT (mulT (numT a) (numT b)) (numT c)) 65536
    rw [e1] at this
    exact this
  refine sem_seq (esc := fun _ => false) tab_ok mixed ?_
  refine ⟨_, LeL.refl _, lib_con _ _ ?_⟩
  intro hz1 hz2; clear hz1 hz2
  refine ⟨[ensX libL, .i ((65536 : Nat) : Int)], LeL.refl _, run13_con libL 65536 (by decide) (by decide) (fun _ rb H1 hH1 => ?_) (fun h => absurd lib_adds h)⟩
  rw [hte] at hH1
  replace hH1 : HasW rb (envX te libL) 0 ((65536 : Nat) : Int) H H1 := hH1
  intro hz1 hz2; clear hz1 hz2
  refine sem_le ⟨[(0, .g (.i a)), (1, .g (.i b)), (2, .g (.i c)), (7, .g (.ptr rb 0))], [], H1⟩ ⟨⟨Le.refl _, Le.refl _, Le.refl _, Le.refl _, trivial⟩, trivial, List.Sublist.refl _⟩ ?_
  refine sem_seq (esc := fun _ => false) tab_ok mixed ?_
  refine sem_seq (esc := fun _ => false) tab_ok mixed ?_
  refine ⟨_, LeL.refl _, num13_con a (by omega) _ _ ?_⟩
  intro hz1 hz2; clear hz1 hz2
  refine ⟨_, LeL.refl _, num13_con b (by omega) _ _ ?_⟩
  intro hz1 hz2; clear hz1 hz2
  refine ⟨_, LeL.refl _, of13_con [109, 117, 108] (numT a) (numT b) _ _ ?_⟩
  intro hz1 hz2; clear hz1 hz2
  refine ⟨_, LeL.refl _, num13_con c (by omega) _ _ ?_⟩
  intro hz1 hz2; clear hz1 hz2
  refine ⟨_, LeL.refl _, of13_con [97, 100, 100] (mulT (numT a) (numT b)) (numT c) _ _ ?_⟩
  intro hz1 hz2; clear hz1 hz2
  have hs1 := fun (Q : AV → Heap → Prop) => wNf_con (Q := Q) hp ha (addT (mulT (numT a) (numT b)) (numT c)) (n := 65536) (by decide) (by decide) hH1 (fun h => by rw [p1] at h; cases h)
  rw [e1] at hs1
  refine ⟨_, LeL.refl _, hs1 _ fun _ H2 hH2 => ?_⟩
  intro hz1 hz2; clear hz1 hz2
  simp only at hH2
  refine sem_le ⟨[(0, .g (.i a)), (1, .g (.i b)), (2, .g (.i c)), (7, .g (.ptr rb 0)), (8, .lp 8 0), (9, .g (.i 0))], [(8, (tmX (numT (a * b + c))).cells)], H2⟩ ⟨⟨Le.refl _, Le.refl _, Le.refl _, Le.refl _, ⟨rfl, rfl⟩, Le.refl _, trivial⟩, ⟨⟨rfl, LeL.refl _⟩, trivial⟩, List.Sublist.refl _⟩ ?_
  refine sem_seq (esc := fun _ => false) tab_ok mixed ?_
  refine ⟨_, LeL.refl _, num13_con a (by omega) _ _ ?_⟩
  intro hz1 hz2; clear hz1 hz2
  refine ⟨_, LeL.refl _, num13_con b (by omega) _ _ ?_⟩
  intro hz1 hz2; clear hz1 hz2
  refine ⟨_, LeL.refl _, num13_con 1 (by omega) _ _ ?_⟩
  intro hz1 hz2; clear hz1 hz2
  refine ⟨_, LeL.refl _, of13_con [97, 100, 100] (numT b) (numT 1) _ _ ?_⟩
  intro hz1 hz2; clear hz1 hz2
  refine ⟨_, LeL.refl _, of13_con [109, 117, 108] (numT a) (addT (numT b) (numT 1)) _ _ ?_⟩
  intro hz1 hz2; clear hz1 hz2
  have hs2 := fun (Q : AV → Heap → Prop) => wNf_con (Q := Q) hp ha (mulT (numT a) (addT (numT b) (numT 1))) (n := n1) (by omega) (by omega) hH2 (fun h => by rw [p2] at h; cases h)
  rw [e2] at hs2
  refine ⟨_, LeL.refl _, hs2 _ fun _ H3 hH3 => ?_⟩
  intro hz1 hz2; clear hz1 hz2
  simp only at hH3
  refine sem_le ⟨[(0, .g (.i a)), (1, .g (.i b)), (2, .g (.i c)), (8, .lp 8 0), (9, .g (.i 0)), (10, .lp 10 0), (11, .g (.i 0))], [(10, (tmX (numT (a * (b + 1)))).cells), (8, (tmX (numT (a * b + c))).cells)], H3⟩ ⟨⟨Le.refl _, Le.refl _, Le.refl _, ⟨rfl, rfl⟩, Le.refl _, ⟨rfl, rfl⟩, Le.refl _, trivial⟩, ⟨⟨rfl, LeL.refl _⟩, ⟨rfl, LeL.refl _⟩, trivial⟩, List.Sublist.refl _⟩ ?_
  refine sem_seq (esc := fun _ => false) tab_ok mixed ?_
  refine ⟨[0, 1, 2, 3, 4, 5, 6, 7, 8, 9, 10, 11, 12, 13, 14, 15, 16, 17, 18, 19, 20, 21, 22, 23, 24, 25], [], ord_fast (by kernel_rfl), by simp, ?_⟩
  refine ⟨in64_of (by omega) (by omega), ?_⟩
  refine ⟨in64_of (by omega) (by omega), ?_⟩
  refine ⟨_, LeL.refl _, hnum1 _ _ ?_⟩
  intro hz1 hz2; clear hz1 hz2
  refine ⟨[tmX (numT (a * b + c)), tmX (numT (a * b + c))], LeL.refl _, (SameTerm_con _ _ _ (Nat.le_refl _)).as (sameT _) _ _ ?_⟩
  intro hz1 hz2; clear hz1 hz2
  refine ⟨in64_of (by omega) (by omega), ?_⟩
  refine ⟨in64_of (by omega) (by omega), ?_⟩
  refine ⟨_, LeL.refl _, hnum2 _ _ ?_⟩
  intro hz1 hz2; clear hz1 hz2
  refine ⟨[tmX (numT (a * (b + 1))), tmX (numT (a * (b + 1)))], LeL.refl _, (SameTerm_con _ _ _ (Nat.le_refl _)).as (sameT _) _ _ ?_⟩
  intro hz1 hz2; clear hz1 hz2
  refine sem_of (esc := fun _ => false) tab_ok mixed ?_
  obtain ⟨H5, s5, w5⟩ := HasW.all (G := []) (X := H) hH3
  exact ⟨_, H5, Le.refl _, s5, H, w5, hq⟩
end Go.Proofs.YtahdkhklngjmoaaGreatDoor

