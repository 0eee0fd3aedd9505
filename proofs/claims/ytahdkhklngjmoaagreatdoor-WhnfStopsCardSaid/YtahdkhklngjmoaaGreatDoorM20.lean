/-
  Texts put together: I13, I14, I15, I16, I17, I18. No condition.
-/
import Derived.Test.YtahdkhklngjmoaaGreatDoorM19
import Derived.Test.YtahdkhklngjmoaaGreatDoorM16
/-
  Whnf, plain: what a step makes fits where the term did. No condition.
-/
namespace Go.Proofs.YtahdkhklngjmoaaGreatDoor
open Go.RowKit

theorem wStep_err {l : List En} {hd : Tm → Nat → Tm × Int × Nat} {t : Tm} {n : Nat} {e : Int} {n' : Nat} (h : wDone (wFind l hd t n) = (.err e, n')) : e ≠ 0 := by
  have hi : ∀ c en as' e n', wIota l hd c en as' n = (.err e, n') → e ≠ 0 := fun c en as' e n' h => by
    unfold wIota at h
    simp only at h
    split at h
    · cases h
    · split at h
      · split at h
        · unfold wRule at h; cases h
        · cases h
      · rename_i h2; cases h; exact h2
  have hc : ∀ c as' e n', wConst l hd c as' n = (.err e, n') → e ≠ 0 := fun c as' e n' h => by
    unfold wConst at h
    split at h
    · split at h
      · cases h
      · split at h
        · exact hi _ _ _ _ _ h
        · cases h
    · cases h
  have hf : ∀ e n', wFind l hd t n = (.err e, n') → e ≠ 0 := fun e n' h => by
    unfold wFind at h
    split at h
    · cases h
    · cases h
    · exact hc _ _ _ _ h
    · cases h
  unfold wDone at h
  split at h
  · rename_i e' m hx; cases h; exact hf _ _ hx
  · cases h
  · cases h; decide
  · split at h
    · cases h
    · cases h; decide
theorem wHd_left (l : List En) : Keeps (wHd l) := fun t n => wHead_left l (wTop t n) t n
theorem wHead_nodes (l : List En) : ∀ N t n, t.nodes ≤ 2000 → (wHead l N t n).1.nodes ≤ 2000
  | 0, t, n, h => h
  | N + 1, t, n, h => by
    rw [wHead]
    split
    · exact tm0_nodes
    · exact h
    · rename_i hx
      exact wHead_nodes l N _ _ (wDone_to hx).2
theorem wHd_nodes (l : List En) (t : Tm) (n : Nat) (h : t.nodes ≤ 2000) : (wHd l t n).1.nodes ≤ 2000 := wHead_nodes l _ t n h
/-! what fits -/
theorem fit_head {p v : Int} : ∀ t : Tm, tmFit p t v = true → tmFit p (tmHead t) v = true
  | .mk k n nm ls xs, h => by
    match xs, h with
    | [], h => exact h
    | [_], h => exact h
    | [f, a], h =>
      unfold tmHead
      simp only
      by_cases hk : k = 4
      · rw [if_pos hk]
        subst hk
        have h2 := fit_args h
        exact fit_head f (by have := (fitL_cons h2).1; rwa [if_neg (by decide)] at this)
      · rw [if_neg hk]; exact h
    | _ :: _ :: _ :: _, h => exact h
theorem fit_spine {p v : Int} : ∀ t : Tm, tmFit p t v = true → ∀ a ∈ tmArgs t, tmFit p a v = true
  | .mk k n nm ls xs, h, a, ha => by
    match xs, h, ha with
    | [], h, ha => simp [tmArgs] at ha
    | [_], h, ha => simp [tmArgs] at ha
    | [f, b], h, ha =>
      unfold tmArgs at ha
      simp only at ha
      by_cases hk : k = 4
      · rw [if_pos hk] at ha
        have h' : tmFit p (.mk 4 n nm ls [f, b]) v = true := by rw [← hk]; exact h
        have h2 := fitL_cons (fit_args h')
        rw [if_neg (by decide)] at h2
        have h3 := fitL_cons h2.2
        rw [if_neg (by decide)] at h3
        rcases List.mem_append.1 ha with ha | ha
        · exact fit_spine f h2.1 a ha
        · rw [List.mem_singleton.1 ha]; exact h3.1
      · rw [if_neg hk] at ha
        cases ha
    | _ :: _ :: _ :: _, h, ha => simp [tmArgs] at ha
theorem fit_len {p v : Int} {t : Tm} (h : tmFit p t v = true) : (t.kind = 4 ∨ t.kind = 5 ∨ t.kind = 6 → t.args.length = 2) ∧ (t.kind = 7 → t.args.length = 3) ∧ (t.kind = 1 ∨ t.kind = 2 ∨ t.kind = 3 → t.args.length = 0) := by
  rw [tmFit_eq, Bool.and_eq_true, Bool.and_eq_true] at h
  have h1 := h.1.1
  unfold tmNode at h1
  refine ⟨fun hk => ?_, fun hk => ?_, fun hk => ?_⟩
  · rw [if_neg (by omega), if_neg (by omega), if_neg (by omega), if_pos hk] at h1
    simp only [Bool.and_eq_true, decide_eq_true_eq] at h1
    exact h1.2
  · rw [if_neg (by omega), if_neg (by omega), if_neg (by omega), if_neg (by omega), if_pos hk] at h1
    simp only [Bool.and_eq_true, decide_eq_true_eq] at h1
    exact h1.2
  · rcases hk with hk | hk | hk
    · rw [if_pos hk] at h1
      simp only [Bool.and_eq_true, decide_eq_true_eq] at h1
      exact h1.2
    · rw [if_neg (by omega), if_pos hk] at h1
      simp only [Bool.and_eq_true, decide_eq_true_eq] at h1
      exact h1.2
    · rw [if_neg (by omega), if_neg (by omega), if_pos hk] at h1
      simp only [Bool.and_eq_true, decide_eq_true_eq] at h1
      exact h1.2
mutual
theorem fit_inst {p : Int} {args : List Tm} {w : Int} (hw : 0 ≤ w) (ha : ∀ a ∈ args, tmFit p a w = true) : ∀ (t : Tm) (d : Int), 0 ≤ d → tmFit p t (w + args.length + d) = true → tmFit p (bld (instF args) t d) (w + d) = true
  | .mk k n nm ls xs, d, hd, h => by
    by_cases hk : k = 1
    · have hv := fit_var h hk
      subst hk
      obtain ⟨h0, h1, rfl, rfl, rfl⟩ := hv
      rw [bld_inst_var]
      split
      · split
        · rw [tmFit_eq]
          simp only [Tm.kind, Tm.n, Tm.name, Tm.levels, Tm.args, tmFitL, lvRightL, List.all_nil, List.length_nil, Bool.and_true]
          exact tmNode_1.2 ⟨by omega, by omega, rfl, rfl, rfl⟩
        · have hlt : args.length - 1 - (n - d).toNat < args.length := by omega
          rw [List.getD_eq_getElem?_getD, List.getElem?_eq_getElem hlt]
          exact fit_lift hd _ 0 w (ha _ (List.getElem_mem hlt))
      · rw [tmFit_eq]
        simp only [Tm.kind, Tm.n, Tm.name, Tm.levels, Tm.args, tmFitL, lvRightL, List.all_nil, List.length_nil, Bool.and_true]
        exact tmNode_1.2 ⟨by omega, by omega, rfl, rfl, rfl⟩
    · rw [bld_inst_other hk]
      rw [tmFit_eq, Bool.and_eq_true, Bool.and_eq_true] at h ⊢
      refine ⟨⟨?_, h.1.2⟩, ?_⟩
      · have h1 := h.1.1
        simp only [Tm.kind, Tm.n, Tm.name, Tm.levels, Tm.args, bldL_len] at h1 ⊢
        rw [tmNode_k hk (v' := w + d)] at h1
        exact h1
      · exact fitL_inst hw ha k xs 0 d hd h.2
theorem fitL_inst {p : Int} {args : List Tm} {w : Int} (hw : 0 ≤ w) (ha : ∀ a ∈ args, tmFit p a w = true) (k : Int) : ∀ (ts : List Tm) (i : Nat) (d : Int), 0 ≤ d → tmFitL p k ts i (w + args.length + d) = true → tmFitL p k (bldL (instF args) k ts i d) i (w + d) = true
  | [], _, _, _, _ => rfl
  | t :: ts, i, d, hd, h => by
    have h2 := fitL_cons h
    rw [bldL, tmFitL, Bool.and_eq_true]
    refine ⟨?_, fitL_inst hw ha k ts (i + 1) d hd h2.2⟩
    by_cases hb : tmBind k i = true
    · rw [if_pos hb] at h2 ⊢
      rw [if_pos hb]
      have := fit_inst hw ha t (d + 1) (by omega) (by rw [← Int.add_assoc]; exact h2.1)
      rwa [← Int.add_assoc] at this
    · rw [if_neg hb] at h2 ⊢
      rw [if_neg hb]
      exact fit_inst hw ha t d hd h2.1
end
theorem bInst_fit {b a : Tm} {w : Int} (hw : 0 ≤ w) (h : (bInst b [a]).2 = true) (hb : tmFit 4 b (w + 1) = true) (ha : tmFit 4 a w = true) : tmFit 4 (bInst b [a]).1 w = true := by
  unfold bInst at h ⊢
  split at h
  · rename_i hc
    rw [if_pos hc]
    unfold madeB at h ⊢
    split at h
    · rename_i hn
      rw [if_pos hn]
      have := fit_inst (p := 4) (args := [a]) hw (fun x hx => by rw [List.mem_singleton.1 hx]; exact ha) b 0 (Int.le_refl _) (by
        rw [Int.add_zero]; exact hb)
      rwa [Int.add_zero] at this
    · cases h
  · cases h
/-! levels put in -/
mutual
theorem lvInst_fit {bys : List Lv} (hb : ∀ b ∈ bys, lvRight 4 b = true) : ∀ l : Lv, lvFit bys.length l = true → lvFit 4 (lvInst bys l) = true ∧ (lvGrown bys l ≤ 64 → (lvInst bys l).nodes = lvGrown bys l)
  | .mk k m xs, h => by
    rw [lvFit, Bool.and_eq_true] at h
    rw [lvInst, lvGrown]
    by_cases hk : k = 2
    · subst hk
      obtain ⟨h0, h1, _⟩ := lvNode_param h.1
      have hlt : m.toNat < bys.length := by omega
      rw [if_pos rfl, if_pos rfl, List.getD_eq_getElem?_getD, List.getElem?_eq_getElem hlt]
      have hr := hb _ (List.getElem_mem hlt)
      unfold lvRight at hr
      simp only [Bool.and_eq_true, decide_eq_true_eq] at hr
      simp only [Option.getD_some]
      exact ⟨hr.2, fun _ => by omega⟩
    · rw [if_neg hk, if_neg hk]
      obtain ⟨h1, h2, h3⟩ := lvInstL_fit hb xs h.2
      refine ⟨?_, fun hg => ?_⟩
      · rw [lvFit, Bool.and_eq_true]
        refine ⟨?_, h1⟩
        rw [h3]
        have h4 := h.1
        unfold lvNode at h4 ⊢
        rw [if_neg hk] at h4 ⊢
        exact h4
      · have := h2 (by omega)
        rw [Lv.nodes, this]
        omega
theorem lvInstL_fit {bys : List Lv} (hb : ∀ b ∈ bys, lvRight 4 b = true) : ∀ ls : List Lv, lvFitL bys.length ls = true → lvFitL 4 (lvInstL bys ls) = true ∧ (lvGrownL bys ls ≤ 64 → Lv.nodesL (lvInstL bys ls) = lvGrownL bys ls) ∧ (lvInstL bys ls).length = ls.length
  | [], _ => ⟨rfl, fun _ => rfl, rfl⟩
  | l :: ls, h => by
    rw [lvFitL, Bool.and_eq_true] at h
    obtain ⟨h1, h2⟩ := lvInst_fit hb l h.1
    obtain ⟨h3, h4, h5⟩ := lvInstL_fit hb ls h.2
    rw [lvInstL, lvGrownL]
    refine ⟨by rw [lvFitL, h1, h3]; rfl, fun hg => ?_, by rw [List.length_cons, List.length_cons, h5]⟩
    rw [Lv.nodesL, h2 (by omega), h4 (by omega)]
end
theorem lvInst_right {bys : List Lv} {l : Lv} (h : lvInstOk bys l = true) : lvRight 4 (lvInst bys l) = true := by
  unfold lvInstOk at h
  simp only [Bool.and_eq_true, decide_eq_true_eq, List.all_eq_true] at h
  obtain ⟨⟨h1, h2⟩, h3⟩ := h
  unfold lvRight at h1
  simp only [Bool.and_eq_true, decide_eq_true_eq] at h1
  obtain ⟨k1, k2⟩ := lvInst_fit h2 l h1.2
  have := k2 h3
  unfold lvRight
  simp only [Bool.and_eq_true, decide_eq_true_eq]
  exact ⟨⟨⟨by decide, by decide⟩, by omega⟩, k1⟩
mutual
theorem tmInst_fit {bys : List Lv} {n : Int} : ∀ (t : Tm) (v : Int) (u : Tm), tmFit n t v = true → tmInst bys t = some u → tmFit 4 u v = true
  | .mk k m nm ls xs, v, u, h, hu => by
    rw [tmInst] at hu
    split at hu
    · rename_i hall
      cases hx : tmInstL bys xs with
      | none => rw [hx] at hu; cases hu
      | some bs =>
        rw [hx] at hu
        cases hu
        rw [tmFit, Bool.and_eq_true, Bool.and_eq_true] at h ⊢
        obtain ⟨h1, h2⟩ := tmInstL_fit k xs 0 v bs h.2 hx
        refine ⟨⟨?_, ?_⟩, h1⟩
        · have := h.1.1
          rw [h2, lvInstL_map, List.length_map]
          exact this
        · unfold lvRightL
          rw [lvInstL_map, List.all_map, List.all_eq_true]
          intro l hl
          exact lvInst_right (List.all_eq_true.1 hall l hl)
    · cases hu
theorem tmInstL_fit {bys : List Lv} {n : Int} (k : Int) : ∀ (ts : List Tm) (i : Nat) (v : Int) (us : List Tm), tmFitL n k ts i v = true → tmInstL bys ts = some us → tmFitL 4 k us i v = true ∧ us.length = ts.length
  | [], _, _, us, _, h => by
    rw [tmInstL] at h
    cases h
    exact ⟨rfl, rfl⟩
  | t :: ts, i, v, us, h, hu => by
    have h2 := fitL_cons h
    rw [tmInstL] at hu
    cases hx : tmInst bys t with
    | none => rw [hx] at hu; cases hu
    | some u =>
      rw [hx] at hu
      simp only at hu
      cases hy : tmInstL bys ts with
      | none => rw [hy] at hu; cases hu
      | some us' =>
        rw [hy] at hu
        cases hu
        obtain ⟨h3, h4⟩ := tmInstL_fit k ts (i + 1) v us' h2.2 hy
        rw [tmFitL, Bool.and_eq_true]
        exact ⟨⟨tmInst_fit t _ u h2.1 hx, h3⟩, by rw [List.length_cons, List.length_cons, h4]⟩
end
theorem tmAt_fit {bys : List Lv} {t u : Tm} {n v : Int} (h : tmFit n t v = true) (hu : tmAt bys t = some u) : tmFit 4 u v = true := by
  unfold tmAt at hu
  split at hu
  · split at hu
    · cases hu
    · rename_i x hx
      split at hu
      · cases hu; exact tmInst_fit t v _ h hx
      · cases hu
  · cases hu
/-! what is found, and made -/
theorem right_at {n v : Int} {t : Tm} (h : tmRight n 0 t = true) (hv : 0 ≤ v) : tmFit n t v = true := by
  have := (right_fit h).2
  exact tmFit_mono n t _ v (by omega) this
theorem enValue_fit {e : En} {ls : List Lv} {v : Int} (hv : 0 ≤ v) (h : (enValue e ls).2 = 0) : tmFit 4 (enValue e ls).1 v = true := by
  unfold enValue at h ⊢
  split at h
  · rename_i hr
    rw [if_pos hr]
    split at h
    · rename_i hk
      rw [if_pos hk]
      unfold enAt at h ⊢
      split at h
      · exact absurd h (by decide)
      · rename_i hc
        rw [if_neg hc]
        split at h
        · rename_i u hu
          have hval : tmRight e.params 0 e.value = true := by
            unfold enRight at hr
            simp only [Bool.and_eq_true] at hr
            obtain ⟨_, _, _, _, h5, _, _⟩ := hr
            unfold enValued at h5
            rw [if_pos (by omega)] at h5
            exact h5
          exact tmAt_fit (right_at hval hv) hu
        · exact absurd h (by decide)
    · exact absurd h (by decide)
  · exact absurd h (by decide)
theorem ctorRule_fit {ce : En} {ls : List Lv} {v : Int} (hv : 0 ≤ v) (hr : enRight ce = true) (hk : ce.kind = 6) (hz : ce.value.kind ≠ 0) (h : (tmLv ls ce.value).2 = true) : tmFit 4 (tmLv ls ce.value).1 v = true := by
  cases hu : tmAt ls ce.value with
  | none => rw [tmLv_none hu] at h; cases h
  | some u =>
    rw [tmLv_some hu]
    have hval : tmRight (min (ce.params + 1) 4) 0 ce.value = true := by
      unfold enRight at hr
      simp only [Bool.and_eq_true] at hr
      obtain ⟨_, _, _, _, h5, _, _⟩ := hr
      unfold enValued at h5
      rw [if_neg (by omega), if_pos hk, Bool.or_eq_true] at h5
      rcases h5 with h5 | h5
      · rw [tmEq_iff] at h5
        rw [h5] at hz
        exact absurd rfl hz
      · exact h5
    exact tmAt_fit (right_at hval hv) hu
theorem wFind_fit {l : List En} (ha : AllRight l) {hd : Tm → Nat → Tm × Int × Nat} {v : Int} (hv : 0 ≤ v) {t : Tm} {n : Nat} (hhd : ∀ a ∈ tmArgs t, tmFit 4 a v = true → (hd a n).2.1 = 0 → tmFit 4 (hd a n).1 v = true) (h : tmFit 4 t v = true) {k : Int} {u : Tm} {n' : Nat} (hf : wFind l hd t n = (.rx k u true, n')) : tmFit 4 u v = true := by
  have hh := fit_head t h
  have hs := fit_spine t h
  have hi : ∀ c e n', wIota l hd c e (tmArgs t) n = (.rx k u true, n') → tmFit 4 u v = true := fun c e n' h => by
    unfold wIota at h
    simp only at h
    split at h
    · cases h
    · rename_i a hat
      have ham : a ∈ tmArgs t := List.mem_of_getElem? hat
      split at h
      · rename_i herr
        split at h
        · rename_i ce hce
          obtain ⟨_, _, _, w1, w2, _, _, _, w3⟩ := wCtor_spec ha hce
          unfold wRule at h
          simp only [Prod.mk.injEq, Fd.rx.injEq] at h
          obtain ⟨⟨_, rfl, h2⟩, _⟩ := h
          refine app_fit _ _ (ctorRule_fit hv w3 w1 w2 h2) fun x hx => ?_
          rcases List.mem_append.1 hx with hx | hx
          · rcases List.mem_append.1 hx with hx | hx
            · exact hs x (List.mem_of_mem_take hx)
            · exact fit_spine _ (hhd a ham (hs a ham) herr) x (List.mem_of_mem_drop hx)
          · exact hs x (List.mem_of_mem_drop hx)
        · cases h
      · cases h
  unfold wFind at hf
  split at hf
  · rename_i x0 b a ys hk hargs has
    simp only [Prod.mk.injEq, Fd.rx.injEq] at hf
    obtain ⟨⟨_, rfl, h2⟩, _⟩ := hf
    rw [has] at hs
    have hb : tmFit 4 b (v + 1) = true := by
      rw [tmFit_eq, hk, hargs] at hh
      simp only [Bool.and_eq_true] at hh
      have := fitL_cons (fitL_cons hh.2).2
      rw [if_pos (by decide)] at this
      exact this.1
    exact app_fit _ _ (bInst_fit hv h2 hb (hs a (by simp))) fun x hx => hs x (List.mem_cons_of_mem _ hx)
  · rename_i x0 w b hk hargs
    simp only [Prod.mk.injEq, Fd.rx.injEq] at hf
    obtain ⟨⟨_, rfl, h2⟩, _⟩ := hf
    rw [tmFit_eq, hk, hargs] at hh
    simp only [Bool.and_eq_true] at hh
    have h3 := fitL_cons (fitL_cons hh.2).2
    have h4 := fitL_cons h3.2
    rw [if_neg (by decide)] at h3
    rw [if_pos (by decide)] at h4
    exact app_fit _ _ (bInst_fit hv h2 h4.1 h3.1) hs
  · unfold wConst at hf
    split at hf
    · split at hf
      · simp only [Prod.mk.injEq, Fd.rx.injEq, decide_eq_true_eq] at hf
        obtain ⟨⟨_, rfl, h2⟩, _⟩ := hf
        exact app_fit _ _ (enValue_fit hv h2) hs
      · split at hf
        · exact hi _ _ _ hf
        · cases hf
    · cases hf
  · cases hf
theorem wDone_rx {f : Fd × Nat} {k : Int} {u : Tm} {n : Nat} (h : wDone f = (.to k u, n)) : f = (.rx k u true, n + 1) := by
  obtain ⟨fd, m⟩ := f
  unfold wDone at h
  split at h
  · cases h
  · cases h
  · cases h
  · rename_i k' u' ok m' he
    split at h
    · rename_i hc
      simp only [Prod.mk.injEq, Sp.to.injEq] at h
      obtain ⟨⟨rfl, rfl⟩, rfl⟩ := h
      rw [he, hc.1]
    · cases h
theorem wHead_fit {l : List En} (ha : AllRight l) {v : Int} (hv : 0 ≤ v) : ∀ N t n, tmFit 4 t v = true → (wHead l N t n).2.1 = 0 → tmFit 4 (wHead l N t n).1 v = true
  | 0, t, n, h, _ => h
  | N + 1, t, n, h, he => by
    rw [wHead] at he ⊢
    split
    · rename_i e n' hx
      rw [hx] at he
      exact absurd he (wStep_err hx)
    · exact h
    · rename_i k u n' hx
      rw [hx] at he
      have hu := wFind_fit ha hv (fun a _ hf => wHead_fit ha hv N a n hf) h (wDone_rx hx)
      exact wHead_fit ha hv N u n' hu he
theorem wHd_fit {l : List En} (ha : AllRight l) {v : Int} (hv : 0 ≤ v) (t : Tm) (n : Nat) (h : tmFit 4 t v = true) (he : (wHd l t n).2.1 = 0) : tmFit 4 (wHd l t n).1 v = true := wHead_fit ha hv _ t n h he
theorem wStep_fit {l : List En} (ha : AllRight l) {v : Int} (hv : 0 ≤ v) {t : Tm} {n : Nat} (h : tmFit 4 t v = true) {k : Int} {u : Tm} {n' : Nat} (hs : wStep l t n = (.to k u, n')) : tmFit 4 u v = true :=
  wFind_fit ha hv (fun a _ hf => wHd_fit ha hv a n hf) h (wDone_rx hs)
end Go.Proofs.YtahdkhklngjmoaaGreatDoor

/-
  Whnf: head. No condition.
-/
namespace Go.Proofs.YtahdkhklngjmoaaGreatDoor
open Go.RowKit

theorem wStep_to {l : List En} {t : Tm} {n : Nat} {k : Int} {u : Tm} {n' : Nat} (h : wStep l t n = (.to k u, n')) : n' < n ∧ u.nodes ≤ 2000 ∧ wTop u n' < wTop t n := by
  have h1 := wDone_to h
  have h2 := wFind_left (l := l) (wHd_left l) t n
  have hlt : n' < n := by omega
  refine ⟨hlt, h1.2, ?_⟩
  have h3 : (n' + 1) * 2001 ≤ n * 2001 := Nat.mul_le_mul_right 2001 hlt
  have := t.nodes_pos
  unfold wTop
  have := h1.2
  rw [Nat.add_mul] at h3
  omega
theorem wStep_le {l : List En} {t : Tm} {n : Nat} : (wStep l t n).2 ≤ n := Nat.le_trans (wDone_left _) (wFind_left (wHd_left l) t n)
set_option maxRecDepth 100000 in
set_option maxHeartbeats 1000000 in
theorem whead_con {rb : Nat} {te : Tre} {l : List En} (hp : Places te l) (ha : AllRight l) {v : Int} (hv : 0 ≤ v) : ∀ (N : Nat) (t : Tm) (n : Nat), wTop t n ≤ N → t.nodes ≤ 2000 → tmFit 4 t v = true → HdC 49 rb (envX te l) (wHd l) t n := by
  intro N
  induction N using Nat.strongRecOn with
  | ind N ih =>
  intro t n hN htn hfit used X H Q R h0 h1 h post
  refine conX_of_awp (esc := fun _ => false) tab_ok mixed Tryz.func49 rfl (ent Tryz.func49 (by kernel_rfl) rfl) (by kernel_rfl) ?_
  intro hw hnn
  clear hw hnn
  refine ⟨Tm × Nat × Heap, fun p => ⟨[(0, .g (.ptr rb 0)), (3, .lp 3 0), (4, .lp 4 0)], [(4, [.i 0, .i 0, .str [], .sl .full 0 [], .sl .full 0 []]), (3, (tmX p.1).cells)], p.2.2⟩,
    fun p => p.1.nodes ≤ 2000 ∧ tmFit 4 p.1 v = true ∧ wHd l p.1 p.2.1 = wHd l t n ∧ p.2.1 ≤ n ∧ wTop p.1 p.2.1 ≤ wTop t n ∧ HasW rb (envX te l) (used + ((n : Int) - (p.2.1 : Nat))) (p.2.1 : Nat) X p.2.2, fun p => p.2.1, ⟨(t, n, H), ⟨htn, hfit, rfl, Nat.le_refl _, Nat.le_refl _, ?_⟩, ?_⟩, ?_⟩
  · simp only
    rw [show used + ((n : Int) - (n : Nat)) = used by omega]
    exact h
  · exact ⟨⟨Le.refl _, ⟨rfl, rfl⟩, ⟨rfl, rfl⟩, trivial⟩, ⟨⟨rfl, LeL.refl _⟩, ⟨rfl, LeL.refl _⟩, trivial⟩, List.Sublist.refl _⟩
  · rintro ⟨u, m, H1⟩ ⟨i1, i2, i3, i4, i5, i6⟩
    simp only at i1 i2 i3 i4 i5 i6
    have hlen := fit_len (fit_head u i2)
    have hstep := fun {Q : AV → Heap → Prop} {R : Value → Heap → Prop} => wstep_con (Q := Q) (R := R) hp ha u i1 (fun k => hlen.1 (Or.inr (Or.inl k))) hlen.2.1 m (hd := wHd l) (fun a hm => ih (wTop a m) (by
      have := tmArgs_nodes u a hm
      unfold wTop at hN i5 ⊢
      omega) a m (Nat.le_refl _) (by have := tmArgs_nodes u a hm; omega) (fit_spine u i2 a hm)) (fun a hm => wHd_nodes l a m (by have := tmArgs_nodes u a hm; omega)) (wHd_left l) (by omega) (by omega) i6
    have heq := wHd_eq l u m
    rw [i3] at heq
    obtain ⟨⟨sp, m'⟩, hsp⟩ : ∃ r, wStep l u m = r := ⟨_, rfl⟩
    have hle : m' ≤ m := by have := wStep_le (l := l) (t := u) (n := m); rw [hsp] at this; exact this
    rw [hsp] at heq
    unfold SpPost at hstep
    rw [show wDone (wFind l (wHd l) u m) = (sp, m') from hsp] at hstep
    have hus : used + ((n : Int) - (m : Nat)) + ((m : Int) - (m' : Nat)) = used + ((n : Int) - (m' : Nat)) := by omega
    simp only [hus] at hstep
    unfold TmPost at post
    rw [heq] at post
    cases sp with
    | err e =>
      have he : e ≠ 0 := wStep_err hsp
      simp only at post
      refine ⟨_, LeL.refl _, hstep fun H2 hH2 => ?_⟩
      have hpost := post H2 hH2
      rw [if_neg he] at hpost
      exact ⟨H2, List.Sublist.refl _, hpost⟩
    | none =>
      simp only at post
      refine ⟨_, LeL.refl _, hstep fun H2 hH2 => ?_⟩
      intro hz1 hz2; clear hz1 hz2
      have hpost := post H2 hH2
      rw [if_pos trivial] at hpost
      exact ⟨_, H2, Le.refl _, List.Sublist.refl _, hpost⟩
    | to k u' =>
      obtain ⟨j1, j2, j3⟩ := wStep_to hsp
      have jf := wStep_fit ha hv i2 hsp
      have hk : k ≠ 0 := by
        have := wDone_rx hsp
        exact wFind_kind (by rw [this])
      simp only at heq
      refine ⟨_, LeL.refl _, hstep fun H2 hH2 => ?_⟩
      intro hz1 hz2; clear hz1 hz2
      refine ifB_dec (fun g1 => ?_) (fun g1 => ?_)
      · exact absurd g1 hk
      refine ⟨(u', m', H2), ⟨j2, jf, heq.symm, by simp only; omega, by simp only; omega, hH2⟩, j1, ?_⟩
      exact ⟨⟨Le.refl _, ⟨rfl, rfl⟩, ⟨rfl, rfl⟩, trivial⟩, ⟨⟨rfl, LeL.refl _⟩, ⟨rfl, LeL.refl _⟩, trivial⟩, List.Sublist.refl _⟩
end Go.Proofs.YtahdkhklngjmoaaGreatDoor

/-
  Whnf, plain: normal forms: rounds enough. No condition.
-/
namespace Go.Proofs.YtahdkhklngjmoaaGreatDoor
open Go.RowKit

theorem wEach_left {f : Tm → Nat → Tm × Int × Nat} (h : Keeps f) : ∀ (ts : List Tm) (n : Nat), (wEach f ts n).2.2 ≤ n
  | [], n => Nat.le_refl _
  | t :: ts, n => by
    have h1 := h t n
    rw [wEach]
    obtain ⟨u, e, n', he⟩ : ∃ u e n', f t n = (u, e, n') := ⟨_, _, _, rfl⟩
    rw [he] at h1
    simp only [he]
    split
    · exact Nat.le_trans (wEach_left h ts n') h1
    · exact h1
theorem wEach_congr {f g : Tm → Nat → Tm × Int × Nat} (hf : Keeps f) : ∀ (ts : List Tm) (n : Nat), (∀ t ∈ ts, ∀ m, m ≤ n → f t m = g t m) → wEach f ts n = wEach g ts n
  | [], n, _ => rfl
  | t :: ts, n, h => by
    rw [wEach, wEach, ← h t (by simp) n (Nat.le_refl _)]
    have h1 := hf t n
    obtain ⟨u, e, n', he⟩ : ∃ u e n', f t n = (u, e, n') := ⟨_, _, _, rfl⟩
    rw [he] at h1
    simp only [he]
    rw [wEach_congr hf ts n' fun x hx m hm => h x (List.mem_cons_of_mem _ hx) m (Nat.le_trans hm h1)]
set_option maxRecDepth 100000 in
/-- a head's end is no greater -/
theorem wHead_top (l : List En) : ∀ N t n, (wHead l N t n).2.1 = 0 → (wHead l N t n).2.2 * 2001 + (wHead l N t n).1.nodes ≤ n * 2001 + t.nodes
  | 0, t, n, _ => Nat.le_refl _
  | N + 1, t, n, he => by
    rw [wHead] at he ⊢
    split
    · rename_i e n' hx
      rw [hx] at he
      exact absurd he (wStep_err hx)
    · rename_i n' hx
      have h1 := wDone_left (wFind l (wHead l N) t n)
      have h2 := wFind_left (l := l) (wHead_left l N) t n
      rw [hx] at h1
      have := Nat.mul_le_mul_right 2001 (Nat.le_trans h1 h2)
      simp only
      omega
    · rename_i k u n' hx
      rw [hx] at he
      have h1 := wDone_to hx
      have h2 := wFind_left (l := l) (wHead_left l N) t n
      have h3 := wHead_top l N u n' he
      have h4 : (n' + 1) * 2001 ≤ n * 2001 := Nat.mul_le_mul_right 2001 (by omega)
      rw [Nat.add_mul] at h4
      have := h1.2
      omega
theorem wNorm_left (l : List En) : ∀ N, Keeps (wNorm l N)
  | 0, t, n => Nat.le_refl _
  | N + 1, t, n => by
    have h1 := wHd_left l t n
    rw [wNorm]
    obtain ⟨w, e, n1, he⟩ : ∃ w e n1, wHd l t n = (w, e, n1) := ⟨_, _, _, rfl⟩
    rw [he] at h1
    simp only [he]
    split
    · have h2 := wEach_left (wNorm_left l N) (tmHead w).args n1
      obtain ⟨xs, e2, n2, he2⟩ : ∃ xs e2 n2, wEach (wNorm l N) (tmHead w).args n1 = (xs, e2, n2) := ⟨_, _, _, rfl⟩
      rw [he2] at h2
      simp only [he2]
      split
      · have h3 := wEach_left (wNorm_left l N) (tmArgs w) n2
        obtain ⟨ys, e3, n3, he3⟩ : ∃ ys e3 n3, wEach (wNorm l N) (tmArgs w) n2 = (ys, e3, n3) := ⟨_, _, _, rfl⟩
        rw [he3] at h3
        simp only [he3]
        have : n3 ≤ n := by simp only at h1 h2 h3; omega
        split
        · unfold wBuild
          split <;> exact this
        · exact this
      · simp only at h1 h2 ⊢; omega
    · exact h1
theorem nodesL_lt {ts : List Tm} {a : Tm} (h : a ∈ ts) : a.nodes ≤ Tm.nodesL ts := by
  induction ts with
  | nil => cases h
  | cons t ts ih =>
    rw [Tm.nodesL]
    rcases List.mem_cons.1 h with rfl | h
    · omega
    · have := ih h; omega
theorem args_lt {t a : Tm} (h : a ∈ t.args) : a.nodes < t.nodes := by
  have := nodesL_lt h
  have := t.nodes_eq
  omega
set_option maxRecDepth 100000 in
/-- the parts of a head's end ask for fewer rounds -/
theorem part_top {l : List En} {t : Tm} {n : Nat} {w : Tm} {n1 : Nat} (h : wHd l t n = (w, 0, n1)) {a : Tm} (ha : a ∈ (tmHead w).args ∨ a ∈ tmArgs w) {m : Nat} (hm : m ≤ n1) : wTop a m < wTop t n ∧ a.nodes < w.nodes := by
  have h1 := wHead_top l (wTop t n) t n (by
    show (wHd l t n).2.1 = 0
    rw [h])
  have h2 : n1 * 2001 + w.nodes ≤ n * 2001 + t.nodes := by
    have e : wHead l (wTop t n) t n = wHd l t n := rfl
    rw [e, h] at h1
    exact h1
  have h3 : a.nodes < w.nodes := by
    rcases ha with ha | ha
    · exact Nat.lt_of_lt_of_le (args_lt ha) (tmHead_nodes w)
    · exact tmArgs_nodes w a ha
  have h4 := Nat.mul_le_mul_right 2001 hm
  refine ⟨?_, h3⟩
  unfold wTop
  omega
set_option maxRecDepth 100000 in
theorem wNorm_enough (l : List En) : ∀ (N M : Nat) (t : Tm) (n : Nat), wTop t n ≤ N → wTop t n ≤ M → wNorm l N t n = wNorm l M t n := by
  intro N
  induction N using Nat.strongRecOn with
  | ind N ih =>
  intro M t n hN hM
  obtain ⟨N', rfl⟩ : ∃ N', N = N' + 1 := ⟨N - 1, by unfold wTop at hN; omega⟩
  obtain ⟨M', rfl⟩ : ∃ M', M = M' + 1 := ⟨M - 1, by unfold wTop at hM; omega⟩
  rw [wNorm, wNorm]
  obtain ⟨w, e, n1, he⟩ : ∃ w e n1, wHd l t n = (w, e, n1) := ⟨_, _, _, rfl⟩
  simp only [he]
  by_cases h0 : e = 0
  rotate_left
  · rw [if_neg h0, if_neg h0]
  · subst h0
    have key : ∀ a, (a ∈ (tmHead w).args ∨ a ∈ tmArgs w) → ∀ m, m ≤ n1 → wNorm l N' a m = wNorm l M' a m := fun a ha m hm => by
      have := (part_top he ha hm).1
      exact ih N' (Nat.lt_succ_self _) M' a m (by omega) (by omega)
    have e1 := wEach_congr (wNorm_left l N') (tmHead w).args n1 fun a ha m hm => key a (Or.inl ha) m hm
    have h2 := wEach_left (wNorm_left l N') (tmHead w).args n1
    rw [← e1]
    obtain ⟨xs, e2, n2, he2⟩ : ∃ xs e2 n2, wEach (wNorm l N') (tmHead w).args n1 = (xs, e2, n2) := ⟨_, _, _, rfl⟩
    rw [he2] at h2
    simp only [he2]
    have e3 := wEach_congr (wNorm_left l N') (tmArgs w) n2 fun a ha m hm => key a (Or.inr ha) m (Nat.le_trans hm h2)
    rw [← e3]
theorem wNorm_nf (l : List En) {N : Nat} {t : Tm} {n : Nat} (h : wTop t n ≤ N) : wNorm l N t n = wNf l t n := wNorm_enough l N (wTop t n) t n h (Nat.le_refl (wTop t n))
theorem wNf_left (l : List En) : Keeps (wNf l) := fun t n => wNorm_left l (wTop t n) t n
set_option maxRecDepth 100000 in
/-- a normal form's rounds -/
theorem wNf_eq (l : List En) (t : Tm) (n : Nat) : wNf l t n = match wHd l t n with
    | (w, e, n1) => if e = 0 then (match wEach (wNf l) (tmHead w).args n1 with
      | (xs, e2, n2) => if e2 = 0 then (match wEach (wNf l) (tmArgs w) n2 with
        | (ys, e3, n3) => if e3 = 0 then wBuild (tmHead w) xs ys n3 else (tm0, e3, n3)) else (tm0, e2, n2)) else (tm0, e, n1) := by
  show wNorm l (n * 2001 + t.nodes + 1) t n = _
  rw [wNorm]
  obtain ⟨w, e, n1, he⟩ : ∃ w e n1, wHd l t n = (w, e, n1) := ⟨_, _, _, rfl⟩
  simp only [he]
  by_cases h0 : e = 0
  rotate_left
  · rw [if_neg h0, if_neg h0]
  · subst h0
    have key : ∀ a, (a ∈ (tmHead w).args ∨ a ∈ tmArgs w) → ∀ m, m ≤ n1 → wNorm l (n * 2001 + t.nodes) a m = wNf l a m := fun a ha m hm => by
      have := (part_top he ha hm).1
      exact wNorm_nf l (by
        have e : wTop t n = n * 2001 + t.nodes + 1 := rfl
        omega)
    have e1 := wEach_congr (wNorm_left l (n * 2001 + t.nodes)) (tmHead w).args n1 fun a ha m hm => key a (Or.inl ha) m hm
    have h2 := wEach_left (wNorm_left l (n * 2001 + t.nodes)) (tmHead w).args n1
    rw [e1] at h2 ⊢
    obtain ⟨xs, e2, n2, he2⟩ : ∃ xs e2 n2, wEach (wNf l) (tmHead w).args n1 = (xs, e2, n2) := ⟨_, _, _, rfl⟩
    rw [he2] at h2
    simp only [he2]
    have e3 := wEach_congr (wNorm_left l (n * 2001 + t.nodes)) (tmArgs w) n2 fun a ha m hm => key a (Or.inr ha) m (Nat.le_trans hm h2)
    rw [e3]
end Go.Proofs.YtahdkhklngjmoaaGreatDoor

/-
  Whnf: a term's spine in memory that turns; normal. No condition.
-/
namespace Go.Proofs.YtahdkhklngjmoaaGreatDoor
open Go.RowKit

set_option maxRecDepth 100000 in
set_option maxHeartbeats 1000000 in
theorem SpineMM_con (t : Tm) (hn1 : t.nodes ≤ 1000000) (H : Heap) (Q : AV → Heap → Prop) (hq : ∀ m mh : Mv, MvOk 5 (tmArgs t).length ((tmArgs t).map tmA) H m → MvOk 5 (tmHead t).args.length ((tmHead t).args.map tmA) (mvH m H) mh → Q (.tup [.agg [.i (tmHead t).kind, .i (tmHead t).n, .str (tmHead t).name, .sl .no 3 ((tmHead t).levels.map lvA), mvV 5 mh (tmHead t).args.length], mvV 5 m (tmArgs t).length]) (mvH mh (mvH m H))) : Con Tryz.prog 61 [tmX t] H Q := by
  refine con_of_awp (esc := ([21].contains ·)) tab_ok mixed Tryz.func61 rfl (ent Tryz.func61 (by kernel_rfl) rfl) (by kernel_rfl) ?_
  intro hw hn
  clear hw hn
  refine ⟨Tm × Mv × List Tm, fun p => ⟨[(1, .lp 1 0), (2, .lp 2 0), (4, .g (mvS p.2.1 p.2.2.length))], [(2, [.i 0, .i 0, .str [], .sl .full 0 [], .sl .full 0 []]), (1, (tmX p.1).cells)], mvH p.2.1 H⟩,
    fun p => p.1.nodes + p.2.2.length ≤ t.nodes ∧ tmHead t = tmHead p.1 ∧ tmArgs t = tmArgs p.1 ++ p.2.2.reverse ∧ MvOk 5 p.2.2.length (p.2.2.map tmA) H p.2.1, fun p => p.1.nodes, ⟨(t, none, []), ⟨Nat.le_refl _, rfl, by simp, rfl, rfl⟩, ?_⟩, ?_⟩
  · exact ⟨⟨⟨rfl, rfl⟩, ⟨rfl, rfl⟩, Le.refl _, trivial⟩, ⟨⟨rfl, LeL.refl _⟩, ⟨rfl, LeL.refl _⟩, trivial⟩, List.Sublist.refl _⟩
  · rintro ⟨u, m, gs⟩ ⟨hnn, hh, ha, hz⟩
    simp only at hnn hh ha hz
    have hend : ¬(u.kind = 4 ∧ u.args.length = 2) → ∃ r H', True := fun _ => ⟨AV.i 0, H, trivial⟩
    have hun := u.nodes_eq
    refine ifB_dec (fun h1 => ?_) (fun h1 => ?_)
    · refine ifB_dec (fun h2 => ?_) (fun h2 => ?_)
      · simp only [List.length_map] at h2
        have h2' : u.args.length = 2 := by omega
        obtain ⟨s1, s2⟩ := spine_step h1 h2'
        have hm1 := Tm.nodesL_mem (List.getElem_mem (show 1 < u.args.length by omega))
        have hm01 : (u.args[0]'(by omega)).nodes + (u.args[1]'(by omega)).nodes ≤ Tm.nodesL u.args := by
          cases u with
          | mk k n nm ls xs =>
            match xs, h2' with
            | [f, a], _ => show f.nodes + a.nodes ≤ f.nodes + (a.nodes + 0); omega
        have hp1 := (u.args[1]'(by omega)).nodes_pos
        refine ⟨1, rfl, _, tmAt' (show 1 < u.args.length by omega), ?_⟩
        refine ⟨_, LeL.refl _, fresh_con _ (u.args[1]'(by omega)) (by omega) (Nat.le_refl _) _ _ ?_⟩
        intro hz1 hz2; clear hz1 hz2
        cases m with
        | none =>
          have h0 : gs = [] := by have := hz.2; simpa using this
          subst h0
          refine ⟨(by (first | refine Or.inl ?_ | skip); show (0 + 1) * (80 + 1) ≤ _; omega), by simp, rfl, fun b cap rest k1 k2 k3 k4 => ?_⟩
          refine ⟨0, rfl, _, tmAt' (show 0 < u.args.length by omega), ?_⟩
          refine ⟨(u.args[0]'(by omega), some (b, cap, ([] ++ [tmX (u.args[1]'(by omega))]).flatMap AV.cells ++ rest), [u.args[1]'(by omega)]), ⟨by simp only [List.length_cons, List.length_nil]; omega, by simp only; rw [hh, s1], by simp only; rw [ha, s2]; simp, by simp, ?_⟩, by simp only; omega, ?_⟩
          · simp only [List.map_cons, List.map_nil, List.length_cons, List.length_nil]
            rw [tmA_eq]
            exact TurnOk.first rfl k1 k2 k3 k4
          · exact ⟨⟨⟨rfl, rfl⟩, ⟨rfl, rfl⟩, Le.refl _, trivial⟩, ⟨⟨rfl, LeL.refl _⟩, ⟨rfl, LeL.refl _⟩, trivial⟩, List.Sublist.refl _⟩
        | some p =>
          obtain ⟨b0, cap0, cs0⟩ := p
          obtain ⟨hj0, htk⟩ := hz
          refine ⟨?_, by simp, cs0, H, Heap.Rem.here, htk.le, htk.max, htk.room, fun b cap rest k1 k2 k3 k4 => ?_⟩
          · simp only [List.length_cons, List.length_nil]
            (first | refine Or.inl ?_ | skip)
            show _ * (80 + 1) ≤ _
            omega
          refine ⟨0, rfl, _, tmAt' (show 0 < u.args.length by omega), ?_⟩
          refine ⟨(u.args[0]'(by omega), some (b, cap, cs0.take (gs.length * 5) ++ [tmX (u.args[1]'(by omega))].flatMap AV.cells ++ rest), gs ++ [u.args[1]'(by omega)]), ⟨by simp only [List.length_append, List.length_cons, List.length_nil]; omega, by simp only; rw [hh, s1], by simp only; rw [ha, s2]; simp, by simp, ?_⟩, by simp only; omega, ?_⟩
          · simp only [List.map_append, List.map_cons, List.map_nil, List.length_append, List.length_cons, List.length_nil]
            rw [tmA_eq]
            exact htk.next (wide_tms gs) rfl k1 k2 k3 k4
          · refine ⟨⟨⟨rfl, rfl⟩, ⟨rfl, rfl⟩, le_of_eq ?_, trivial⟩, ⟨⟨rfl, LeL.refl _⟩, ⟨rfl, LeL.refl _⟩, trivial⟩, List.Sublist.refl _⟩
            show hs b (gs.length + 1) cap = hs b (gs ++ [_]).length cap
            rw [List.length_append]
            rfl
      · simp only [List.length_map] at h2
        obtain ⟨s1, s2⟩ := spine_stop (t := u) (fun h => h2 (by rw [h.2]; rfl))
        rw [s1] at hh
        rw [s2, List.nil_append] at ha
        cases m with
        | none =>
          have h0 : gs = [] := by have := hz.2; simpa using this
          subst h0
          refine ⟨_, LeL.refl _, Reverse_nil ?_⟩
          intro hz1 hz2; clear hz1 hz2
          refine ⟨_, LeL.refl _, freshA_con u (by omega) _ _ fun mh hmh => ?_⟩
          intro hz1 hz2; clear hz1 hz2
          rw [← hh] at hmh
          refine ⟨_, _, ?_, List.Sublist.refl _, hq none mh ⟨by rw [ha]; rfl, by rw [ha]; rfl⟩ hmh⟩
          rw [hh, ha]
          exact Le.tup ⟨Le.refl _, Le.nil _ _, trivial⟩
        | some p =>
          obtain ⟨b, cap, cs⟩ := p
          refine ⟨_, LeL.refl _, Reverse_con (n := gs.length) gs hz.2 (by omega) (fun cs' hok => ?_)⟩
          intro hz1 hz2; clear hz1 hz2
          refine ⟨_, LeL.refl _, freshA_con u (by omega) _ _ fun mh hmh => ?_⟩
          intro hz1 hz2; clear hz1 hz2
          rw [← hh] at hmh
          have hrl : gs.reverse.length = gs.length := List.length_reverse
          refine ⟨_, _, ?_, List.Sublist.refl _, hq (some (b, cap, cs')) mh ?_ hmh⟩
          · rw [hh, ha, hrl]
            exact Le.refl _
          · rw [ha, hrl]
            exact ⟨hz.1, hok⟩
    · obtain ⟨s1, s2⟩ := spine_stop (t := u) (fun h => h1 h.1)
      rw [s1] at hh
      rw [s2, List.nil_append] at ha
      cases m with
      | none =>
        have h0 : gs = [] := by have := hz.2; simpa using this
        subst h0
        refine ⟨_, LeL.refl _, Reverse_nil ?_⟩
        intro hz1 hz2; clear hz1 hz2
        refine ⟨_, LeL.refl _, freshA_con u (by omega) _ _ fun mh hmh => ?_⟩
        intro hz1 hz2; clear hz1 hz2
        rw [← hh] at hmh
        refine ⟨_, _, ?_, List.Sublist.refl _, hq none mh ⟨by rw [ha]; rfl, by rw [ha]; rfl⟩ hmh⟩
        rw [hh, ha]
        exact Le.tup ⟨Le.refl _, Le.nil _ _, trivial⟩
      | some p =>
        obtain ⟨b, cap, cs⟩ := p
        refine ⟨_, LeL.refl _, Reverse_con (n := gs.length) gs hz.2 (by omega) (fun cs' hok => ?_)⟩
        intro hz1 hz2; clear hz1 hz2
        refine ⟨_, LeL.refl _, freshA_con u (by omega) _ _ fun mh hmh => ?_⟩
        intro hz1 hz2; clear hz1 hz2
        rw [← hh] at hmh
        have hrl : gs.reverse.length = gs.length := List.length_reverse
        refine ⟨_, _, ?_, List.Sublist.refl _, hq (some (b, cap, cs')) mh ?_ hmh⟩
        · rw [hh, ha, hrl]
          exact Le.refl _
        · rw [ha, hrl]
          exact ⟨hz.1, hok⟩
theorem TurnOk.get {n : Nat} {zs : List Tm} {H : Heap} {b cap : Nat} {cs : List AV} (h : TurnOk 5 n (zs.map tmA) H b cap cs) {j : Nat} (hj : j < zs.length) : (cs.drop (0 + j * 5)).take 5 = (tmX zs[j]).cells ∧ 0 + j * 5 + 5 ≤ cs.length ∧ 5 ≤ (cs.drop (0 + j * 5)).length := by
  obtain ⟨rest, hrest⟩ : ∃ rest, cs = (zs.map tmA).flatMap AV.cells ++ rest := ⟨cs.drop (n * 5), by rw [← h.here, List.take_append_drop]⟩
  have hl : j < (zs.map tmA).length := by rw [List.length_map]; exact hj
  have g := row_get (wide_tms zs).2 hl rest
  have r := row_room (wide_tms zs).2 hl rest
  rw [← hrest] at g r
  rw [Nat.zero_add]
  refine ⟨?_, r, by rw [List.length_drop]; omega⟩
  rw [g, List.getElem_map, tmA_eq]
/-- parts reduced so far -/
structure EachI (f : Tm → Nat → Tm × Int × Nat) (ts xs : List Tm) (e : Int) (nf j : Nat) (us : List Tm) (n : Nat) : Prop where
  len : us.length = j
  le : j ≤ ts.length
  run : ∃ rest, wEach f (ts.drop j) n = (rest, e, nf) ∧ xs = us ++ rest
theorem EachI.start {f : Tm → Nat → Tm × Int × Nat} {ts xs : List Tm} {e : Int} {n nf : Nat} (h : wEach f ts n = (xs, e, nf)) : EachI f ts xs e nf 0 [] n := ⟨rfl, Nat.zero_le _, xs, h, rfl⟩
theorem EachI.err {f : Tm → Nat → Tm × Int × Nat} {ts xs : List Tm} {e : Int} {nf j : Nat} {us : List Tm} {n : Nat} (h : EachI f ts xs e nf j us n) (hj : j < ts.length) {u : Tm} {e' : Int} {n' : Nat} (hf : f ts[j] n = (u, e', n')) (he : e' ≠ 0) : e = e' ∧ nf = n' := by
  obtain ⟨rest, h1, _⟩ := h.run
  rw [List.drop_eq_getElem_cons hj, wEach, hf] at h1
  simp only [if_neg he, Prod.mk.injEq] at h1
  exact ⟨h1.2.1.symm, h1.2.2.symm⟩
theorem EachI.step {f : Tm → Nat → Tm × Int × Nat} {ts xs : List Tm} {e : Int} {nf j : Nat} {us : List Tm} {n : Nat} (h : EachI f ts xs e nf j us n) (hj : j < ts.length) {u : Tm} {n' : Nat} (hf : f ts[j] n = (u, 0, n')) : EachI f ts xs e nf (j + 1) (us ++ [u]) n' := by
  obtain ⟨rest, h1, h2⟩ := h.run
  rw [List.drop_eq_getElem_cons hj, wEach, hf] at h1
  obtain ⟨r, e', n'', hr⟩ : ∃ r e' n'', wEach f (ts.drop (j + 1)) n' = (r, e', n'') := ⟨_, _, _, rfl⟩
  simp only [if_true, hr, Prod.mk.injEq] at h1
  obtain ⟨rfl, rfl, rfl⟩ := h1
  exact ⟨by rw [List.length_append, h.len]; rfl, hj, r, hr, by rw [h2]; simp⟩
theorem EachI.fin {f : Tm → Nat → Tm × Int × Nat} {ts xs : List Tm} {e : Int} {nf : Nat} {us : List Tm} {n : Nat} (h : EachI f ts xs e nf ts.length us n) : e = 0 ∧ xs = us ∧ nf = n := by
  obtain ⟨rest, h1, h2⟩ := h.run
  rw [List.drop_length, wEach] at h1
  cases h1
  exact ⟨rfl, by rw [h2, List.append_nil], rfl⟩
theorem fit_part {p v : Int} {t a : Tm} (h : tmFit p t v = true) (ha : a ∈ t.args) : tmFit p a v = true ∨ tmFit p a (v + 1) = true := by
  have key : ∀ (k : Int) (ts : List Tm) (i : Nat), tmFitL p k ts i v = true → a ∈ ts → tmFit p a v = true ∨ tmFit p a (v + 1) = true := by
    intro k ts
    induction ts with
    | nil => intro i _ h; cases h
    | cons x xs ih =>
      intro i h hm
      have h2 := fitL_cons h
      rcases List.mem_cons.1 hm with rfl | hm
      · by_cases hb : tmBind k i = true
        · rw [if_pos hb] at h2; exact Or.inr h2.1
        · rw [if_neg hb] at h2; exact Or.inl h2.1
      · exact ih (i + 1) h2.2 hm
  rw [tmFit_eq, Bool.and_eq_true] at h
  exact key _ _ _ h.2 ha
/-- a row's contents: the first so many are new -/
def rowAt (ts us : List Tm) (j : Nat) : List Tm := us ++ ts.drop j
theorem app_get {us vs : List Tm} {j : Nat} (hl : us.length = j) (h : j < (us ++ vs).length) (h2 : 0 < vs.length) : (us ++ vs)[j] = vs[0] := by
  rw [List.getElem_append_right (by omega)]
  simp [hl]
theorem rowAt_get {ts us : List Tm} {j : Nat} (hl : us.length = j) (hj : j < ts.length) : ∃ h : j < (rowAt ts us j).length, (rowAt ts us j)[j] = ts[j] := by
  have h : j < (us ++ ts.drop j).length := by rw [List.length_append, List.length_drop]; omega
  exact ⟨h, (app_get hl h (by rw [List.length_drop]; omega)).trans (by simp)⟩
theorem rowAt_set {ts us : List Tm} {j : Nat} (hl : us.length = j) (hj : j < ts.length) (u : Tm) : ((rowAt ts us j).map tmA).set j (tmA u) = (rowAt ts (us ++ [u]) (j + 1)).map tmA := by
  unfold rowAt
  rw [← List.map_set]
  congr 1
  rw [List.set_append_right _ _ (by omega), List.drop_eq_getElem_cons hj, hl, Nat.sub_self, List.set_cons_zero]
  simp
end Go.Proofs.YtahdkhklngjmoaaGreatDoor

/-
  Whnf: states in another order; rows kept for good; normal. No condition.
-/
namespace Go.Proofs.YtahdkhklngjmoaaGreatDoor
open Go.RowKit

theorem Conc.permH {B : Base} {N : Nat} {e : Env} {L : Loc} {H H2 : Heap} {a : Act} {w : World} (hp : H.Perm H2) (hc : Conc B N ⟨e, L, H⟩ a w) : Conc B N ⟨e, L, H2⟩ a w := by
  obtain ⟨M, lm, hc⟩ := hc
  have hq : (lheap lm L ++ H).Perm (lheap lm L ++ H2) := hp.append_left _
  have hk : ∀ b, b ∈ Heap.keys (lheap lm L ++ H2) ↔ b ∈ Heap.keys (lheap lm L ++ H) := fun b => (hq.map (·.1)).mem_iff.symm
  exact ⟨M, lm, hc.evo, fun b hb => hc.keys b ((hk b).1 hb), hc.inv.perm hq, hc.size, hc.defers.sub fun b hb => (hk b).1 hb, hc.env⟩
theorem Conc.leM {B : Base} {N : Nat} {s t : St} {a : Act} {w : World} (h : ∀ M, St.leM M s t) (hc : Conc B N s a w) : Conc B N t a w := by
  obtain ⟨M, lm, hc⟩ := hc
  have h := h M
  have hsub : (lheap lm (s.L.drop (s.L.length - t.L.length)) ++ t.H).Sublist (lheap lm s.L ++ s.H) := by
    rw [lheap_drop]
    exact (List.drop_sublist _ _).append h.H
  have hi := hc.inv.sub hsub
  obtain ⟨k1, k2⟩ := Loc.wM.objs (lm := lm) (M := M) (w := w) h.L
  have hkeys : Heap.keys (lheap lm t.L ++ t.H) = Heap.keys (lheap lm (s.L.drop (s.L.length - t.L.length)) ++ t.H) := by
    rw [Heap.keys_append, Heap.keys_append, k1]
  refine ⟨M, lm, hc.evo, fun b hb => ?_, ⟨hi.mem, fun b x hx => ?_, by rw [hkeys]; exact hi.nodup⟩, hc.size, hc.defers.sub fun b hb => by
    rw [hkeys] at hb
    exact (hsub.map _).subset hb, fun i => (h.e.get i).rep (hc.env i)⟩
  · rw [hkeys] at hb
    exact hc.keys b ((hsub.map _).subset hb)
  · rcases List.mem_append.1 hx with hx | hx
    · exact k2 (fun b x hb => hi.obj b x (List.mem_append.2 (Or.inl hb))) b x hx
    · exact hi.obj b x (List.mem_append.2 (Or.inr hx))
section
variable {P : Pr} {N : Nat} {c : Code} {Q : Exit → St → Prop}
theorem sem_permH {e : Env} {L : Loc} {H : Heap} (H2 : Heap) (hp : H.Perm H2) (k : sem P N c Q ⟨e, L, H2⟩) : sem P N c Q ⟨e, L, H⟩ := fun hs B a w hc => k hs B a w (hc.permH hp)
/-- a row in memory is kept for good -/
theorem sem_mv {size n : Nat} {xs : List AV} {H0 H1 : Heap} {e : Env} {L : Loc} {m : Mv} (hm : MvOk size n xs H1 m) (hw : wide size xs) (t : St) (h : ∀ M, LeM M (mvV size m n) (.sl .no size xs) → St.leM M ⟨e, L, H0⟩ t) (k : sem P N c Q t) : sem P N c Q ⟨e, L, mvH m H0⟩ := by
  cases m with
  | none =>
    obtain ⟨_, rfl⟩ := hm
    exact fun hs B a w hc => k hs B a w (hc.leM fun M => h M (LeM.refl _))
  | some p =>
    obtain ⟨b, cap, cs⟩ := p
    exact sem_ice (s := ⟨e, L, _⟩) t .here (fun M hM => h M (hm.2.see hw hM)) k
end
def mvC (m : Mv) (cs : List AV) : Mv :=
  match m with
  | none => none
  | some (b, cap, _) => some (b, cap, cs)
def mvCs (m : Mv) : List AV :=
  match m with
  | none => []
  | some (_, _, cs) => cs
theorem mvC_self (m : Mv) : mvC m (mvCs m) = m := by cases m <;> rfl
theorem mvV_mvC (size : Nat) (m : Mv) (cs : List AV) (n : Nat) : mvV size (mvC m cs) n = mvV size m n := by cases m <;> rfl
theorem mvH_cons (m : Mv) (p : Nat × AObj) (X : Heap) : (mvH m (p :: X)).Perm (p :: mvH m X) := by
  cases m with
  | none => exact List.Perm.refl _
  | some q => exact List.Perm.swap _ _ _
theorem mvH_perm (m : Mv) {A B : Heap} (h : A.Perm B) : (mvH m A).Perm (mvH m B) := by
  cases m with
  | none => exact h
  | some q => exact h.cons _
theorem perm_sub {α : Type} {B C : List α} (h : B.Perm C) : ∀ {A : List α}, List.Sublist A B → ∃ A', List.Sublist A' C ∧ A.Perm A' := by
  induction h with
  | nil => exact fun hs => ⟨_, hs, List.Perm.refl _⟩
  | cons x _ ih =>
    intro A hs
    cases hs with
    | cons _ hs =>
      obtain ⟨A', h1, h2⟩ := ih hs
      exact ⟨A', h1.cons _, h2⟩
    | cons_cons _ hs =>
      obtain ⟨A', h1, h2⟩ := ih hs
      exact ⟨x :: A', h1.cons_cons _, h2.cons _⟩
  | swap x y l =>
    intro A hs
    cases hs with
    | cons _ hs =>
      cases hs with
      | cons _ hs => exact ⟨_, (hs.cons _).cons _, List.Perm.refl _⟩
      | cons_cons _ hs => exact ⟨_, (hs.cons _).cons_cons _, List.Perm.refl _⟩
    | cons_cons _ hs =>
      cases hs with
      | cons _ hs => exact ⟨_, (hs.cons_cons _).cons _, List.Perm.refl _⟩
      | cons_cons _ hs => exact ⟨_, (hs.cons_cons _).cons_cons _, List.Perm.swap _ _ _⟩
  | trans _ _ ih1 ih2 =>
    intro A hs
    obtain ⟨A1, h1, h2⟩ := ih1 hs
    obtain ⟨A2, h3, h4⟩ := ih2 h1
    exact ⟨A2, h3, h2.trans h4⟩
section
variable {rb : Nat} {ev : AV} {used left : Int} {X Y H : Heap}
theorem HasW.perm (h : HasW rb ev used left X H) (hp : X.Perm Y) : HasW rb ev used left Y H := (show H.Perm _ from h).trans (hp.cons _)
theorem HasW.mv (h : HasW rb ev used left X H) (m : Mv) : HasW rb ev used left (mvH m X) (mvH m H) := (mvH_perm m h).trans (mvH_cons m _ _)
theorem HasW.drop (h : HasW rb ev used left X H) (hs : List.Sublist Y X) : ∃ H2 : Heap, List.Sublist H2 H ∧ HasW rb ev used left Y H2 := by
  obtain ⟨H2, h1, h2⟩ := perm_sub (show H.Perm _ from h).symm (hs.cons_cons (rb, AObj.cells [ev, .i used, .i left]))
  exact ⟨H2, h1, h2.symm⟩
end
/-- two rows, and a run -/
structure NRows (rb : Nat) (ev : AV) (used : Int) (n : Nat) (X H0 : Heap) (m1 m2 : Mv) (l1 l2 : Nat) (A B : List Tm) (nn : Nat) (cs1 cs2 : List AV) (H : Heap) : Prop where
  a : MvOk 5 l1 (A.map tmA) (mvH m2 H0) (mvC m1 cs1)
  b : MvOk 5 l2 (B.map tmA) H0 (mvC m2 cs2)
  run : HasW rb ev (used + ((n : Int) - (nn : Nat))) (nn : Nat) (mvH (mvC m1 cs1) (mvH (mvC m2 cs2) X)) H
  le : nn ≤ n
theorem wNf_nodes (l : List En) {t : Tm} {n : Nat} {u : Tm} {n' : Nat} (h : wNf l t n = (u, 0, n')) : u.nodes ≤ 2000 := by
  rw [wNf_eq] at h
  split at h
  rename_i w e n1 _
  split at h
  · split at h
    split at h
    · split at h
      split at h
      · unfold wBuild at h
        split at h
        · rename_i hn
          cases h
          exact hn
        · simp at h
      · rename_i hne
        simp only [Prod.mk.injEq] at h
        exact absurd h.2.1 hne
    · rename_i hne
      simp only [Prod.mk.injEq] at h
      exact absurd h.2.1 hne
  · rename_i hne
    simp only [Prod.mk.injEq] at h
    exact absurd h.2.1 hne
theorem wEach_all {f : Tm → Nat → Tm × Int × Nat} {p : Tm → Prop} (hp : ∀ t n u n', f t n = (u, 0, n') → p u) : ∀ (ts : List Tm) (n : Nat) (xs : List Tm) (nf : Nat), wEach f ts n = (xs, 0, nf) → xs.length = ts.length ∧ ∀ x ∈ xs, p x
  | [], n, xs, nf, h => by
    rw [wEach] at h
    cases h
    exact ⟨rfl, fun x hx => by cases hx⟩
  | t :: ts, n, xs, nf, h => by
    rw [wEach] at h
    obtain ⟨u, e, n', he⟩ : ∃ u e n', f t n = (u, e, n') := ⟨_, _, _, rfl⟩
    obtain ⟨us, e2, n2, he2⟩ : ∃ us e2 n2, wEach f ts n' = (us, e2, n2) := ⟨_, _, _, rfl⟩
    rw [he] at h
    simp only [he2] at h
    by_cases h0 : e = 0
    · rw [if_pos h0] at h
      simp only [Prod.mk.injEq] at h
      obtain ⟨rfl, rfl, rfl⟩ := h
      subst h0
      obtain ⟨i1, i2⟩ := wEach_all hp ts n' us n2 he2
      refine ⟨by simp [i1], fun x hx => ?_⟩
      rcases List.mem_cons.1 hx with rfl | hx
      · exact hp _ _ _ _ he
      · exact i2 x hx
    · rw [if_neg h0] at h
      simp only [Prod.mk.injEq] at h
      exact absurd h.2.1 h0
theorem nodesL_all {ts : List Tm} {k : Nat} (h : ∀ t ∈ ts, t.nodes ≤ k) : Tm.nodesL ts ≤ ts.length * k := by
  induction ts with
  | nil => simp [Tm.nodesL]
  | cons t ts ih =>
    have h1 := h t (by simp)
    have h2 := ih fun x hx => h x (List.mem_cons_of_mem _ hx)
    rw [Tm.nodesL, List.length_cons, Nat.add_mul]
    omega
theorem fit_len3 {p v : Int} {t : Tm} (h : tmFit p t v = true) : t.args.length ≤ 3 := by
  rw [tmFit_eq, Bool.and_eq_true, Bool.and_eq_true] at h
  have h1 := h.1.1
  unfold tmNode at h1
  repeat' split at h1
  all_goals first
    | (simp only [Bool.and_eq_true, decide_eq_true_eq] at h1; omega)
    | (exact absurd h1 (by decide))
end Go.Proofs.YtahdkhklngjmoaaGreatDoor

/-
  Whnf: normal. No condition.
-/
namespace Go.Proofs.YtahdkhklngjmoaaGreatDoor
open Go.RowKit

theorem EachI.fin' {f : Tm → Nat → Tm × Int × Nat} {ts xs : List Tm} {e : Int} {nf j : Nat} {us : List Tm} {n : Nat} (h : EachI f ts xs e nf j us n) (hj : j = ts.length) : e = 0 ∧ xs = us ∧ nf = n := by
  subst hj
  exact h.fin
theorem mvH_over (m : Mv) (X : Heap) : List.Sublist X (mvH m X) := by
  cases m with
  | none => exact List.Sublist.refl _
  | some p => exact List.sublist_cons_self _ _
set_option maxRecDepth 100000 in
set_option maxHeartbeats 1000000 in
theorem wnormal_con {rb : Nat} {te : Tre} {l : List En} (hp : Places te l) (ha : AllRight l) : ∀ (N : Nat) (t : Tm) (n : Nat) (v : Int), wTop t n ≤ N → t.nodes ≤ 2000 → 0 ≤ v → tmFit 4 t v = true → HdC 38 rb (envX te l) (wNf l) t n := by
  intro N
  induction N using Nat.strongRecOn with
  | ind N ih =>
  intro t n v hN htn hv hfit used X H Q R h0 h1 h post
  obtain ⟨w, e, n1, he⟩ : ∃ w e n1, wHd l t n = (w, e, n1) := ⟨_, _, _, rfl⟩
  have hn1 : n1 ≤ n := by have := wHd_left l t n; rw [he] at this; exact this
  have hwn : w.nodes ≤ 2000 := by have := wHd_nodes l t n htn; rw [he] at this; exact this
  have hwf : e = 0 → tmFit 4 w v = true := fun h => by have := wHd_fit ha hv t n hfit (by rw [he]; exact h); rw [he] at this; exact this
  unfold TmPost at post
  rw [wNf_eq, he] at post
  simp only at post
  refine conX_of_sem tab_ok Tryz.func38 rfl (ent Tryz.func38 (by kernel_rfl) rfl) (by kernel_rfl) ?_
  intro hw hnn
  clear hw hnn
  refine sem_seq (esc := fun _ => false) tab_ok mixed ?_
  refine sem_seq (esc := fun _ => false) tab_ok mixed ?_
  refine ⟨_, LeL.refl _, whead_con hp ha hv (wTop t n) t n (Nat.le_refl _) htn hfit used X H _ _ h0 h1 h fun H1 hH1 => ?_⟩
  rw [he] at hH1 ⊢
  simp only at hH1 ⊢
  by_cases hE : e = 0
  rotate_left
  · rw [if_neg hE]
    rw [if_neg hE] at post
    simp only at post
    have := post H1 hH1
    rw [if_neg hE] at this
    exact ⟨_, List.Sublist.refl _, this⟩
  subst hE
  rw [if_pos rfl] at post ⊢
  intro hz1 hz2; clear hz1 hz2
  have hwf := hwf rfl
  obtain ⟨h', hh'⟩ : ∃ h', tmHead w = h' := ⟨_, rfl⟩
  obtain ⟨as', has'⟩ : ∃ as', tmArgs w = as' := ⟨_, rfl⟩
  have hpart : ∀ a, a ∈ h'.args ∨ a ∈ as' → ∀ m, m ≤ n1 → wTop a m < wTop t n ∧ a.nodes ≤ 2000 ∧ ∃ v', 0 ≤ v' ∧ tmFit 4 a v' = true := fun a hm m hle => by
    rw [← hh', ← has'] at hm
    obtain ⟨p1, p2⟩ := part_top he hm hle
    refine ⟨p1, by omega, ?_⟩
    rcases hm with hm | hm
    · rcases fit_part (fit_head w hwf) hm with hf | hf
      · exact ⟨v, hv, hf⟩
      · exact ⟨v + 1, by omega, hf⟩
    · exact ⟨v, hv, fit_spine w hwf a hm⟩
  have hla : as'.length ≤ 2000 := by have := tmArgs_len w; rw [has'] at this; omega
  have hlh : h'.args.length ≤ 3 := by rw [← hh']; exact fit_len3 (fit_head w hwf)
  have hhn : h'.nodes ≤ 2000 := by have := tmHead_nodes w; rw [hh'] at this; omega
  obtain ⟨xs, e2, n2, he2⟩ : ∃ xs e2 n2, wEach (wNf l) h'.args n1 = (xs, e2, n2) := ⟨_, _, _, rfl⟩
  have hn2 : n2 ≤ n1 := by have := wEach_left (wNf_left l) h'.args n1; rw [he2] at this; exact this
  obtain ⟨ys, e3, n3, he3⟩ : ∃ ys e3 n3, wEach (wNf l) as' n2 = (ys, e3, n3) := ⟨_, _, _, rfl⟩
  have hn3 : n3 ≤ n2 := by have := wEach_left (wNf_left l) as' n2; rw [he3] at this; exact this
  have hspn := fun (Q : AV → Heap → Prop) (R : Value → Heap → Prop) hq => Con.x (R := R) (SpineMM_con w (by omega) H1 Q hq)
  rw [hh', has'] at post hspn
  rw [he2] at post
  simp only [he3] at post
  refine ⟨_, LeL.refl _, hspn _ _ fun m2 m1 hm2 hm1 => ?_⟩
  intro hz1 hz2; clear hz1 hz2
  obtain ⟨l1, hl1⟩ : ∃ l1, h'.args.length = l1 := ⟨_, rfl⟩
  obtain ⟨l2, hl2⟩ : ∃ l2, as'.length = l2 := ⟨_, rfl⟩
  rw [hl1] at hm1 hlh
  rw [hl1, hl2]
  rw [hl2] at hm2 hla
  have hstop1 : ∀ H5, HasW rb (envX te l) (used + ((n : Int) - (n2 : Nat))) (n2 : Nat) X H5 → e2 ≠ 0 → R (stuckV e2) H5 := fun H5 hH5 hne => by
    rw [if_neg hne] at post
    simp only at post
    have := post H5 hH5
    rw [if_neg hne] at this
    exact this
  have hstop2 : e2 = 0 → ∀ H5, HasW rb (envX te l) (used + ((n : Int) - (n3 : Nat))) (n3 : Nat) X H5 → e3 ≠ 0 → R (stuckV e3) H5 := fun h2 H5 hH5 hne => by
    rw [if_pos h2, if_neg hne] at post
    simp only at post
    have := post H5 hH5
    rw [if_neg hne] at this
    exact this
  refine sem_then ?_
  refine sem_join (esc := fun _ => false) tab_ok mixed (X := Unit) (fun _ => ⟨[(0, .g (.ptr rb 0)), (4, .lp 4 0), (5, .lp 5 0), (6, .g (mvV 5 m2 l2)), (21, .g (.sl .full 1 [mvV 5 m1 l1, mvV 5 m2 l2])), (22, .g (.i 2)), (23, .g (.i 0))], [(5, [.i h'.kind, .i h'.n, .str h'.name, .sl .no 3 (h'.levels.map lvA), mvV 5 m1 l1]), (4, [.i 0, .i 0, .str [], .sl .full 0 [], .sl .full 0 []]), (3, (tmX t).cells)], mvH m1 (mvH m2 H1)⟩) (fun _ => True) ?_ (fun _ _ => ?_)
  · cases m1 <;> cases m2 <;> exact ⟨(), trivial, ⟨⟨Le.refl _, ⟨rfl, rfl⟩, ⟨rfl, rfl⟩, Le.refl _, Le.refl _, Le.refl _, Le.refl _, trivial⟩, ⟨⟨rfl, LeL.refl _⟩, ⟨rfl, LeL.refl _⟩, ⟨rfl, LeL.refl _⟩, trivial⟩, List.Sublist.refl _⟩⟩
  refine sem_of (esc := fun _ => false) tab_ok mixed ?_

  refine ⟨Nat × List AV × List AV × Nat × Heap, fun p => ⟨[(0, .g (.ptr rb 0)), (4, .lp 4 0), (5, .lp 5 0), (6, .g (mvV 5 m2 l2)), (21, .g (.sl .full 1 [mvV 5 m1 l1, mvV 5 m2 l2])), (22, .g (.i 2)), (23, .g (.i p.1))], [(5, [.i h'.kind, .i h'.n, .str h'.name, .sl .no 3 (h'.levels.map lvA), mvV 5 m1 l1]), (4, [.i 0, .i 0, .str [], .sl .full 0 [], .sl .full 0 []]), (3, (tmX t).cells)], p.2.2.2.2⟩,
    fun p => (p.1 = 0 ∧ NRows rb (envX te l) used n X H1 m1 m2 l1 l2 h'.args as' n1 p.2.1 p.2.2.1 p.2.2.2.2) ∨ (p.1 = 1 ∧ e2 = 0 ∧ NRows rb (envX te l) used n X H1 m1 m2 l1 l2 xs as' n2 p.2.1 p.2.2.1 p.2.2.2.2) ∨ (p.1 = 2 ∧ e2 = 0 ∧ e3 = 0 ∧ NRows rb (envX te l) used n X H1 m1 m2 l1 l2 xs ys n3 p.2.1 p.2.2.1 p.2.2.2.2),
    fun p => 2 - p.1, ⟨(0, mvCs m1, mvCs m2, 0, mvH m1 (mvH m2 H1)), Or.inl ⟨rfl, ?_⟩, ?_⟩, ?_⟩
  · refine ⟨?_, ?_, ?_, hn1⟩
    · rw [mvC_self]; exact hm1
    · rw [mvC_self]; exact hm2
    · rw [mvC_self, mvC_self]
      exact (hH1.mv m2).mv m1
  · exact ⟨⟨Le.refl _, ⟨rfl, rfl⟩, ⟨rfl, rfl⟩, Le.refl _, Le.refl _, Le.refl _, Le.refl _, trivial⟩, ⟨⟨rfl, LeL.refl _⟩, ⟨rfl, LeL.refl _⟩, ⟨rfl, LeL.refl _⟩, trivial⟩, List.Sublist.refl _⟩
  · rintro ⟨k, cs1, cs2, nx, H2⟩ hI
    simp only at hI
    refine ifB_dec (fun g1 => ?_) (fun g1 => ?_)
    · rcases hI with ⟨rfl, hr⟩ | ⟨rfl, z2, hr⟩ | ⟨rfl, z2, z3, hr⟩
      · refine ⟨0, rfl, _, rfl, ?_⟩
        cases m1 with
        | none =>
          have hl0 : l1 = 0 := hr.a.1
          have hi := EachI.start he2
          obtain ⟨f1, f2, f3⟩ := hi.fin' (by omega)
          refine ⟨Unit, fun _ => ⟨[(0, .g (.ptr rb 0)), (4, .lp 4 0), (5, .lp 5 0), (6, .g (mvV 5 m2 l2)), (8, .g (.sl .no 5 [])), (21, .g (.sl .full 1 [.sl .no 5 [], mvV 5 m2 l2])), (22, .g (.i 2)), (23, .g (.i 0)), (27, .g (.sl .no 5 [])), (28, .g (.i 0)), (29, .g (.i 0))], [(5, [.i h'.kind, .i h'.n, .str h'.name, .sl .no 3 (h'.levels.map lvA), .sl .no 5 []]), (4, [.i 0, .i 0, .str [], .sl .full 0 [], .sl .full 0 []]), (3, (tmX t).cells)], H2⟩, fun _ => True, fun _ => 0, ⟨(), trivial, ⟨⟨Le.refl _, ⟨rfl, rfl⟩, ⟨rfl, rfl⟩, Le.refl _, Le.refl _, Le.refl _, Le.refl _, Le.refl _, Le.refl _, Le.refl _, Le.refl _, trivial⟩, ⟨⟨rfl, LeL.refl _⟩, ⟨rfl, LeL.refl _⟩, ⟨rfl, LeL.refl _⟩, trivial⟩, List.Sublist.refl _⟩⟩, fun _ _ => ?_⟩
          refine ⟨in64_of (by first | omega | (dsimp only; omega)) (by first | omega | (dsimp only; omega)), ?_⟩
          exact ⟨(1, cs1, cs2, n2, H2), Or.inr (Or.inl ⟨rfl, f1, ⟨hr.a.1, by rw [f2]; rfl⟩, hr.b, by rw [f3]; exact hr.run, by omega⟩), by (try dsimp only); omega, ⟨⟨Le.refl _, ⟨rfl, rfl⟩, ⟨rfl, rfl⟩, Le.refl _, Le.refl _, Le.refl _, Le.refl _, trivial⟩, ⟨⟨rfl, LeL.refl _⟩, ⟨rfl, LeL.refl _⟩, ⟨rfl, LeL.refl _⟩, trivial⟩, List.Sublist.refl _⟩⟩
        | some p =>
          obtain ⟨b, cap, c0⟩ := p
          obtain ⟨hne, hok⟩ := hr.a
          refine ⟨Nat × List Tm × List AV × Nat × Heap, fun p => ⟨[(0, .g (.ptr rb 0)), (4, .lp 4 0), (5, .lp 5 0), (6, .g (mvV 5 m2 l2)), (8, .g (hs b l1 cap)), (21, .g (.sl .full 1 [hs b l1 cap, mvV 5 m2 l2])), (22, .g (.i 2)), (23, .g (.i 0)), (27, .g (hs b l1 cap)), (28, .g (.i l1)), (29, .g (.i p.1))], [(5, [.i h'.kind, .i h'.n, .str h'.name, .sl .no 3 (h'.levels.map lvA), hs b l1 cap]), (4, [.i 0, .i 0, .str [], .sl .full 0 [], .sl .full 0 []]), (3, (tmX t).cells)], p.2.2.2.2⟩, fun p => EachI (wNf l) h'.args xs e2 n2 p.1 p.2.1 p.2.2.2.1 ∧ TurnOk 5 l1 ((rowAt h'.args p.2.1 p.1).map tmA) (mvH m2 H1) b cap p.2.2.1 ∧ HasW rb (envX te l) (used + ((n : Int) - (p.2.2.2.1 : Nat))) (p.2.2.2.1 : Nat) ((b, .cells p.2.2.1) :: (mvH (mvC m2 cs2) X)) p.2.2.2.2 ∧ p.2.2.2.1 ≤ n1, fun p => l1 - p.1, ⟨(0, [], cs1, n1, H2), ⟨EachI.start he2, by simpa [rowAt] using hok, hr.run, Nat.le_refl _⟩, ⟨⟨Le.refl _, ⟨rfl, rfl⟩, ⟨rfl, rfl⟩, Le.refl _, Le.refl _, Le.refl _, Le.refl _, Le.refl _, Le.refl _, Le.refl _, Le.refl _, trivial⟩, ⟨⟨rfl, LeL.refl _⟩, ⟨rfl, LeL.refl _⟩, ⟨rfl, LeL.refl _⟩, trivial⟩, List.Sublist.refl _⟩⟩, ?_⟩
          rintro ⟨j, us, cs, nn, H3⟩ ⟨hi, htk, hrn, hle⟩
          simp only at hi htk hrn hle
          refine ifB_dec (fun g2 => ?_) (fun g2 => ?_)
          · have hlt : j < h'.args.length := by omega
            obtain ⟨q1, q2⟩ := rowAt_get hi.len hlt
            obtain ⟨r1, r2, r3⟩ := htk.get q1
            rw [q2] at r1
            refine ⟨j, rfl, by omega, ?_⟩
            refine ⟨_, (show H3.Perm _ from hrn).mem_iff.2 (List.mem_cons_of_mem _ List.mem_cons_self), ?_⟩
            refine part_run (xs := (tmX h'.args[j]).cells) rfl rfl r3 r1 ?_
            obtain ⟨u, e', n', hu⟩ : ∃ u e' n', wNf l h'.args[j] nn = (u, e', n') := ⟨_, _, _, rfl⟩
            have hn' : n' ≤ nn := by have := wNf_left l h'.args[j] nn; rw [hu] at this; exact this
            obtain ⟨d1, d2, v', d3, d4⟩ := hpart h'.args[j] (Or.inl (List.getElem_mem hlt)) nn (by omega)
            refine ⟨_, LeL.refl _, ih (wTop h'.args[j] nn) (by omega) h'.args[j] nn v' (Nat.le_refl _) d2 d3 d4 _ _ H3 _ _ (by omega) (by omega) hrn fun H4 hH4 => ?_⟩
            rw [hu] at hH4 ⊢
            simp only at hH4 ⊢
            rw [show used + ((n : Int) - (nn : Nat)) + ((nn : Int) - (n' : Nat)) = used + ((n : Int) - (n' : Nat)) by omega] at hH4
            by_cases hx : e' = 0
            · subst hx
              rw [if_pos rfl]
              intro hz1 hz2; clear hz1 hz2
              obtain ⟨p1, p2⟩ := htk.put (wide_tms _) (show j < l1 by omega) (y := tmX u) rfl
              have e1 := rowAt_set hi.len hlt u
              rw [tmA_eq] at e1
              rw [e1] at p1
              obtain ⟨H5, a5, p5⟩ := at_permW (y := .cells (putCells cs (j * 5) (tmX u).cells)) ((show H4.Perm _ from hH4).trans (List.Perm.swap _ _ _))
              refine ⟨j, rfl, by omega, ?_⟩
              rw [Nat.zero_add]
              refine ⟨_, _, a5, p2, ?_⟩
              refine ⟨in64_of (by first | omega | (dsimp only; omega)) (by first | omega | (dsimp only; omega)), ?_⟩
              exact ⟨(j + 1, us ++ [u], putCells cs (j * 5) (tmX u).cells, n', H5), ⟨hi.step hlt hu, p1, p5.trans (List.Perm.swap _ _ _), by simp only; omega⟩, by (try dsimp only); omega, ⟨⟨Le.refl _, ⟨rfl, rfl⟩, ⟨rfl, rfl⟩, Le.refl _, Le.refl _, Le.refl _, Le.refl _, Le.refl _, Le.refl _, Le.refl _, Le.refl _, trivial⟩, ⟨⟨rfl, LeL.refl _⟩, ⟨rfl, LeL.refl _⟩, ⟨rfl, LeL.refl _⟩, trivial⟩, List.Sublist.refl _⟩⟩
            · rw [if_neg hx]
              obtain ⟨y1, y2⟩ := hi.err hlt hu hx
              obtain ⟨H5, s5, w5⟩ := hH4.drop (Y := X) ((mvH_over _ _).trans (List.sublist_cons_self _ _))
              refine ⟨H5, s5, ?_⟩
              rw [← y2] at w5
              rw [← y1]
              exact hstop1 H5 w5 (by rw [y1]; exact hx)
          · have hjl := hi.le
            obtain ⟨f1, f2, f3⟩ := hi.fin' (by omega)
            have hA : TurnOk 5 l1 (xs.map tmA) (mvH m2 H1) b cap cs := by
              have e0 : rowAt h'.args us j = xs := by rw [f2, rowAt, List.drop_eq_nil_of_le (by omega), List.append_nil]
              rw [← e0]
              exact htk
            rw [← f3] at hrn
            refine ⟨in64_of (by first | omega | (dsimp only; omega)) (by first | omega | (dsimp only; omega)), ?_⟩
            exact ⟨(1, cs, cs2, n2, H3), Or.inr (Or.inl ⟨rfl, f1, ⟨hne, hA⟩, hr.b, hrn, by omega⟩), by (try dsimp only); omega, ⟨⟨Le.refl _, ⟨rfl, rfl⟩, ⟨rfl, rfl⟩, Le.refl _, Le.refl _, Le.refl _, Le.refl _, trivial⟩, ⟨⟨rfl, LeL.refl _⟩, ⟨rfl, LeL.refl _⟩, ⟨rfl, LeL.refl _⟩, trivial⟩, List.Sublist.refl _⟩⟩
      · refine ⟨1, rfl, _, rfl, ?_⟩
        cases m2 with
        | none =>
          have hl0 : l2 = 0 := hr.b.1
          have hi := EachI.start he3
          obtain ⟨f1, f2, f3⟩ := hi.fin' (by omega)
          refine ⟨Unit, fun _ => ⟨[(0, .g (.ptr rb 0)), (4, .lp 4 0), (5, .lp 5 0), (6, .g (.sl .no 5 [])), (8, .g (.sl .no 5 [])), (21, .g (.sl .full 1 [mvV 5 m1 l1, .sl .no 5 []])), (22, .g (.i 2)), (23, .g (.i 1)), (27, .g (.sl .no 5 [])), (28, .g (.i 0)), (29, .g (.i 0))], [(5, [.i h'.kind, .i h'.n, .str h'.name, .sl .no 3 (h'.levels.map lvA), mvV 5 m1 l1]), (4, [.i 0, .i 0, .str [], .sl .full 0 [], .sl .full 0 []]), (3, (tmX t).cells)], H2⟩, fun _ => True, fun _ => 0, ⟨(), trivial, ⟨⟨Le.refl _, ⟨rfl, rfl⟩, ⟨rfl, rfl⟩, Le.refl _, Le.refl _, Le.refl _, Le.refl _, Le.refl _, Le.refl _, Le.refl _, Le.refl _, trivial⟩, ⟨⟨rfl, LeL.refl _⟩, ⟨rfl, LeL.refl _⟩, ⟨rfl, LeL.refl _⟩, trivial⟩, List.Sublist.refl _⟩⟩, fun _ _ => ?_⟩
          refine ⟨in64_of (by first | omega | (dsimp only; omega)) (by first | omega | (dsimp only; omega)), ?_⟩
          exact ⟨(2, cs1, cs2, n3, H2), Or.inr (Or.inr ⟨rfl, z2, f1, hr.a, ⟨hr.b.1, by rw [f2]; rfl⟩, by rw [f3]; exact hr.run, by omega⟩), by (try dsimp only); omega, ⟨⟨Le.refl _, ⟨rfl, rfl⟩, ⟨rfl, rfl⟩, Le.refl _, Le.refl _, Le.refl _, Le.refl _, trivial⟩, ⟨⟨rfl, LeL.refl _⟩, ⟨rfl, LeL.refl _⟩, ⟨rfl, LeL.refl _⟩, trivial⟩, List.Sublist.refl _⟩⟩
        | some p =>
          obtain ⟨b, cap, c0⟩ := p
          obtain ⟨hne, hok⟩ := hr.b
          refine ⟨Nat × List Tm × List AV × Nat × Heap, fun p => ⟨[(0, .g (.ptr rb 0)), (4, .lp 4 0), (5, .lp 5 0), (6, .g (hs b l2 cap)), (8, .g (hs b l2 cap)), (21, .g (.sl .full 1 [mvV 5 m1 l1, hs b l2 cap])), (22, .g (.i 2)), (23, .g (.i 1)), (27, .g (hs b l2 cap)), (28, .g (.i l2)), (29, .g (.i p.1))], [(5, [.i h'.kind, .i h'.n, .str h'.name, .sl .no 3 (h'.levels.map lvA), mvV 5 m1 l1]), (4, [.i 0, .i 0, .str [], .sl .full 0 [], .sl .full 0 []]), (3, (tmX t).cells)], p.2.2.2.2⟩, fun p => EachI (wNf l) as' ys e3 n3 p.1 p.2.1 p.2.2.2.1 ∧ TurnOk 5 l2 ((rowAt as' p.2.1 p.1).map tmA) H1 b cap p.2.2.1 ∧ HasW rb (envX te l) (used + ((n : Int) - (p.2.2.2.1 : Nat))) (p.2.2.2.1 : Nat) ((b, .cells p.2.2.1) :: (mvH (mvC m1 cs1) X)) p.2.2.2.2 ∧ p.2.2.2.1 ≤ n2, fun p => l2 - p.1, ⟨(0, [], cs2, n2, H2), ⟨EachI.start he3, by simpa [rowAt] using hok, hr.run.perm (mvH_cons _ _ _), Nat.le_refl _⟩, ⟨⟨Le.refl _, ⟨rfl, rfl⟩, ⟨rfl, rfl⟩, Le.refl _, Le.refl _, Le.refl _, Le.refl _, Le.refl _, Le.refl _, Le.refl _, Le.refl _, trivial⟩, ⟨⟨rfl, LeL.refl _⟩, ⟨rfl, LeL.refl _⟩, ⟨rfl, LeL.refl _⟩, trivial⟩, List.Sublist.refl _⟩⟩, ?_⟩
          rintro ⟨j, us, cs, nn, H3⟩ ⟨hi, htk, hrn, hle⟩
          simp only at hi htk hrn hle
          refine ifB_dec (fun g2 => ?_) (fun g2 => ?_)
          · have hlt : j < as'.length := by omega
            obtain ⟨q1, q2⟩ := rowAt_get hi.len hlt
            obtain ⟨r1, r2, r3⟩ := htk.get q1
            rw [q2] at r1
            refine ⟨j, rfl, by omega, ?_⟩
            refine ⟨_, (show H3.Perm _ from hrn).mem_iff.2 (List.mem_cons_of_mem _ List.mem_cons_self), ?_⟩
            refine part_run (xs := (tmX as'[j]).cells) rfl rfl r3 r1 ?_
            obtain ⟨u, e', n', hu⟩ : ∃ u e' n', wNf l as'[j] nn = (u, e', n') := ⟨_, _, _, rfl⟩
            have hn' : n' ≤ nn := by have := wNf_left l as'[j] nn; rw [hu] at this; exact this
            obtain ⟨d1, d2, v', d3, d4⟩ := hpart as'[j] (Or.inr (List.getElem_mem hlt)) nn (by omega)
            refine ⟨_, LeL.refl _, ih (wTop as'[j] nn) (by omega) as'[j] nn v' (Nat.le_refl _) d2 d3 d4 _ _ H3 _ _ (by omega) (by omega) hrn fun H4 hH4 => ?_⟩
            rw [hu] at hH4 ⊢
            simp only at hH4 ⊢
            rw [show used + ((n : Int) - (nn : Nat)) + ((nn : Int) - (n' : Nat)) = used + ((n : Int) - (n' : Nat)) by omega] at hH4
            by_cases hx : e' = 0
            · subst hx
              rw [if_pos rfl]
              intro hz1 hz2; clear hz1 hz2
              obtain ⟨p1, p2⟩ := htk.put (wide_tms _) (show j < l2 by omega) (y := tmX u) rfl
              have e1 := rowAt_set hi.len hlt u
              rw [tmA_eq] at e1
              rw [e1] at p1
              obtain ⟨H5, a5, p5⟩ := at_permW (y := .cells (putCells cs (j * 5) (tmX u).cells)) ((show H4.Perm _ from hH4).trans (List.Perm.swap _ _ _))
              refine ⟨j, rfl, by omega, ?_⟩
              rw [Nat.zero_add]
              refine ⟨_, _, a5, p2, ?_⟩
              refine ⟨in64_of (by first | omega | (dsimp only; omega)) (by first | omega | (dsimp only; omega)), ?_⟩
              exact ⟨(j + 1, us ++ [u], putCells cs (j * 5) (tmX u).cells, n', H5), ⟨hi.step hlt hu, p1, p5.trans (List.Perm.swap _ _ _), by simp only; omega⟩, by (try dsimp only); omega, ⟨⟨Le.refl _, ⟨rfl, rfl⟩, ⟨rfl, rfl⟩, Le.refl _, Le.refl _, Le.refl _, Le.refl _, Le.refl _, Le.refl _, Le.refl _, Le.refl _, trivial⟩, ⟨⟨rfl, LeL.refl _⟩, ⟨rfl, LeL.refl _⟩, ⟨rfl, LeL.refl _⟩, trivial⟩, List.Sublist.refl _⟩⟩
            · rw [if_neg hx]
              obtain ⟨y1, y2⟩ := hi.err hlt hu hx
              obtain ⟨H5, s5, w5⟩ := hH4.drop (Y := X) ((mvH_over _ _).trans (List.sublist_cons_self _ _))
              refine ⟨H5, s5, ?_⟩
              rw [← y2] at w5
              rw [← y1]
              exact hstop2 z2 H5 w5 (by rw [y1]; exact hx)
          · have hjl := hi.le
            obtain ⟨f1, f2, f3⟩ := hi.fin' (by omega)
            have hA : TurnOk 5 l2 (ys.map tmA) H1 b cap cs := by
              have e0 : rowAt as' us j = ys := by rw [f2, rowAt, List.drop_eq_nil_of_le (by omega), List.append_nil]
              rw [← e0]
              exact htk
            rw [← f3] at hrn
            refine ⟨in64_of (by first | omega | (dsimp only; omega)) (by first | omega | (dsimp only; omega)), ?_⟩
            exact ⟨(2, cs1, cs, n3, H3), Or.inr (Or.inr ⟨rfl, z2, f1, hr.a, ⟨hne, hA⟩, hrn.perm (mvH_cons _ _ _).symm, by omega⟩), by (try dsimp only); omega, ⟨⟨Le.refl _, ⟨rfl, rfl⟩, ⟨rfl, rfl⟩, Le.refl _, Le.refl _, Le.refl _, Le.refl _, trivial⟩, ⟨⟨rfl, LeL.refl _⟩, ⟨rfl, LeL.refl _⟩, ⟨rfl, LeL.refl _⟩, trivial⟩, List.Sublist.refl _⟩⟩
      · exact absurd g1 (by omega)
    · rcases hI with ⟨rfl, hr⟩ | ⟨rfl, z2, hr⟩ | ⟨rfl, z2, z3, hr⟩
      · exact absurd (show ((0 : Nat) : Int) < 2 by decide) g1
      · exact absurd (show ((1 : Nat) : Int) < 2 by decide) g1
      · obtain ⟨bx, hbx⟩ : ∃ bx, (rb, AObj.cells [envX te l, .i (used + ((n : Int) - (n3 : Nat))), .i (n3 : Nat)]) = bx := ⟨_, rfl⟩
        have hrun : H2.Perm (mvH (mvC m1 cs1) (mvH (mvC m2 cs2) (bx :: X))) := by
          have := hr.run
          unfold HasW at this
          rw [hbx] at this
          exact this.trans ((mvH_perm _ (mvH_cons _ _ _)).trans (mvH_cons _ _ _)).symm
        refine sem_permH _ hrun ?_
        refine sem_mv hr.a (wide_tms xs) ⟨[(4, .lp 4 0), (5, .lp 5 0), (6, .g (mvV 5 m2 l2))], [(5, [.i h'.kind, .i h'.n, .str h'.name, .sl .no 3 (h'.levels.map lvA), .sl .no 5 (xs.map tmA)]), (4, [.i 0, .i 0, .str [], .sl .full 0 [], .sl .full 0 []]), (3, (tmX t).cells)], mvH (mvC m2 cs2) (bx :: X)⟩ (fun M hM => ?_) ?_
        · rw [mvV_mvC] at hM
          exact ⟨⟨⟨rfl, rfl⟩, ⟨rfl, rfl⟩, LeM.refl _, trivial⟩, ⟨⟨rfl, ⟨LeM.refl _, LeM.refl _, LeM.refl _, LeM.refl _, hM, trivial⟩⟩, ⟨rfl, LeLM.refl _⟩, ⟨rfl, LeLM.refl _⟩, trivial⟩, List.Sublist.refl _⟩
        refine sem_mv hr.b (wide_tms ys) ⟨[(4, .lp 4 0), (5, .lp 5 0), (6, .g (.sl .no 5 (ys.map tmA)))], [(5, [.i h'.kind, .i h'.n, .str h'.name, .sl .no 3 (h'.levels.map lvA), .sl .no 5 (xs.map tmA)]), (4, [.i 0, .i 0, .str [], .sl .full 0 [], .sl .full 0 []]), (3, (tmX t).cells)], bx :: X⟩ (fun M hM => ?_) ?_
        · rw [mvV_mvC] at hM
          exact ⟨⟨⟨rfl, rfl⟩, ⟨rfl, rfl⟩, hM, trivial⟩, ⟨⟨rfl, LeLM.refl _⟩, ⟨rfl, LeLM.refl _⟩, ⟨rfl, LeLM.refl _⟩, trivial⟩, List.Sublist.refl _⟩
        rw [if_pos z2, if_pos z3] at post
        subst z2
        subst z3
        obtain ⟨a1, a2⟩ := wEach_all (p := fun u => u.nodes ≤ 2000) (fun t n u n' h => wNf_nodes l h) _ _ _ _ he2
        obtain ⟨b1, b2⟩ := wEach_all (p := fun u => u.nodes ≤ 2000) (fun t n u n' h => wNf_nodes l h) _ _ _ _ he3
        have hln := h'.nodes_eq
        have hxn := nodesL_all a2
        have hfn : (Tm.mk h'.kind h'.n h'.name h'.levels xs).nodes ≤ 1000000 := by
          have e0 : (Tm.mk h'.kind h'.n h'.name h'.levels xs).nodes = Lv.nodesL h'.levels + Tm.nodesL xs + 1 := rfl
          have : xs.length * 2000 ≤ 3 * 2000 := Nat.mul_le_mul_right _ (by omega)
          rw [e0]
          omega
        refine sem_of (esc := fun _ => false) tab_ok mixed ?_
        refine ⟨_, LeL.refl _, Con.x (App_con .no (.mk h'.kind h'.n h'.name h'.levels xs) ys hfn (fun y hy => Nat.le_trans (b2 y hy) (by decide)) (by omega) _ _ ?_)⟩
        intro hz1 hz2; clear hz1 hz2
        unfold wBuild at post
        refine ⟨_, LeL.refl _, wsmall_con _ (fun hs => ?_) (fun hs => ?_)⟩
        · rw [if_pos hs] at post
          have := post (bx :: X) (by unfold HasW; rw [hbx])
          rw [if_pos rfl] at this
          intro hz1 hz2; clear hz1 hz2
          exact ⟨_, _, Le.refl _, List.Sublist.refl _, this⟩
        · rw [if_neg hs] at post
          have := post (bx :: X) (by unfold HasW; rw [hbx])
          rw [if_neg (show ¬(15 : Int) = 0 by decide)] at this
          exact ⟨_, List.Sublist.refl _, this⟩
end Go.Proofs.YtahdkhklngjmoaaGreatDoor

