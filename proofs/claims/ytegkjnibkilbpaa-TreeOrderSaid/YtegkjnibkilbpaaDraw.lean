/-
  A region that draws its order, whose operations are either calm (in every world of a class they yield one value) or stand in a chain: one walk in the order of the text serves every order. No condition.
-/
import Derived.Test.YtegkjnibkilbpaaBase
namespace Go.Proofs.Ytegkjnibkilbpaa
section
variable {P : Program} {ops : Array Oper} {md : Region.Mode} {C : World → Prop} {eff : Nat → Bool}

/-- in every world of the class it yields v, and leaves the world as it is -/
def calmAt (P : Program) (C : World → Prop) (o : Oper) (a : Act) (v : Value) : Prop :=
  ∀ w, C w → (execOp a.eval o).run P w = .ok (.value v) w ∨ ((execOp a.eval o).run P w = .ok .skip w ∧ v = undef)

def cOper (P : Program) (C : World → Prop) (e : Bool) (o : Oper) (K : Act → World → Prop) (a : Act) (w : World) : Prop :=
  if e then o.wp P a w (fun a' w' => C w' ∧ (∃ v, a' = a.put o.dst v) ∧ K a' w') (fun _ _ _ => False)
  else ∃ v, calmAt P C o a v ∧ K (a.put o.dst v) w

def cOp (P : Program) (ops : Array Oper) (C : World → Prop) (eff : Nat → Bool) (i : Nat) (K : Act → World → Prop) (a : Act) (w : World) : Prop :=
  match ops[i]? with
  | none => K a w
  | some o => if Region.wanted o (yielded ops a.tmps) then cOper P C (eff i) o K a w else K (a.put o.dst undef) w

/-- the walk in the order of the text -/
def wpC (P : Program) (ops : Array Oper) (C : World → Prop) (eff : Nat → Bool) (Q : Act → World → Prop) : List Oper → Nat → Act → World → Prop
  | [], _, a, w => Q a w
  | o :: rest, k, a, w => if Region.wanted o (yielded ops a.tmps) then cOper P C (eff k) o (wpC P ops C eff Q rest (k + 1)) a w else wpC P ops C eff Q rest (k + 1) (a.put o.dst undef) w

theorem upon_mono {o : Oper} {a : Act} {K K' : Act → World → Prop} {Q' : Exit → Act → World → Prop} {r : Result Next} (h : ∀ a w, K a w → K' a w) (hh : o.upon P a K (fun _ _ _ => False) r) : o.upon P a K' Q' r := by
  cases r with
  | ok n w' =>
    cases n <;> simp only [Oper.upon] at hh ⊢
    case value u => exact h _ _ hh
    case skip => exact h _ _ hh
    case defer d => exact h _ _ hh
    case enter f args =>
      refine Calls.mono hh fun e w'' he => ?_
      cases e with
      | returned u => exact h _ _ he
      | panicked c => exact he.elim
      | outgrown => obtain ⟨_, _, h⟩ := he; exact h.elim
    case row row args => exact Rows.mono hh fun u w'' he => h _ _ he
  | halt x w' => cases x <;> simp only [Oper.upon] at hh

theorem Oper_wp_mono {o : Oper} {a : Act} {w : World} {K K' : Act → World → Prop} {Q' : Exit → Act → World → Prop} (h : ∀ a w, K a w → K' a w) (hh : o.wp P a w K (fun _ _ _ => False)) : o.wp P a w K' Q' :=
  upon_mono h hh

/-- there is an outcome -/
theorem Oper_wp_some {o : Oper} {a : Act} {w : World} {K : Act → World → Prop} (hh : o.wp P a w K (fun _ _ _ => False)) : ∃ a' w', K a' w' := by
  unfold Oper.wp at hh
  generalize (execOp a.eval o).run P w = r at hh
  cases r with
  | ok n w' =>
    cases n <;> simp only [Oper.upon] at hh
    case value u => exact ⟨_, _, hh⟩
    case skip => exact ⟨_, _, hh⟩
    case defer d => exact ⟨_, _, hh⟩
    case enter f args =>
      obtain ⟨e, w'', fr, h, _⟩ := hh []
      cases e with
      | returned u => exact ⟨_, _, h⟩
      | panicked c => exact h.elim
      | outgrown => obtain ⟨_, _, h⟩ := h; exact h.elim
    case row row args =>
      obtain ⟨v, w'', h, _⟩ := hh default []
      exact ⟨_, _, h⟩
  | halt x w' => cases x <;> simp only [Oper.upon] at hh

theorem cOper_mono {e : Bool} {o : Oper} {a : Act} {w : World} {K K' : Act → World → Prop} (h : ∀ a w, C w → K a w → K' a w) (hw : C w) (hh : cOper P C e o K a w) : cOper P C e o K' a w := by
  unfold cOper at *
  split
  · rename_i he
    rw [if_pos he] at hh
    exact Oper_wp_mono (fun a' w' ⟨h1, h2, h3⟩ => ⟨h1, h2, h _ _ h1 h3⟩) hh
  · rename_i he
    rw [if_neg he] at hh
    obtain ⟨v, h1, h2⟩ := hh
    exact ⟨v, h1, h _ _ hw h2⟩

theorem cOp_mono {i : Nat} {a : Act} {w : World} {K K' : Act → World → Prop} (h : ∀ a w, C w → K a w → K' a w) (hw : C w) (hh : cOp P ops C eff i K a w) : cOp P ops C eff i K' a w := by
  unfold cOp at *
  split
  · rename_i ho; simp only [ho] at hh; exact h _ _ hw hh
  · rename_i o ho
    simp only [ho] at hh
    split
    · rename_i hwn; simp only [hwn, if_true] at hh; exact cOper_mono h hw hh
    · rename_i hwn; simp only [hwn] at hh; exact h _ _ hw hh

def wpAnyC (P : Program) (md : Region.Mode) (ops : Array Oper) (C : World → Prop) (eff : Nat → Bool) (Q : Act → World → Prop) : Nat → Array Bool → Act → World → Prop
  | 0, listed, a, w => Region.ready md ops listed = [] ∧ Q a w
  | fuel + 1, listed, a, w => (Region.ready md ops listed = [] → Q a w) ∧ ∀ i ∈ Region.ready md ops listed, cOp P ops C eff i (wpAnyC P md ops C eff Q fuel (listed.setIfInBounds i true)) a w

theorem wpOp_of_cOp {i : Nat} {a : Act} {w : World} {K K' : Act → World → Prop} {Q' : Exit → Act → World → Prop} (h : ∀ a w, C w → K a w → K' a w) (hw : C w) (hh : cOp P ops C eff i K a w) : wpOp P ops Q' i K' a w := by
  unfold cOp at hh
  unfold wpOp
  split
  · rename_i ho; simp only [ho] at hh; exact h _ _ hw hh
  · rename_i o ho
    simp only [ho] at hh
    split
    · rename_i hwn
      simp only [hwn, if_true] at hh
      unfold cOper at hh
      split at hh
      · exact .inl (Oper_wp_mono (fun a' w' ⟨h1, _, h3⟩ => h _ _ h1 h3) hh)
      · obtain ⟨v, h1, h2⟩ := hh
        left
        unfold Oper.wp
        rcases h1 w hw with e | ⟨e, rfl⟩ <;> rw [e] <;> exact h _ _ hw h2
    · rename_i hwn; simp only [hwn] at hh; exact h _ _ hw hh

theorem wpAny_of_C {Q : Act → World → Prop} {Q' : Exit → Act → World → Prop} (hQ : ∀ a w, C w → Q a w → Q' .normal a w) : ∀ (fuel : Nat) (listed : Array Bool) (a : Act) (w : World), C w →
    wpAnyC P md ops C eff Q fuel listed a w → wpAny P md ops Q' fuel listed a w
  | 0, _, _, _, hw, h => ⟨h.1, hQ _ _ hw h.2⟩
  | fuel + 1, _, _, _, hw, h => ⟨fun h0 => hQ _ _ hw (h.1 h0), fun i hi => wpOp_of_cOp (fun a' w' hw' => wpAny_of_C hQ fuel _ a' w' hw') hw (h.2 i hi)⟩

/-- what a calm operation, or one that isn't wanted, leaves in its temporary -/
def YieldsC (P : Program) (ops : Array Oper) (C : World → Prop) (e : Bool) (o : Oper) (v : Value) (a : Act) : Prop :=
  (e = false ∧ Region.wanted o (yielded ops a.tmps) = true ∧ calmAt P C o a v) ∨ (Region.wanted o (yielded ops a.tmps) = false ∧ v = undef)

theorem YieldsC.of_same {e : Bool} {o : Oper} {v : Value} {a a' : Act} (hy : YieldsC P ops C e o v a) (he : execOp a'.eval o = execOp a.eval o)
    (hw : Region.wanted o (yielded ops a'.tmps) = Region.wanted o (yielded ops a.tmps)) : YieldsC P ops C e o v a' := by
  unfold YieldsC calmAt at *
  rw [he, hw]
  exact hy

theorem YieldsC.cOp {i : Nat} {o : Oper} {v : Value} {a : Act} {w : World} (hi : ops[i]? = some o) (hy : YieldsC P ops C (eff i) o v a) {K : Act → World → Prop} (h : K (a.put o.dst v) w) : cOp P ops C eff i K a w := by
  unfold Proofs.Ytegkjnibkilbpaa.cOp
  simp only [hi]
  rcases hy with ⟨hn, hw, hv⟩ | ⟨hw, rfl⟩
  · simp only [hw, if_true]
    unfold cOper
    rw [hn]
    exact ⟨v, hv, h⟩
  · simp only [hw, Bool.false_eq_true, if_false]; exact h

/-- another operation, apart from a calm one, whether this one's value is in its place already or not -/
theorem cOp_put {e : Bool} {j : Nat} {oi oj : Oper} {v : Value} (hj : ops[j]? = some oj) (hap : oi.apart ops oj = true)
    (hsi : ∀ cs b, oi.op ≠ .select cs b) (hsj : ∀ cs b, oj.op ≠ .select cs b) {K : Act → World → Prop} {a : Act} {w : World}
    (hy : YieldsC P ops C e oi v a) (h : cOp P ops C eff j K (a.put oi.dst v) w) :
    cOp P ops C eff j (fun a' w' => YieldsC P ops C e oi v a' ∧ K (a'.put oi.dst v) w') a w := by
  obtain ⟨h1, h2, h3⟩ := Oper.apart_spec hap
  have keep : ∀ (a : Act), YieldsC P ops C e oi v a → ∀ u, YieldsC P ops C e oi v (a.put oj.dst u) := fun a hy u =>
    hy.of_same (execOp_put oi hsi a oj.dst u h3) (wanted_put oi a oj.dst u h3)
  have hex := execOp_put oj hsj a oi.dst v h1
  unfold cOp at *
  simp only [hj] at *
  rw [wanted_put oj a oi.dst v h1] at h
  split
  · rename_i hw
    simp only [hw, if_true] at h
    unfold cOper at *
    split
    · rename_i he
      rw [if_pos he] at h
      unfold Oper.wp at *
      rw [hex] at h
      generalize (execOp a.eval oj).run P w = r at *
      have key : ∀ u w', (C w' ∧ (∃ v_1, (a.put oi.dst v).put oj.dst u = (a.put oi.dst v).put oj.dst v_1) ∧ K ((a.put oi.dst v).put oj.dst u) w') →
          C w' ∧ (∃ v_1, a.put oj.dst u = a.put oj.dst v_1) ∧ YieldsC P ops C e oi v (a.put oj.dst u) ∧ K ((a.put oj.dst u).put oi.dst v) w' := by
        rintro u w' ⟨k1, _, k3⟩
        exact ⟨k1, ⟨u, rfl⟩, keep a hy u, by rw [← Act.put_comm a v u h2]; exact k3⟩
      cases r with
      | ok n w' =>
        cases n <;> simp only [Oper.upon] at h ⊢
        case value u => exact key u w' h
        case skip => exact key undef w' h
        case defer d =>
          exfalso
          obtain ⟨_, ⟨u, hu⟩, _⟩ := h
          have := congrArg (fun x : Act => x.defers.length) hu
          have pd : ∀ (x : Act) d y, (x.put d y).defers = x.defers := fun x d y => by cases d <;> rfl
          simp only [pd] at this
          simp at this
        case enter f args =>
          refine Calls.mono h fun e w'' he => ?_
          cases e with
          | returned u => exact key u w'' he
          | panicked c => exact he
          | outgrown => exact he
        case row row args => exact Rows.mono h fun u w'' he => key u w'' he
      | halt x w' => cases x <;> simp only [Oper.upon] at h
    · rename_i he
      rw [if_neg he] at h
      obtain ⟨u, hu, hK⟩ := h
      refine ⟨u, fun w hw => ?_, keep a hy u, by rw [← Act.put_comm a v u h2]; exact hK⟩
      have := hu w hw
      rwa [hex] at this
  · rename_i hw
    simp only [hw] at h
    exact ⟨keep a hy _, by rw [← Act.put_comm a v undef h2]; exact h⟩

/-- a calm operation that may come up now may be taken first -/
theorem wpAnyC_first {Q : Act → World → Prop} {i : Nat} {oi : Oper} {v : Value} (hi : ops[i]? = some oi) (hsel : ∀ (j : Nat) (o : Oper) cs b, ops[j]? = some o → o.op ≠ .select cs b) :
    ∀ (fuel : Nat) (listed : Array Bool) (a : Act) (w : World), C w →
      (∀ j oj, ops[j]? = some oj → j ≠ i → listed.getD j true = false → (∀ e ∈ oj.after, Region.binds md e = true → e.on ≠ i) → oi.apart ops oj = true) →
      i ∈ Region.ready md ops listed → YieldsC P ops C (eff i) oi v a →
      wpAnyC P md ops C eff Q fuel (listed.setIfInBounds i true) (a.put oi.dst v) w → wpAnyC P md ops C eff Q (fuel + 1) listed a w := by
  intro fuel
  induction fuel with
  | zero =>
    intro listed a w hC _ hr hy H
    refine ⟨fun h => (by rw [h] at hr; cases hr), fun j hj => ?_⟩
    by_cases hji : j = i
    · subst hji; exact hy.cOp hi H
    · have := ready_mono hj hji
      rw [H.1] at this
      cases this
  | succ fuel ih =>
    intro listed a w hC hfree hr hy H
    refine ⟨fun h => (by rw [h] at hr; cases hr), fun j hj => ?_⟩
    by_cases hji : j = i
    · subst hji; exact hy.cOp hi H
    · have h1 := H.2 j (ready_mono hj hji)
      obtain ⟨hjun, oj, hoj, hall⟩ := mem_ready.1 hj
      have hnot : ∀ e ∈ oj.after, Region.binds md e = true → e.on ≠ i := fun e he hb heq => by
        have h1 := hall e he hb
        have h0 := (mem_ready.1 hr).1
        rw [heq] at h1
        rcases Nat.lt_or_ge i listed.size with h' | h'
        · simp [h'] at h0 h1; rw [h0] at h1; cases h1
        · simp [Array.getElem?_eq_none h'] at h1
      have h2 := cOp_put hoj (hfree j oj hoj hji hjun hnot) (fun cs b => hsel i oi cs b hi) (fun cs b => hsel j oj cs b hoj) hy h1
      have hfree' : ∀ k ok, ops[k]? = some ok → k ≠ i → (listed.setIfInBounds j true).getD k true = false →
          (∀ e ∈ ok.after, Region.binds md e = true → e.on ≠ i) → oi.apart ops ok = true := fun k ok hk hki hun hno => by
        refine hfree k ok hk hki ?_ hno
        by_cases hjk : j = k
        · subst hjk; exact hjun
        · rw [getD_set_ne true hjk] at hun; exact hun
      refine cOp_mono (fun a' w' hw' h3 => ih (listed.setIfInBounds j true) a' w' hw' hfree' (ready_mono hr (Ne.symm hji)) h3.1 ?_) hC h2
      rw [Array.setIfInBounds_comm _ _ hji]
      exact h3.2

/-! the chain -/
def dependsB (md : Region.Mode) (ops : Array Oper) : Nat → Nat → Nat → Bool
  | 0, _, _ => false
  | f + 1, j, i => ((ops[j]?).map fun o => o.after.any fun e => Region.binds md e && (e.on == i || dependsB md ops f e.on i)).getD false

def Closed (md : Region.Mode) (ops : Array Oper) (listed : Array Bool) : Prop :=
  ∀ j o, listed.getD j false = true → ops[j]? = some o → ∀ e ∈ o.after, Region.binds md e = true → listed.getD e.on false = true

theorem dep_listed {listed : Array Bool} (hc : Closed md ops listed) : ∀ (f j i : Nat), dependsB md ops f j i = true → (j ∈ Region.ready md ops listed ∨ listed.getD j false = true) → listed.getD i false = true
  | 0, _, _, h, _ => by cases h
  | f + 1, j, i, h, hj => by
    unfold dependsB at h
    cases ho : ops[j]? with
    | none => simp [ho] at h
    | some o =>
      simp only [ho, Option.map_some, Option.getD_some, Array.any_eq_true'] at h
      obtain ⟨e, he, hh⟩ := h
      simp only [Bool.and_eq_true, Bool.or_eq_true, beq_iff_eq] at hh
      have hon : listed.getD e.on false = true := by
        rcases hj with hj | hj
        · obtain ⟨_, o', ho', hall⟩ := mem_ready.1 hj
          rw [ho] at ho'; cases ho'
          exact hall e he hh.1
        · exact hc j o hj ho e he hh.1
      rcases hh.2 with e1 | e1
      · rw [← e1]; exact hon
      · exact dep_listed hc f e.on i e1 (Or.inr hon)

theorem closed_set {listed : Array Bool} {j : Nat} (hc : Closed md ops listed) (hj : j ∈ Region.ready md ops listed) : Closed md ops (listed.setIfInBounds j true) := by
  intro k o hk ho e he hb
  by_cases hjk : j = k
  · subst hjk
    obtain ⟨_, o', ho', hall⟩ := mem_ready.1 hj
    rw [ho] at ho'; cases ho'
    exact getD_set_true (hall e he hb)
  · rw [getD_set_ne false hjk] at hk
    exact getD_set_true (hc k o hk ho e he hb)

def chainB (md : Region.Mode) (ops : Array Oper) (es : List Nat) : Bool :=
  es.all fun i => es.all fun j => i == j || (if i < j then dependsB md ops ops.size j i else dependsB md ops ops.size i j)

theorem chain_ready {es : List Nat} (hch : chainB md ops es = true) {listed : Array Bool} (hc : Closed md ops listed) {i j : Nat} (hi : i ∈ es) (hj : j ∈ es) (hri : i ∈ Region.ready md ops listed) (hrj : j ∈ Region.ready md ops listed) : i = j := by
  unfold chainB at hch
  have h := List.all_eq_true.1 (List.all_eq_true.1 hch i hi) j hj
  simp only [Bool.or_eq_true, beq_iff_eq] at h
  rcases h with h | h
  · exact h
  · exfalso
    have notl : ∀ k, k ∈ Region.ready md ops listed → listed.getD k false = true → False := fun k hk hl => by
      have h0 := (mem_ready.1 hk).1
      rcases Nat.lt_or_ge k listed.size with h' | h'
      · simp [h'] at h0 hl; rw [h0] at hl; cases hl
      · simp [Array.getElem?_eq_none h'] at hl
    split at h
    · exact notl i hri (dep_listed hc _ _ _ h (Or.inl hrj))
    · exact notl j hrj (dep_listed hc _ _ _ h (Or.inl hri))

/-- an operation of the chain that may come up now may be taken first -/
theorem wpAnyC_eff {Q : Act → World → Prop} {i : Nat} {oi : Oper} (es : List Nat) (hes : ∀ k, eff k = true → k ∈ es) (hch : chainB md ops es = true) (hei : eff i = true) (hi : ops[i]? = some oi) (hsel : ∀ (j : Nat) (o : Oper) cs b, ops[j]? = some o → o.op ≠ .select cs b) :
    ∀ (fuel : Nat) (listed : Array Bool) (a : Act) (w : World), C w → Closed md ops listed → Region.wanted oi (yielded ops a.tmps) = true →
      (∀ j oj, ops[j]? = some oj → j ≠ i → listed.getD j true = false → (∀ e ∈ oj.after, Region.binds md e = true → e.on ≠ i) → oi.apart ops oj = true) →
      i ∈ Region.ready md ops listed →
      oi.wp P a w (fun a' w' => C w' ∧ (∃ v, a' = a.put oi.dst v) ∧ wpAnyC P md ops C eff Q fuel (listed.setIfInBounds i true) a' w') (fun _ _ _ => False) → wpAnyC P md ops C eff Q (fuel + 1) listed a w := by
  intro fuel
  have self : ∀ (fuel : Nat) (listed : Array Bool) (a : Act) (w : World), Region.wanted oi (yielded ops a.tmps) = true →
      oi.wp P a w (fun a' w' => C w' ∧ (∃ v, a' = a.put oi.dst v) ∧ wpAnyC P md ops C eff Q fuel (listed.setIfInBounds i true) a' w') (fun _ _ _ => False) →
      cOp P ops C eff i (wpAnyC P md ops C eff Q fuel (listed.setIfInBounds i true)) a w := by
    intro fuel listed a w hw H
    unfold cOp
    simp only [hi, hw, if_true]
    unfold cOper
    rw [if_pos hei]
    exact H
  induction fuel with
  | zero =>
    intro listed a w hC hc hwn _ hr H
    refine ⟨fun h => (by rw [h] at hr; cases hr), fun j hj => ?_⟩
    by_cases hji : j = i
    · subst hji; exact self _ _ _ _ hwn H
    · obtain ⟨a', w', _, _, h⟩ := Oper_wp_some H
      have := ready_mono hj hji
      rw [h.1] at this
      cases this
  | succ fuel ih =>
    intro listed a w hC hc hwn hfree hr H
    refine ⟨fun h => (by rw [h] at hr; cases hr), fun j hj => ?_⟩
    by_cases hji : j = i
    · subst hji; exact self _ _ _ _ hwn H
    · obtain ⟨hjun, oj, hoj, hall⟩ := mem_ready.1 hj
      have hej : eff j = false := by
        cases h : eff j with
        | false => rfl
        | true => exact absurd (chain_ready hch hc (hes j h) (hes i hei) hj hr) hji
      have hnot : ∀ e ∈ oj.after, Region.binds md e = true → e.on ≠ i := fun e he hb heq => by
        have h1 := hall e he hb
        have h0 := (mem_ready.1 hr).1
        rw [heq] at h1
        rcases Nat.lt_or_ge i listed.size with h' | h'
        · simp [h'] at h0 h1; rw [h0] at h1; cases h1
        · simp [Array.getElem?_eq_none h'] at h1
      obtain ⟨h1, h2, h3⟩ := Oper.apart_spec (hfree j oj hoj hji hjun hnot)
      have hsj : ∀ cs b, oj.op ≠ .select cs b := fun cs b => hsel j oj cs b hoj
      have hsi : ∀ cs b, oi.op ≠ .select cs b := fun cs b => hsel i oi cs b hi
      -- what j yields: out of one outcome of i
      have hout : ∃ v, YieldsC P ops C (eff j) oj v a := by
        obtain ⟨a', w', hC', ⟨u, rfl⟩, h⟩ := Oper_wp_some H
        have hcj := h.2 j (ready_mono hj hji)
        unfold cOp at hcj
        simp only [hoj] at hcj
        split at hcj
        · rename_i hw
          unfold cOper at hcj
          rw [hej] at hcj
          obtain ⟨v, hv, _⟩ := hcj
          refine ⟨v, Or.inl ⟨hej, by rw [← wanted_put oj a oi.dst u h1]; exact hw, fun w hw => ?_⟩⟩
          have := hv w hw
          rwa [execOp_put oj hsj a oi.dst u h1] at this
        · rename_i hw
          exact ⟨undef, Or.inr ⟨by rw [← wanted_put oj a oi.dst u h1]; simpa using hw, rfl⟩⟩
      obtain ⟨v, hy⟩ := hout
      refine YieldsC.cOp hoj hy ?_
      have hfree' : ∀ k ok, ops[k]? = some ok → k ≠ i → (listed.setIfInBounds j true).getD k true = false →
          (∀ e ∈ ok.after, Region.binds md e = true → e.on ≠ i) → oi.apart ops ok = true := fun k ok hk hki hun hno => by
        refine hfree k ok hk hki ?_ hno
        by_cases hjk : j = k
        · subst hjk; exact hjun
        · rw [getD_set_ne true hjk] at hun; exact hun
      refine ih (listed.setIfInBounds j true) (a.put oj.dst v) w hC (closed_set hc hj) (by rw [wanted_put oi a oj.dst v h3]; exact hwn) hfree' (ready_mono hr (Ne.symm hji)) ?_
      have hex := execOp_put oi hsi a oj.dst v h3
      unfold Oper.wp at *
      rw [hex]
      have key : ∀ u w', (C w' ∧ (∃ v_1, a.put oi.dst u = a.put oi.dst v_1) ∧ wpAnyC P md ops C eff Q (fuel + 1) (listed.setIfInBounds i true) (a.put oi.dst u) w') →
          C w' ∧ (∃ v_1, (a.put oj.dst v).put oi.dst u = (a.put oj.dst v).put oi.dst v_1) ∧ wpAnyC P md ops C eff Q fuel ((listed.setIfInBounds j true).setIfInBounds i true) ((a.put oj.dst v).put oi.dst u) w' := by
        rintro u w' ⟨k1, _, k3⟩
        refine ⟨k1, ⟨u, rfl⟩, ?_⟩
        have hcj := k3.2 j (ready_mono hj hji)
        rw [Array.setIfInBounds_comm _ _ hji, ← Act.put_comm a u v h2]
        unfold cOp at hcj
        simp only [hoj] at hcj
        rw [wanted_put oj a oi.dst u h1] at hcj
        rcases hy with ⟨_, hwj, hv⟩ | ⟨hwj, rfl⟩
        · rw [if_pos hwj] at hcj
          unfold cOper at hcj
          rw [hej] at hcj
          obtain ⟨v2, hv2, hK⟩ := hcj
          have e1 := hv w' k1
          have e2 := hv2 w' k1
          rw [execOp_put oj hsj a oi.dst u h1] at e2
          have : v2 = v := by
            rcases e1 with e1 | ⟨e1, f1⟩ <;> rcases e2 with e2 | ⟨e2, f2⟩ <;> rw [e1] at e2 <;> first | (cases e2; done) | (cases e2; rfl) | (rw [f1, f2])
          rw [← this]
          exact hK
        · rw [if_neg (by rw [hwj]; simp)] at hcj
          exact hcj
      generalize (execOp a.eval oi).run P w = r at *
      cases r with
      | ok n w' =>
        cases n <;> simp only [Oper.upon] at H ⊢
        case value u => exact key u w' H
        case skip => exact key undef w' H
        case defer d =>
          exfalso
          obtain ⟨_, ⟨u, hu⟩, _⟩ := H
          have := congrArg (fun x : Act => x.defers.length) hu
          have pd : ∀ (x : Act) d y, (x.put d y).defers = x.defers := fun x d y => by cases d <;> rfl
          simp only [pd] at this
          simp at this
        case enter f args =>
          refine Calls.mono H fun e w'' he => ?_
          cases e with
          | returned u => exact key u w'' he
          | panicked c => exact he
          | outgrown => exact he
        case row row args => exact Rows.mono H fun u w'' he => key u w'' he
      | halt x w' => cases x <;> simp only [Oper.upon] at H

theorem wpAnyC_lex {Q : Act → World → Prop} (es : List Nat) (hes : ∀ k, eff k = true → k ∈ es) (hch : chainB md ops es = true) (hs : Region.noSelect ops = true) : ∀ (l : List Oper) (k : Nat) (listed : Array Bool) (a : Act) (w : World), C w → Closed md ops listed → (∀ j, l[j]? = ops[k + j]?) →
    Region.lexFrom md ops l.length k listed = true → wpC P ops C eff Q l k a w → wpAnyC P md ops C eff Q l.length listed a w
  | [], _, _, _, _, _, _, _, hB, h => ⟨by simpa [Region.lexFrom] using hB, h⟩
  | o :: l, k, listed, a, w, hC, hc, hl, hB, h => by
    have h0 : ops[k]? = some o := by simpa using (hl 0).symm
    simp only [List.length_cons, Region.lexFrom, Bool.and_eq_true] at hB
    obtain ⟨⟨hr, hf⟩, hB'⟩ := hB
    have hr' : k ∈ Region.ready md ops listed := by simpa using hr
    have next : ∀ a w, C w → wpC P ops C eff Q l (k + 1) a w → wpAnyC P md ops C eff Q l.length (listed.setIfInBounds k true) a w := fun a w hC h =>
      wpAnyC_lex es hes hch hs l (k + 1) _ a w hC (closed_set hc hr') (fun j => by have := hl (j + 1); simpa [Nat.add_assoc, Nat.add_comm 1 j] using this) hB' h
    simp only [wpC] at h
    split at h
    · rename_i hw
      unfold cOper at h
      split at h
      · rename_i he
        refine wpAnyC_eff es hes hch he h0 (Region.noSelect_spec hs) l.length listed a w hC hc hw (Region.free_spec h0 hf) hr' ?_
        exact Oper_wp_mono (fun a' w' ⟨h1, h2, h3⟩ => ⟨h1, h2, next a' w' h1 h3⟩) h
      · rename_i he
        obtain ⟨v, hv, hK⟩ := h
        exact wpAnyC_first h0 (Region.noSelect_spec hs) l.length listed a w hC (Region.free_spec h0 hf) hr' (Or.inl ⟨by simpa using he, hw, hv⟩) (next _ _ hC hK)
    · rename_i hw
      have hw' : Region.wanted o (yielded ops a.tmps) = false := by simpa using hw
      exact wpAnyC_first h0 (Region.noSelect_spec hs) (v := undef) l.length listed a w hC (Region.free_spec h0 hf) hr' (Or.inr ⟨hw', rfl⟩) (next _ _ hC h)

/-- ONE WALK IN THE ORDER OF THE TEXT: es: the places of those that are not calm -/
theorem wp_region_chain {id : Nat} {Q : Exit → Act → World → Prop} {a : Act} {w : World} {l : List Oper} (es : List Nat) (C : World → Prop) (hm : P.follows .mixedOrders = true)
    (hB : (Region.lexB .any l.toArray && chainB .any l.toArray es) = true) (hC : C w.drew)
    (h : wpC P l.toArray C (fun i => es.contains i) (fun a' w' => Q .normal a' w') l 0 a w.drew) : (Code.region id l.toArray true).wp P Q a w := by
  simp only [Bool.and_eq_true, Region.lexB] at hB
  refine wp_region_any hm (wpAny_of_C (C := C) (eff := fun i => es.contains i) (Q := fun a' w' => Q .normal a' w') (fun _ w' _ h => h) _ _ _ _ hC ?_)
  have := wpAnyC_lex (C := C) (eff := fun i => es.contains i) (md := .any) es (fun k hk => by simpa using hk) hB.2 hB.1.1 l 0 (Array.replicate l.toArray.size false) a w.drew hC
    (fun j o hj => by exfalso; simp [Array.getElem?_replicate] at hj; split at hj <;> simp at hj) (by simp) (by simpa using hB.1.2) h
  simpa using this

section steps
variable {Q : Act → World → Prop} {o : Oper} {rest : List Oper} {k : Nat} {a : Act} {w : World}

theorem wpC_nil (h : Q a w) : wpC P ops C eff Q [] k a w := h

theorem wpC_calm (hw : Region.wanted o (yielded ops a.tmps) = true) (he : eff k = false) (v : Value) (h : ∀ w, C w → (execOp a.eval o).run P w = .ok (.value v) w) (hk : wpC P ops C eff Q rest (k + 1) (a.put o.dst v) w) : wpC P ops C eff Q (o :: rest) k a w := by
  simp only [wpC, hw, if_true]
  unfold cOper
  rw [he]
  exact ⟨v, fun w hw => Or.inl (h w hw), hk⟩

/-- where nothing is yielded (a nil check) -/
theorem wpC_calm0 (hw : Region.wanted o (yielded ops a.tmps) = true) (he : eff k = false) (h : ∀ w, C w → (execOp a.eval o).run P w = .ok .skip w) (hk : wpC P ops C eff Q rest (k + 1) (a.put o.dst undef) w) : wpC P ops C eff Q (o :: rest) k a w := by
  simp only [wpC, hw, if_true]
  unfold cOper
  rw [he]
  exact ⟨undef, fun w hw => Or.inr ⟨h w hw, rfl⟩, hk⟩

theorem wpC_move (hw : Region.wanted o (yielded ops a.tmps) = true) (he : eff k = false) (x : Operand) (hx : o.op = .move x) (hk : wpC P ops C eff Q rest (k + 1) (a.put o.dst (a.eval x)) w) : wpC P ops C eff Q (o :: rest) k a w :=
  wpC_calm hw he (a.eval x) (fun w _ => by unfold execOp; rw [hx]; rfl) hk
theorem wpC_assign (hw : Region.wanted o (yielded ops a.tmps) = true) (he : eff k = false) (x : Operand) (hx : o.op = .assign x) (hk : wpC P ops C eff Q rest (k + 1) (a.put o.dst (a.eval x)) w) : wpC P ops C eff Q (o :: rest) k a w :=
  wpC_calm hw he (a.eval x) (fun w _ => by unfold execOp; rw [hx]; rfl) hk

theorem wpC_pass (hw : Region.wanted o (yielded ops a.tmps) = false) (hk : wpC P ops C eff Q rest (k + 1) (a.put o.dst undef) w) : wpC P ops C eff Q (o :: rest) k a w := by
  simp only [wpC, hw, Bool.false_eq_true, if_false]
  exact hk

/-! steps by the walk's own tactics -/
/-- operations that yield a value, or end -/
def plainB : Op → Bool
  | .move _ | .assign _ | .pick .. | .load .. | .binOp .. | .unOp .. | .convert .. | .makeInterface .. | .makeFunc .. | .slice .. | .fieldAddr .. | .field .. | .indexAddr .. | .index .. | .lookup .. | .extract .. => true
  | .call { callee := .builtin .len, .. } | .call { callee := .builtin .cap, .. } | .call { callee := .builtin .min, .. } | .call { callee := .builtin .max, .. } => true
  | _ => false

theorem plain_form (ρ : Operand → Value) (o : Oper) (h : plainB o.op = true) : ∃ s : Sem Value, execOp ρ o = (do pure (.value (← s))) := by
  obtain ⟨dst, op, type, pos, after, guard⟩ := o
  cases op <;> simp only [plainB] at h <;> first | (cases h; done) | skip
  case move x => exact ⟨pure (ρ x), rfl⟩
  case assign x => exact ⟨pure (ρ x), rfl⟩
  case pick c a b =>
    refine ⟨do pure (if ← asBool (ρ c) then ρ a else ρ b), ?_⟩
    simp only [execOp, bind_assoc, pure_bind]
  case call c =>
    obtain ⟨callee, args, ats⟩ := c
    cases callee with
    | builtin b => cases b <;> simp only [] at h <;> first | (cases h; done) | exact ⟨_, rfl⟩
    | _ => simp only [] at h; cases h
  all_goals exact ⟨_, rfl⟩

theorem upon_form {s : Sem Value} {K : Act → World → Prop} (h : o.upon P a K (fun _ _ _ => False) ((do pure (.value (← s)) : Sem Next).run P w)) : ∃ u w', (do pure (.value (← s)) : Sem Next).run P w = .ok (.value u) w' ∧ K (a.put o.dst u) w' := by
  rw [Sem.run_bind] at h ⊢
  generalize s.run P w = r at *
  cases r with
  | ok x w' =>
    simp only [Result.andThen_ok, Sem.run_pure, Oper.upon] at h ⊢
    exact ⟨x, w', rfl, h⟩
  | halt x w' =>
    exfalso
    cases x <;> exact h

theorem wpC_step (hw : Region.wanted o (yielded ops a.tmps) = true) (he : eff k = false) (hp : plainB o.op = true) (hd : (match o.dst with | some d => Nat.blt d a.tmps.size | none => false) = true) (hC : C w)
    (h : ∃ a', (∀ w', C w' → ∀ K : Act → World → Prop, K a' w' → o.wp P a w' K (fun _ _ _ => False)) ∧ wpC P ops C eff Q rest (k + 1) a' w) : wpC P ops C eff Q (o :: rest) k a w := by
  obtain ⟨a', h1, h2⟩ := h
  obtain ⟨s, hs⟩ := plain_form a.eval o hp
  have one : ∀ w', C w' → ∃ u, (execOp a.eval o).run P w' = .ok (.value u) w' ∧ a.put o.dst u = a' := fun w' hw' => by
    have := h1 w' hw' (fun x y => x = a' ∧ y = w') ⟨rfl, rfl⟩
    unfold Oper.wp at this
    rw [hs] at this ⊢
    obtain ⟨u, w1, e1, e2, rfl⟩ := upon_form this
    exact ⟨u, e1, e2⟩
  obtain ⟨u, e1, e2⟩ := one w hC
  refine wpC_calm hw he u (fun w' hw' => ?_) (by rw [e2]; exact h2)
  obtain ⟨u2, f1, f2⟩ := one w' hw'
  have : u2 = u := by
    rw [← e2] at f2
    cases hdst : o.dst with
    | none => simp [hdst] at hd
    | some d =>
      simp only [hdst, Act.put, Act.mk.injEq, and_true] at f2
      simp only [hdst] at hd
      have hd' : d < a.tmps.size := by simpa using hd
      have := congrArg (fun x : Array Value => x[d]?) f2
      simpa [hd'] using this
  rw [← this]; exact f1

theorem wpC_nil_check (hw : Region.wanted o (yielded ops a.tmps) = true) (he : eff k = false) (x : Operand) (ho : o.op = .nilCheck x) (ad : Addr) (hx : a.eval x = .pointer (some ad))
    (h : ∀ a', a' = a.put o.dst (.pointer (some ad)) → wpC P ops C eff Q rest (k + 1) a' w) : wpC P ops C eff Q (o :: rest) k a w :=
  wpC_calm hw he (.pointer (some ad)) (fun w _ => by unfold execOp; simp only [ho, hx]; rfl) (h _ rfl)

theorem wpC_slice (hw : Region.wanted o (yielded ops a.tmps) = true) (he : eff k = false) (t : TypeId) (x : Operand) (lo hi : Option Operand) (ho : o.op = .slice t x lo hi none)
    {e s bytes : Nat} (hE : ElemT P t e s bytes) {v : Value} {n : Nat} (hx : a.eval x = v) (hv : ∃ a cap, v = .slice a n cap ∧ n ≤ cap) (l h : Nat)
    (hlo : (lo.map a.eval = none ∧ l = 0) ∨ lo.map a.eval = some (.int .i64 l)) (hhi : (hi.map a.eval = none ∧ h = n) ∨ hi.map a.eval = some (.int .i64 h)) (h1 : l ≤ h) (h2 : h ≤ n)
    (hk : ∀ v', (∀ B (w : World) xs, rd B w s v n xs → rd B w s v' (h - l) ((xs.drop (l * s)).take ((h - l) * s))) → (0 < h - l → v'.ownBlock = v.ownBlock) → wpC P ops C eff Q rest (k + 1) (a.put o.dst v') w) : wpC P ops C eff Q (o :: rest) k a w := by
  obtain ⟨v', hr, h3, h4⟩ := run_slice_all (P := P) hE hv (lo.map a.eval) (hi.map a.eval) l h hlo hhi h1 h2
  refine wpC_calm hw he v' (fun w _ => ?_) (hk v' h3 h4)
  unfold execOp
  simp only [ho, Option.map_none, Sem.run_bind, hx, hr, Result.andThen_ok]
  rfl

theorem wpC_convert (hw : Region.wanted o (yielded ops a.tmps) = true) (he : eff k = false) (s d : TypeId) (x : Operand) (ho : o.op = .convert s d x) {u : Value} (hx : a.eval x = u) (v : Value) (hr : ∀ w, C w → (convert s d u).run P w = .ok v w)
    (hk : wpC P ops C eff Q rest (k + 1) (a.put o.dst v) w) : wpC P ops C eff Q (o :: rest) k a w := by
  refine wpC_calm hw he v (fun w hw => ?_) hk
  unfold execOp
  simp only [ho, Sem.run_bind, hx, hr w hw, Result.andThen_ok]
  rfl

/-- an operation of the chain -/
theorem wpC_eff (hw : Region.wanted o (yielded ops a.tmps) = true) (he : eff k = true)
    (h : ∀ K : Act → World → Prop, (∀ a' w', (∃ v, a' = a.put o.dst v) → C w' → wpC P ops C eff Q rest (k + 1) a' w' → K a' w') → o.wp P a w K (fun _ _ _ => False)) : wpC P ops C eff Q (o :: rest) k a w := by
  simp only [wpC, hw, if_true]
  unfold cOper
  rw [he]
  exact h _ fun a' w' h0 h1 h2 => ⟨h1, h0, h2⟩

/-- the frame, written out anew -/
theorem wpC_frame {l : List Oper} {a a' : Act} (ha : a = a') (h : wpC P ops C eff Q l k a' w) : wpC P ops C eff Q l k a w := ha ▸ h
end steps

end
end Go.Proofs.Ytegkjnibkilbpaa
