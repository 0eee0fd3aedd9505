/-
  Texts put together: B10, B11, B12, B13, B14, B15, B16. No condition.
-/
import Derived.Test.YtaldgcnhmnfocaaDoorM3
import Derived.Deep.LoopGhost
/-
  The abstract machine: a code told of frames and worlds, where a state may be weakened between statements, and ways may join. No condition.
-/
namespace Go.Proofs.YtaldgcnhmnfocaaDoor
open Go.RowKit

section
variable {P : Program} {tab : Tab} {esc : Nat → Bool} {N : Nat} {a b c : Code} {Q : Exit → St → Prop} {s t : St}
/-- a code, from every frame and world that fit a state -/
def sem (P : Program) (N : Nat) (c : Code) (Q : Exit → St → Prop) (s : St) : Prop := slotsOk N c = true → ∀ (B : Base) (a : Act) (w : World), Conc B N s a w → c.wp P (QC B N Q) a w
theorem sem_of (hP : TabOk P tab) (hm : P.follows .mixedOrders = true) (h : awp P tab esc N c Q s) : sem P N c Q s := fun hs _ a w hc => awp_wp hP hm c Q s a w hs h hc
theorem sem_le (t : St) (h : St.le s t) (k : sem P N c Q t) : sem P N c Q s := fun hs B a w hc => k hs B a w (hc.le h)
theorem sem_seq (hP : TabOk P tab) (hm : P.follows .mixedOrders = true) (h : awp P tab esc N a (fun x s' => match x with
    | .normal => sem P N b Q s'
    | x => Q x s') s) : sem P N (.seq a b) Q s := fun hs B ac w hc => by
  simp only [slotsOk, Bool.and_eq_true] at hs
  refine wp_seq (wp_mono (awp_wp hP hm a _ s ac w hs.1 h hc) ?_)
  rintro e a' w' ⟨s', h1, h2⟩
  cases e with
  | normal => exact h2 hs.2 B a' w' h1
  | _ => exact ⟨s', h1, h2⟩
/-- ways that join: behind a the state fits one of these -/
theorem sem_join (hP : TabOk P tab) (hm : P.follows .mixedOrders = true) {X : Type} (st : X → St) (I : X → Prop) (h : awp P tab esc N a (fun x s' => match x with
    | .normal => ∃ y, I y ∧ St.le s' (st y)
    | x => Q x s') s) (k : ∀ y, I y → sem P N b Q (st y)) : sem P N (.seq a b) Q s := fun hs B ac w hc => by
  simp only [slotsOk, Bool.and_eq_true] at hs
  refine wp_seq (wp_mono (awp_wp hP hm a _ s ac w hs.1 h hc) ?_)
  rintro e a' w' ⟨s', h1, h2⟩
  cases e with
  | normal =>
    obtain ⟨y, k1, k2⟩ := h2
    exact k y k1 hs.2 B a' w' (h1.le k2)
  | _ => exact ⟨s', h1, h2⟩

theorem con_of_sem {f : FuncId} {fn : Func} {c : Code} (hP : TabOk P tab) (hf : P.funcs[f]? = some fn) (hb : fn.body = some c) (he : ∀ args w, (callFunc f args).run P w = .ok (.enter f args) w) {args : List AV} {H : Heap} {Q : AV → Heap → Prop}
    (hs : (slotsOk fn.ntmps c && Nat.ble args.length fn.ntmps) = true) (h : (∀ x ∈ args, Wf x) → H.keys.Nodup → sem P fn.ntmps c (aEnd tab fn Q) ⟨initEnv 0 args, [], H⟩) : Con P f args H Q :=
  con_of_conc hP hf hb he hs fun h1 h2 B a w hc => h h1 h2 (by rw [Bool.and_eq_true] at hs; exact hs.1) B a w hc
end
end Go.Proofs.YtaldgcnhmnfocaaDoor

/-
  The abstract machine: memory that turned, and turns no more. No condition.
-/
namespace Go.Proofs.YtaldgcnhmnfocaaDoor
open Go.RowKit

/-- a slice of memory that may turn -/
def hs (b n cap : Nat) : AV := .v (.slice (some ⟨b, 0, none⟩) n cap)
/-- in a memory: what stands for x stands for y -/
def LeM (M : Mem) (x y : AV) : Prop := ∀ u, rep M x u → rep M y u
def LeLM (M : Mem) : List AV → List AV → Prop
  | [], [] => True
  | x :: xs, y :: ys => LeM M x y ∧ LeLM M xs ys
  | _, _ => False
theorem Le.m {x y : AV} (h : Le x y) (M : Mem) : LeM M x y := h M
theorem LeM.refl {M : Mem} (x : AV) : LeM M x x := fun _ h => h
theorem LeLM.refl {M : Mem} : ∀ xs : List AV, LeLM M xs xs
  | [] => trivial
  | x :: xs => ⟨LeM.refl x, LeLM.refl xs⟩
theorem LeM.trans {M : Mem} {x y z : AV} (h : LeM M x y) (k : LeM M y z) : LeM M x z := fun u hu => k u (h u hu)
theorem LeLM.repC {M : Mem} : ∀ {xs ys : List AV} {cs : List Value}, LeLM M xs ys → Go.Proofs.YtaldgcnhmnfocaaDoor.repC M xs cs → Go.Proofs.YtaldgcnhmnfocaaDoor.repC M ys cs
  | [], [], _, _, h => h
  | x :: xs, y :: ys, cs, hl, h => by
    simp only [Proofs.YtaldgcnhmnfocaaDoor.repC] at h ⊢
    obtain ⟨c, cs', e, ⟨h1, h2⟩, h3⟩ := h
    exact ⟨c, cs', e, ⟨h1, hl.1 _ h2⟩, LeLM.repC hl.2 h3⟩
  | [], _ :: _, _, hl, _ => hl.elim
  | _ :: _, [], _, hl, _ => hl.elim
theorem LeLM.repT {M : Mem} : ∀ {xs ys : List AV} {cs : List Value}, LeLM M xs ys → Go.Proofs.YtaldgcnhmnfocaaDoor.repT M xs cs → Go.Proofs.YtaldgcnhmnfocaaDoor.repT M ys cs
  | [], [], _, _, h => h
  | x :: xs, y :: ys, cs, hl, h => by
    simp only [Proofs.YtaldgcnhmnfocaaDoor.repT] at h ⊢
    obtain ⟨c, cs', e, h2, h3⟩ := h
    exact ⟨c, cs', e, hl.1 _ h2, LeLM.repT hl.2 h3⟩
  | [], _ :: _, _, hl, _ => hl.elim
  | _ :: _, [], _, hl, _ => hl.elim
theorem LeM.agg {M : Mem} {xs ys : List AV} (h : LeLM M xs ys) : LeM M (.agg xs) (.agg ys) := fun u hu => by
  simp only [rep] at hu ⊢
  obtain ⟨cs, e, hc⟩ := hu
  exact ⟨cs, e, h.repC hc⟩
theorem LeM.tup {M : Mem} {xs ys : List AV} (h : LeLM M xs ys) : LeM M (.tup xs) (.tup ys) := fun u hu => by
  simp only [rep] at hu ⊢
  obtain ⟨cs, e, hc⟩ := hu
  exact ⟨cs, e, h.repT hc⟩
/-- a slice of cells that stand for ever -/
theorem hs_ice {M : Mem} {b n cap size : Nat} {xs rest : List AV} (h : atL M (xs.flatMap AV.cells ++ rest) b 0) (hn : n = xs.length) (h1 : n ≤ cap) (h2 : cap ≤ maxLen) (hw : wide size xs) : LeM M (hs b n cap) (.sl .no size xs) := fun u hu => by
  subst hn
  have hu' : u = .slice (some ⟨b, 0, none⟩) xs.length cap := by
    unfold hs at hu
    simp only [rep] at hu
    exact hu.1
  simp only [rep]
  exact ⟨_, cap, hu', h1, h2, (fun h => by cases h), hw, trivial, fun _ => ⟨b, 0, rfl, atE.flat.2 (atE.flat.atL.append.1 h).1⟩⟩

/-- an object turns no more -/
theorem inv_ice {M : Mem} {H H0 : Heap} {w : World} (h : Inv M H w) {b : Nat} {cs : List AV} (hrem : Heap.Rem (b, .cells cs) H H0) : ∃ M', Evo H.keys M w M' w ∧ Inv M' H0 w ∧ atL M' cs b 0 := by
  have hp := hrem.perm
  have hI := h.perm hp
  obtain ⟨hnone, vs, T0, hg, hrep⟩ := hI.obj b (.cells cs) (by simp)
  have hnd := hI.nodup
  simp only [Heap.keys, List.map_cons, List.nodup_cons] at hnd
  have hin : b ∈ H.keys := (hp.map (·.1)).mem_iff.2 (by simp)
  have hM : M.le (M.add b vs) := fun b' o v hv => by
    unfold Mem.add
    rw [if_neg]
    · exact hv
    · rintro rfl; rw [hnone o] at hv; cases hv
  have e : Evo [b] M w (M.add b vs) w := ⟨rfl, rfl, rfl, Nat.le_refl _, fun _ _ _ => rfl, hM, fun b' o v hv => by
    unfold Mem.add at hv
    split at hv
    · rename_i hb; subst hb; exact Or.inr (Or.inl (by simp))
    · exact Or.inl hv⟩
  refine ⟨M.add b vs, e.mono (by simpa using hin), ⟨fun b' o v hv => ?_, fun b' x hx => ?_, hnd.2⟩, ?_⟩
  · unfold Mem.add at hv
    split at hv
    · rename_i hb
      subst hb
      simp only [World.cell?, hg]
      simpa using hv
    · exact h.mem b' o v hv
  · have hne : b' ≠ b := by
      rintro rfl
      exact hnd.1 (Heap.mem_keys hx)
    exact (h.obj b' x (hp.mem_iff.2 (List.mem_cons_of_mem _ hx))).keep e (by simpa using hne)
  · refine atL.of_vals (repC.mono hM _ _ hrep) fun j c hj => ?_
    unfold Mem.add
    rw [if_pos rfl, Nat.zero_add]
    exact hj
/-- what a call answers is kept for good -/
theorem Con.ice {P : Program} {f : FuncId} {args : List AV} {H : Heap} {Q : AV → Heap → Prop} (h : Con P f args H fun r H' => ∃ b cs H0 r', Heap.Rem (b, .cells cs) H' H0 ∧ (∀ M, atL M cs b 0 → LeM M r r') ∧ Q r' H0) : Con P f args H Q :=
  fun M w vs h0 h1 h2 => (h M w vs h0 h1 h2).mono fun v w' ⟨M', r, H', a, b, c, d, b0, cs, H0, r', e1, e2, e3⟩ => by
    obtain ⟨M2, g1, g2, g3⟩ := inv_ice b e1
    refine ⟨M2, r', H0, ?_, g2, fun k hk => c k ?_, e2 M2 g3 v (rep.mono g1.sub _ _ d), e3⟩
    · refine (a.trans g1 fun k hk => ?_)
      exact c k hk
    · exact ((e1.perm.map (·.1)).mem_iff.2 (List.mem_cons_of_mem _ hk))

/-! a state where an object turns no more -/
def T.leM (M : Mem) : T → T → Prop
  | _, .junk => True
  | .g x, .g y => LeM M x y
  | .lp k o, .lp k' o' => k = k' ∧ o = o'
  | .undef, .undef => True
  | _, _ => False
def Env.leM (M : Mem) (e : Env) : Env → Prop
  | [] => True
  | (k, t) :: r => T.leM M (e.get k) t ∧ Env.leM M e r
def Loc.wM (M : Mem) : Loc → Loc → Prop
  | [], [] => True
  | (k, xs) :: r, (k', ys) :: r' => (k = k' ∧ LeLM M xs ys) ∧ Loc.wM M r r'
  | _, _ => False
structure St.leM (M : Mem) (s t : St) : Prop where
  e : Env.leM M s.e t.e
  L : Loc.wM M (s.L.drop (s.L.length - t.L.length)) t.L
  H : t.H.Sublist s.H
theorem T.leM.rep {M : Mem} {lm : Nat → Nat} {t t' : T} {u : Value} (h : T.leM M t t') (ht : repX M lm t u) : repX M lm t' u := by
  cases t' with
  | junk => trivial
  | g y =>
    cases t with
    | g x => exact h u ht
    | _ => exact h.elim
  | lp k o =>
    cases t with
    | lp k' o' => obtain ⟨rfl, rfl⟩ := h; exact ht
    | _ => exact h.elim
  | undef =>
    cases t with
    | undef => exact ht
    | _ => exact h.elim
theorem Env.leM.get {M : Mem} {e : Env} : ∀ {e' : Env}, Env.leM M e e' → ∀ i, T.leM M (e.get i) (e'.get i)
  | [], _, i => by cases e.get i <;> trivial
  | (k, t) :: r, h, i => by
    show T.leM M (e.get i) (bif Nat.beq k i then t else Env.get r i)
    cases hb : Nat.beq k i with
    | true => rw [← beq_true hb]; exact h.1
    | false => exact Env.leM.get h.2 i
theorem Loc.wM.objs {lm : Nat → Nat} {M : Mem} {w : World} : ∀ {L L' : Loc}, Loc.wM M L L' → (lheap lm L').keys = (lheap lm L).keys ∧ ((∀ b x, (b, x) ∈ lheap lm L → objOk M w b x) → ∀ b x, (b, x) ∈ lheap lm L' → objOk M w b x)
  | [], [], _ => ⟨rfl, fun h => h⟩
  | (k, xs) :: r, (k', ys) :: r', h => by
    obtain ⟨⟨rfl, hl⟩, h⟩ := h
    obtain ⟨h1, h2⟩ := Loc.wM.objs (lm := lm) (M := M) (w := w) h
    refine ⟨?_, fun ho b x hx => ?_⟩
    · show lm k :: (lheap lm r').keys = lm k :: (lheap lm r).keys
      rw [h1]
    · rcases List.mem_cons.1 hx with hx | hx
      · cases hx
        obtain ⟨g1, cs, T0, g2, g3⟩ := ho (lm k) (.cells xs) (by simp [lheap])
        exact ⟨g1, cs, T0, g2, hl.repC g3⟩
      · exact h2 (fun b x hb => ho b x (List.mem_cons_of_mem _ hb)) b x hx
  | [], _ :: _, h => h.elim
  | _ :: _, [], h => h.elim
theorem Rem.after {p : Nat × AObj} {H H0 : Heap} (h : Heap.Rem p H H0) : ∀ R : Heap, Heap.Rem p (R ++ H) (R ++ H0)
  | [] => h
  | _ :: R => .there (Rem.after h R)
theorem Conc.ice {B : Base} {N : Nat} {s t : St} {a : Act} {w : World} {b : Nat} {cs : List AV} {H0 : Heap} (hrem : Heap.Rem (b, .cells cs) s.H H0) (h : ∀ M, atL M cs b 0 → St.leM M ⟨s.e, s.L, H0⟩ t) (hc : Conc B N s a w) : Conc B N t a w := by
  obtain ⟨M, lm, hc⟩ := hc
  obtain ⟨M2, g1, g2, g3⟩ := inv_ice hc.inv (Rem.after hrem (lheap lm s.L))
  have h := h M2 g3
  have hsub : (lheap lm (s.L.drop (s.L.length - t.L.length)) ++ t.H).Sublist (lheap lm s.L ++ H0) := by
    rw [lheap_drop]
    exact (List.drop_sublist _ _).append h.H
  have hi := g2.sub hsub
  obtain ⟨k1, k2⟩ := Loc.wM.objs (lm := lm) (M := M2) (w := w) h.L
  have hkeys : Heap.keys (lheap lm t.L ++ t.H) = Heap.keys (lheap lm (s.L.drop (s.L.length - t.L.length)) ++ t.H) := by
    rw [Heap.keys_append, Heap.keys_append, k1]
  refine ⟨M2, lm, hc.evo.trans g1 fun b hb => hc.keys b hb, fun b hb => ?_, ⟨hi.mem, fun b x hx => ?_, by rw [hkeys]; exact hi.nodup⟩, hc.size, hc.defers.sub fun b hb => by
    rw [hkeys] at hb
    exact ((Rem.after hrem (lheap lm s.L)).perm.map (·.1)).mem_iff.2 (List.mem_cons_of_mem _ ((hsub.map _).subset hb)), fun i => (h.e.get i).rep ((hc.env i).mono g1.sub)⟩
  · rw [hkeys] at hb
    have h3 := (hsub.map _).subset hb
    have hp := (Rem.after hrem (lheap lm s.L)).perm
    exact hc.keys b ((hp.map (·.1)).mem_iff.2 (List.mem_cons_of_mem _ h3))
  · rcases List.mem_append.1 hx with hx | hx
    · exact k2 (fun b x hb => hi.obj b x (List.mem_append.2 (Or.inl hb))) b x hx
    · exact hi.obj b x (List.mem_append.2 (Or.inr hx))
section
variable {P : Program} {N : Nat} {c : Code} {Q : Exit → St → Prop} {s : St}
theorem sem_ice {b : Nat} {cs : List AV} {H0 : Heap} (t : St) (hrem : Heap.Rem (b, .cells cs) s.H H0) (h : ∀ M, atL M cs b 0 → St.leM M ⟨s.e, s.L, H0⟩ t) (k : sem P N c Q t) : sem P N c Q s := fun hs B a w hc => k hs B a w (hc.ice hrem h)
end
end Go.Proofs.YtaldgcnhmnfocaaDoor

/-
  The abstract machine: a call that only looks at memory that turns; sums that may wrap. No condition.
-/
namespace Go.Proofs.YtaldgcnhmnfocaaDoor
open Go.RowKit

/-- all that there is, read as it is -/
def seen (w : World) : Mem := fun b o => w.cell? ⟨b, o, none⟩
theorem seen_le {M : Mem} {H : Heap} {w : World} (h : Inv M H w) : M.le (seen w) := fun b o v hv => h.mem b o v hv
theorem seen_inv (w : World) : Inv (seen w) [] w := ⟨fun _ _ _ h => h, nofun, List.nodup_nil⟩
theorem seen_obj {M : Mem} {H : Heap} {w : World} (h : Inv M H w) {b : Nat} {cs : List AV} (hin : (b, .cells cs) ∈ H) : atL (seen w) cs b 0 := by
  obtain ⟨_, vs, T0, hg, hrep⟩ := h.obj b (.cells cs) hin
  refine atL.of_vals (repC.mono (seen_le h) _ _ hrep) fun j c hj => ?_
  simp only [seen, World.cell?, hg]
  simpa using hj
theorem cell_block {w w' : World} {b o : Nat} (h : w'.heap[b]? = w.heap[b]?) : w'.cell? ⟨b, o, none⟩ = w.cell? ⟨b, o, none⟩ := by
  simp only [World.cell?, h]
/-- a call that answers a truth value, and leaves all as it is: it may look at what turns -/
theorem Con.look {P : Program} {f : FuncId} {args args' : List AV} {q : Bool} {H : Heap} {Q : AV → Heap → Prop} (hA : ∀ (H : Heap) (Q : AV → Heap → Prop), Q (.b q) H → Con P f args' H Q) (hl : ∀ M, (∀ b cs, (b, .cells cs) ∈ H → atL M cs b 0) → LeLM M args args') (hq : Q (.b q) H) : Con P f args H Q := by
  intro M w vs h0 h1 h2
  have h3 := (hl (seen w) fun b cs hin => seen_obj h1 hin).repT (repT.mono (seen_le h1) _ _ h2)
  refine (hA [] (fun r _ => r = .b q) rfl (seen w) w vs (h0.sub fun b hb => by cases hb) (seen_inv w) h3).mono fun v w' ⟨M', r, H', e, i, _, hr, hrq⟩ => ?_
  subst hrq
  have hv : rep M (.b q) v := hr
  have hc : ∀ b o v, M b o = some v → w'.cell? ⟨b, o, none⟩ = some v := fun b o v hb => by
    rw [cell_block (e.block b (h1.lt hb) (by simp [Heap.keys]))]
    exact h1.mem b o v hb
  have e0 : Evo [] M w M w' := ⟨e.os, e.tape, e.output, e.size, e.block, Mem.le.refl M, fun b o v hb => Or.inl hb⟩
  exact ⟨M, .b q, H, e0.mono (fun b hb => by cases hb), h1.evo0 e0 hc, fun b hb => Or.inl hb, hv, hq⟩

/-! a table in which ints wrap -/
def TI.widen (i : TI) : TI :=
  match i.kind with
  | .int .i64 => { i with kind := .intw }
  | _ => i
def Tab.widen : Tab → Tab
  | [] => []
  | (t, i) :: r => (t, i.widen) :: Tab.widen r
theorem TIok.widen {P : Program} {t : TypeId} {i : TI} (h : TIok P t i) : TIok P t i.widen := by
  unfold TI.widen
  split
  · rename_i hk
    obtain ⟨h1, h2, h3⟩ := h
    rw [hk] at h2 h3
    exact ⟨h1, h2, h3⟩
  · exact h
theorem TabOk.widen {P : Program} : ∀ {tab : Tab}, TabOk P tab → TabOk P tab.widen
  | [], _ => trivial
  | (_, _) :: _, h => ⟨h.1.widen, TabOk.widen h.2⟩
end Go.Proofs.YtaldgcnhmnfocaaDoor

/-
  The abstract machine: an order that serves, found quickly by numbers that are sets. No condition.
-/
namespace Go.Proofs.YtaldgcnhmnfocaaDoor
open Go.RowKit

theorem dep_mono {md : Region.Mode} {ops : Array Oper} : ∀ (f g j i : Nat), f ≤ g → dependsB md ops f j i = true → dependsB md ops g j i = true
  | 0, _, _, _, _, h => by cases h
  | f + 1, 0, _, _, hg, _ => by omega
  | f + 1, g + 1, j, i, hg, h => by
    unfold dependsB at h ⊢
    cases ho : ops[j]? with
    | none => simp [ho] at h
    | some o =>
      simp only [ho, Option.map_some, Option.getD_some, Array.any_eq_true'] at h ⊢
      obtain ⟨e, he, hh⟩ := h
      refine ⟨e, he, ?_⟩
      simp only [Bool.and_eq_true, Bool.or_eq_true, beq_iff_eq] at hh ⊢
      exact ⟨hh.1, hh.2.imp id fun h => dep_mono f g _ _ (by omega) h⟩
/-- a number's bit -/
def bit (i : Nat) : Nat := 1 <<< i
theorem testBit_bit (i j : Nat) : (bit i).testBit j = decide (i = j) := by
  unfold bit
  rw [Nat.shiftLeft_eq, Nat.one_mul, Nat.testBit_two_pow]
def afterM (c : List Nat) (j : Nat) : List Go.Edge → Nat → Nat
  | [], m => m
  | e :: r, m => afterM c j r (bif Region.binds .any e && Nat.blt e.on j then m ||| bit e.on ||| c.getD e.on 0 else m)
/-- what an operation stands behind -/
def behindM (ops : Array Oper) (c : List Nat) (j : Nat) : Nat :=
  match ops[j]? with
  | none => 0
  | some o => afterM c j o.after.toList 0
def closM (ops : Array Oper) : Nat → List Nat
  | 0 => []
  | n + 1 => closM ops n ++ [behindM ops (closM ops n) n]
theorem closM_len (ops : Array Oper) : ∀ n, (closM ops n).length = n
  | 0 => rfl
  | n + 1 => by simp [closM, closM_len ops n]
theorem closM_get (ops : Array Oper) {n j : Nat} (h : j < n) : (closM ops n).getD j 0 = behindM ops (closM ops j) j := by
  induction n with
  | zero => omega
  | succ n ih =>
    have hl := closM_len ops n
    rw [closM, List.getD_eq_getElem?_getD]
    by_cases hj : j < n
    · rw [List.getElem?_append_left (by omega), ← List.getD_eq_getElem?_getD]
      exact ih hj
    · obtain rfl : j = n := by omega
      rw [List.getElem?_append_right (by omega), hl]
      simp
theorem afterM_bit {c : List Nat} {j i : Nat} : ∀ {es : List Go.Edge} {m : Nat}, (afterM c j es m).testBit i = true → m.testBit i = true ∨ ∃ e ∈ es, Region.binds .any e = true ∧ e.on < j ∧ (e.on = i ∨ (c.getD e.on 0).testBit i = true)
  | [], m, h => Or.inl h
  | e :: r, m, h => by
    rcases afterM_bit (es := r) h with h | ⟨e', he, h⟩
    · cases hb : (Region.binds .any e && Nat.blt e.on j) with
      | false => rw [hb] at h; exact Or.inl h
      | true =>
        rw [hb] at h
        simp only [cond_true, Nat.testBit_or, Bool.or_eq_true, testBit_bit, decide_eq_true_eq] at h
        rw [Bool.and_eq_true, Nat.blt_eq] at hb
        rcases h with (h | h) | h
        · exact Or.inl h
        · exact Or.inr ⟨e, by simp, hb.1, hb.2, Or.inl h⟩
        · exact Or.inr ⟨e, by simp, hb.1, hb.2, Or.inr h⟩
    · exact Or.inr ⟨e', List.mem_cons_of_mem _ he, h⟩
theorem behind_dep {ops : Array Oper} : ∀ (n j i : Nat), j < n → (behindM ops (closM ops j) j).testBit i = true → dependsB .any ops (j + 1) j i = true := by
  intro n
  induction n with
  | zero => intro j i h; omega
  | succ n ih =>
    intro j i hj h
    unfold behindM at h
    unfold dependsB
    cases ho : ops[j]? with
    | none => rw [ho] at h; simp at h
    | some o =>
      rw [ho] at h
      simp only at h
      simp only [Option.map_some, Option.getD_some, Array.any_eq_true']
      rcases afterM_bit h with h | ⟨e, he, hb, hlt, h⟩
      · simp at h
      · refine ⟨e, by simpa using he, ?_⟩
        simp only [Bool.and_eq_true, Bool.or_eq_true, beq_iff_eq]
        refine ⟨hb, h.imp id fun h => ?_⟩
        rw [closM_get ops hlt] at h
        exact dep_mono _ _ _ _ (by omega) (ih e.on i (by omega) h)
section
variable {tab : Tab} {esc : Nat → Bool} {ops : Array Oper}
def predIn (m : Nat) : List Go.Edge → Bool
  | [] => true
  | e :: r => bif Region.binds .any e then (bif m.testBit e.on then predIn m r else false) else predIn m r
theorem predIn_all {m : Nat} : ∀ {es : List Go.Edge}, predIn m es = true → ∀ e ∈ es, Region.binds .any e = true → m.testBit e.on = true
  | [], _, e, he, _ => by cases he
  | e :: r, h, e', he, hb => by
    unfold predIn at h
    rcases List.mem_cons.1 he with rfl | he
    · rw [hb] at h
      cases ht : m.testBit e'.on with
      | true => rfl
      | false => rw [ht] at h; cases h
    · cases hb' : Region.binds .any e with
      | false => rw [hb'] at h; exact predIn_all h e' he hb
      | true =>
        rw [hb'] at h
        cases ht : m.testBit e.on with
        | false => rw [ht] at h; cases h
        | true => rw [ht] at h; exact predIn_all h e' he hb
/-- is each of these listed, or behind i, or apart from it? -/
def restOk (p : Nat → Bool) (cl : List Nat) (i m : Nat) : List Nat → Bool
  | [] => true
  | j :: r => bif (bif m.testBit j then true else bif Nat.beq j i then true else bif (cl.getD j 0).testBit i then true else p j) then restOk p cl i m r else false
theorem restOk_all {p : Nat → Bool} {cl : List Nat} {i m : Nat} : ∀ {js : List Nat}, restOk p cl i m js = true → ∀ j ∈ js, m.testBit j = true ∨ j = i ∨ (cl.getD j 0).testBit i = true ∨ p j = true
  | [], _, j, hj => by cases hj
  | k :: r, h, j, hj => by
    unfold restOk at h
    cases hc : (bif m.testBit k then true else bif Nat.beq k i then true else bif (cl.getD k 0).testBit i then true else p k) with
    | false => rw [hc] at h; cases h
    | true =>
      rw [hc] at h
      rcases List.mem_cons.1 hj with rfl | hj
      · cases h1 : m.testBit j with
        | true => exact Or.inl rfl
        | false =>
          rw [h1] at hc
          cases h2 : Nat.beq j i with
          | true => exact Or.inr (Or.inl (beq_true h2))
          | false =>
            rw [h2] at hc
            cases h3 : (cl.getD j 0).testBit i with
            | true => exact Or.inr (Or.inr (Or.inl rfl))
            | false => rw [h3] at hc; exact Or.inr (Or.inr (Or.inr hc))
      · exact restOk_all h j hj
def pairM (ops : Array Oper) (oi : Oper) (j : Nat) : Bool :=
  match ops[j]? with
  | some oj => oi.apart ops oj && !(isLoad oi.op && isStore oj.op)
  | none => true
def pairA (ops : Array Oper) (oi : Oper) (j : Nat) : Bool :=
  match ops[j]? with
  | some oj => oi.apart ops oj && (!isVar oj.op && !isStore oj.op)
  | none => true
def isNew (esc : Nat → Bool) (oi : Oper) : Bool :=
  match oi.op, oi.guard, oi.dst with
  | .alloc _, none, some d => !esc d
  | _, _, _ => false
def ordF (tab : Tab) (esc : Nat → Bool) (ops : Array Oper) (cl js : List Nat) : List Nat → Nat → Bool
  | [], m => js.all fun j => m.testBit j
  | i :: r, m => match ops[i]? with
    | none => false
    | some oi => bif (!m.testBit i && predIn m oi.after.toList && (bif mobile tab esc oi then restOk (pairM ops oi) cl i m js else bif isNew esc oi then restOk (pairA ops oi) cl i m js else restOk (fun _ => false) cl i m js)) then ordF tab esc ops cl js r (m ||| bit i) else false
theorem ready_one {listed : Array Bool} {i : Nat} (h : i ∈ Region.ready .any ops listed) (h1 : ∀ j ∈ Region.ready .any ops listed, j = i) : Region.ready .any ops listed = [i] := by
  have hn : (Region.ready .any ops listed).Nodup := List.Pairwise.filter _ List.nodup_range
  generalize Region.ready .any ops listed = l at *
  cases l with
  | nil => cases h
  | cons a t =>
    obtain rfl := h1 a (by simp)
    cases t with
    | nil => rfl
    | cons b t =>
      have := h1 b (by simp)
      subst this
      simp at hn
theorem ordF_ok : ∀ {ord : List Nat} {m : Nat} {listed : Array Bool}, listed.size = ops.size → (∀ j, j < ops.size → listed[j]? = some (m.testBit j)) → (∀ k, m.testBit k = true → k < ops.size) → Closed .any ops listed → ordF tab esc ops (closM ops ops.size) (List.range ops.size) ord m = true → ordOk tab esc ops ord listed = true
  | [], m, listed, hs, hm, hz, hc, h => by
    unfold ordF at h
    unfold ordOk
    rw [List.isEmpty_iff]
    cases hr : Region.ready .any ops listed with
    | nil => rfl
    | cons j r =>
      exfalso
      obtain ⟨h1, o, ho, _⟩ := mem_ready.1 (show j ∈ Region.ready .any ops listed by rw [hr]; simp)
      have hlt : j < ops.size := (Array.getElem?_eq_some_iff.1 ho).1
      have h2 := List.all_eq_true.1 h j (List.mem_range.2 hlt)
      rw [Array.getD_eq_getD_getElem?, hm j hlt, h2] at h1
      cases h1
  | i :: r, m, listed, hs, hm, hz, hc, h => by
    unfold ordF at h
    cases ho : ops[i]? with
    | none => rw [ho] at h; cases h
    | some oi =>
      rw [ho] at h
      simp only at h
      have hlt : i < ops.size := (Array.getElem?_eq_some_iff.1 ho).1
      have hget : ∀ j d, j < ops.size → listed.getD j d = m.testBit j := fun j d hj => by rw [Array.getD_eq_getD_getElem?, hm j hj]; rfl
      cases hb : (!m.testBit i && predIn m oi.after.toList && (bif mobile tab esc oi then restOk (pairM ops oi) (closM ops ops.size) i m (List.range ops.size) else bif isNew esc oi then restOk (pairA ops oi) (closM ops ops.size) i m (List.range ops.size) else restOk (fun _ => false) (closM ops ops.size) i m (List.range ops.size))) with
      | false => rw [hb] at h; cases h
      | true =>
        rw [hb] at h
        simp only [cond_true] at h
        simp only [Bool.and_eq_true, Bool.not_eq_true'] at hb
        obtain ⟨⟨b1, b2⟩, b3⟩ := hb
        have hin : listed.getD i true = false := by rw [hget i true hlt]; exact b1
        have hready : i ∈ Region.ready .any ops listed := by
          refine mem_ready.2 ⟨hin, oi, ho, fun e he hbi => ?_⟩
          have ht := predIn_all b2 e (by simpa using he) hbi
          by_cases hon : e.on < ops.size
          · rw [hget e.on false hon]; exact ht
          · exfalso
            exact hon (hz _ ht)
        have hdep : ∀ j, j < ops.size → ((closM ops ops.size).getD j 0).testBit i = true → dependsB .any ops ops.size j i = true := fun j hj ht => by
          rw [closM_get ops hj] at ht
          exact dep_mono _ _ _ _ (by omega) (behind_dep (j + 1) j i (by omega) ht)
        have hnext := ordF_ok (ord := r) (m := m ||| bit i) (listed := listed.setIfInBounds i true) (by simpa using hs) (fun j hj => by
          rw [Nat.testBit_or, testBit_bit]
          by_cases hij : i = j
          · subst hij
            rw [Array.getElem?_setIfInBounds_self_of_lt (by omega)]
            simp
          · rw [Array.getElem?_setIfInBounds_ne hij, hm j hj]
            simp [hij]) (fun k hk => by
          rw [Nat.testBit_or, testBit_bit, Bool.or_eq_true, decide_eq_true_eq] at hk
          rcases hk with hk | rfl
          · exact hz k hk
          · exact hlt) (closed_set hc hready) h
        unfold ordOk
        rw [Bool.and_eq_true, Bool.and_eq_true]
        refine ⟨⟨by simpa using hready, ?_⟩, hnext⟩
        cases hmo : mobile tab esc oi with
        | true =>
          rw [hmo] at b3
          simp only [cond_true] at b3
          rw [Bool.or_eq_true]
          left
          unfold okM
          rw [ho]
          show (mobile tab esc oi && (List.range ops.size).all fun j => listed.getD j true || Nat.beq j i || dependsB .any ops ops.size j i || pairM ops oi j) = true
          rw [hmo, Bool.true_and, List.all_eq_true]
          intro j hj
          have hjl := List.mem_range.1 hj
          rcases restOk_all b3 j hj with k | k | k | k
          · rw [hget j true hjl, k]; rfl
          · subst k; simp
          · rw [hdep j hjl k]; simp
          · rw [k]; simp
        | false =>
          rw [hmo] at b3
          simp only [cond_false] at b3
          rw [Bool.or_eq_true, Bool.or_eq_true]
          right
          cases hnw : isNew esc oi with
          | true =>
            rw [hnw] at b3
            simp only [cond_true] at b3
            right
            unfold okA
            rw [ho]
            show (isNew esc oi && (List.range ops.size).all fun j => listed.getD j true || Nat.beq j i || dependsB .any ops ops.size j i || pairA ops oi j) = true
            rw [hnw, Bool.true_and, List.all_eq_true]
            intro j hj
            have hjl := List.mem_range.1 hj
            rcases restOk_all b3 j hj with k | k | k | k
            · rw [hget j true hjl, k]; rfl
            · subst k; simp
            · rw [hdep j hjl k]; simp
            · rw [k]; simp
          | false =>
            rw [hnw] at b3
            simp only [cond_false] at b3
            left
            rw [beq_iff_eq]
            have only : ∀ j ∈ Region.ready .any ops listed, j = i := fun j hj => by
              obtain ⟨hjun, o, hoj, _⟩ := mem_ready.1 hj
              have hjl : j < ops.size := (Array.getElem?_eq_some_iff.1 hoj).1
              rcases restOk_all b3 j (List.mem_range.2 hjl) with k | k | k | k
              · rw [hget j true hjl, k] at hjun; cases hjun
              · exact k
              · exfalso
                have := dep_listed hc _ _ _ (hdep j hjl k) (Or.inl hj)
                rw [hget i false hlt, b1] at this
                cases this
              · cases k
            exact ready_one hready only
/-- an order that serves -/
theorem ord_fast {ord : List Nat} (h : (Nat.beq ord.length ops.size && ordF tab esc ops (closM ops ops.size) (List.range ops.size) ord 0) = true) : (Nat.beq ord.length ops.size && ordOk tab esc ops ord (Array.replicate ops.size false)) = true := by
  rw [Bool.and_eq_true] at h ⊢
  refine ⟨h.1, ordF_ok (by simp) (fun j hj => by simp [hj]) (fun k hk => by simp at hk) ?_ h.2⟩
  intro j o hl
  rw [Array.getD_eq_getD_getElem?, Array.getElem?_replicate] at hl
  split at hl <;> cases hl
end
end Go.Proofs.YtaldgcnhmnfocaaDoor

/-
  The abstract machine: a range over a function. No condition.
-/
namespace Go.Proofs.YtaldgcnhmnfocaaDoor
open Go.RowKit

/-- what a function that is ranged over does: it hands these on, one behind the other, until it is enough -/
def Iter (P : Program) (f : FuncId) (caps : List AV) (xs : List (List AV)) : Prop :=
  ∀ (l : Nat) (I : Nat → Heap → Prop) (S : Heap → Prop), (∀ i args H, xs[i]? = some args → I i H → RCon P l args H fun r H' => (r = .b true ∧ I (i + 1) H') ∨ (r = .b false ∧ S H')) →
    ∀ H, I 0 H → Con P f (.fn (.yield l) [] :: caps) H fun _ H' => I xs.length H' ∨ S H'

theorem LeM.fn {M : Mem} {f : Fn} {xs ys : List AV} (h : LeLM M xs ys) : LeM M (.fn f xs) (.fn f ys) := fun u hu => by
  simp only [rep] at hu ⊢
  obtain ⟨cs, e, hc⟩ := hu
  exact ⟨cs, e, h.repT hc⟩
/-- a captured variable that turns no more -/
theorem ptr_ice {M : Mem} {b : Nat} {cs : List AV} (h : atL M cs b 0) : LeM M (.ptr b 0) (.ip cs) := fun u hu => by
  simp only [rep] at hu ⊢
  exact ⟨b, 0, hu, h⟩

/-- a round's slots -/
def bindEnv : List (Tmp × AV) → Env → Env
  | [], e => e
  | (p, x) :: r, e => bindEnv r ((p, .g x) :: e)
theorem bind_env {M : Mem} {lm : Nat → Nat} {N : Nat} : ∀ {ps : List Tmp} {xs : List AV} {vs : List Value} {e : Env} {t : Array Value}, repT M xs vs → (∀ p ∈ ps, p < N) → t.size = N → (∀ i, repX M lm (e.get i) (t.getD i undef)) →
    (((ps.zip vs).foldl (fun (t : Array Value) (q : Tmp × Value) => t.setIfInBounds q.1 q.2) t).size = N ∧ ∀ i, repX M lm ((bindEnv (ps.zip xs) e).get i) (((ps.zip vs).foldl (fun (t : Array Value) (q : Tmp × Value) => t.setIfInBounds q.1 q.2) t).getD i undef))
  | [], _, _, e, t, _, _, hs, he => by
    simp only [List.zip_nil_left, List.foldl_nil]
    exact ⟨hs, he⟩
  | p :: ps, [], vs, e, t, h, _, hs, he => by
    simp only [repT] at h
    subst h
    simp only [List.zip_nil_right, List.foldl_nil]
    exact ⟨hs, he⟩
  | p :: ps, x :: xs, vs, e, t, h, hp, hs, he => by
    simp only [repT] at h
    obtain ⟨v, vs', rfl, h1, h2⟩ := h
    simp only [List.zip_cons_cons, List.foldl_cons]
    refine bind_env (e := (p, .g x) :: e) h2 (fun q hq => hp q (List.mem_cons_of_mem _ hq)) (by simpa using hs) fun i => ?_
    show repX M lm (bif Nat.beq p i then .g x else e.get i) _
    have hlt : p < t.size := by rw [hs]; exact hp p (by simp)
    cases hb : Nat.beq p i with
    | true =>
      have := beq_true hb
      subst this
      rw [Array.getD_eq_getD_getElem?, Array.getElem?_setIfInBounds_self_of_lt hlt]
      exact h1
    | false =>
      have hne : p ≠ i := fun e => by rw [e, Nat.beq_refl] at hb; cases hb
      have := he i
      rw [Array.getD_eq_getD_getElem?] at this ⊢
      rwa [Array.getElem?_setIfInBounds_ne hne]

/-! objects that are at least others -/
def AObj.le : AObj → AObj → Prop
  | .cells xs, .cells ys => LeL xs ys
  | x, y => x = y
def Heap.w : Heap → Heap → Prop
  | [], [] => True
  | (b, x) :: H, (b', y) :: H' => b = b' ∧ AObj.le x y ∧ Heap.w H H'
  | _, _ => False
/-- what stands in one heap stands in the other at least so -/
def HLe (H H' : Heap) : Prop := ∃ H2 : Heap, H2.Sublist H ∧ Heap.w H2 H'
theorem AObj.le.refl (x : AObj) : AObj.le x x := by
  cases x
  · exact LeL.refl _
  · exact rfl
  · exact rfl
  · exact rfl
theorem Heap.w.refl : ∀ H : Heap, Heap.w H H
  | [] => trivial
  | (_, x) :: H => ⟨rfl, AObj.le.refl x, Heap.w.refl H⟩
theorem HLe.sub {H H' : Heap} (h : H'.Sublist H) : HLe H H' := ⟨H', h, Heap.w.refl _⟩
theorem HLe.refl (H : Heap) : HLe H H := HLe.sub (List.Sublist.refl _)
theorem HLe.eq {H H' : Heap} (h : H = H') : HLe H H' := h ▸ HLe.refl H
theorem HLe.here {H H' : Heap} {b : Nat} {xs ys : List AV} (h : LeL xs ys) (k : HLe H H') : HLe ((b, .cells xs) :: H) ((b, .cells ys) :: H') := by
  obtain ⟨H2, k1, k2⟩ := k
  exact ⟨(b, .cells xs) :: H2, k1.cons_cons _, rfl, h, k2⟩
theorem HLe.cons {H H' : Heap} (p : Nat × AObj) (k : HLe H H') : HLe (p :: H) (p :: H') := by
  obtain ⟨H2, k1, k2⟩ := k
  exact ⟨p :: H2, k1.cons_cons _, rfl, AObj.le.refl _, k2⟩
theorem Heap.w.keys : ∀ {H H' : Heap}, Heap.w H H' → H'.keys = H.keys
  | [], [], _ => rfl
  | (b, x) :: H, (b', y) :: H', h => by
    obtain ⟨rfl, _, h⟩ := h
    show b :: Heap.keys H' = b :: Heap.keys H
    rw [Heap.w.keys h]
  | [], _ :: _, h => h.elim
  | _ :: _, [], h => h.elim
theorem AObj.le.ok {M : Mem} {w : World} {b : Nat} {x y : AObj} (h : AObj.le x y) (k : objOk M w b x) : objOk M w b y := by
  cases x with
  | cells xs =>
    cases y with
    | cells ys =>
      obtain ⟨h1, cs, T0, h2, h3⟩ := k
      exact ⟨h1, cs, T0, h2, LeL.repC h h3⟩
    | cap c => cases h
    | raw o M0 => cases h
    | mp es clk => cases h
  | cap c =>
    cases y with
    | cells ys => cases h
    | cap c' => cases h; exact k
    | raw o M0 => cases h
    | mp es clk => cases h
  | raw o M0 =>
    cases y with
    | cells ys => cases h
    | cap c' => cases h
    | raw o' M0' => cases h; exact k
    | mp es clk => cases h
  | mp es clk =>
    cases y with
    | cells ys => cases h
    | cap c' => cases h
    | raw o' M0' => cases h
    | mp es' clk' => cases h; exact k
theorem Heap.w.objs {M : Mem} {w : World} : ∀ {H H' : Heap}, Heap.w H H' → (∀ b x, (b, x) ∈ H → objOk M w b x) → ∀ b x, (b, x) ∈ H' → objOk M w b x
  | [], [], _, _, b, x, hx => by cases hx
  | (b0, x0) :: H, (b1, y0) :: H', h, k, b, x, hx => by
    obtain ⟨rfl, h1, h⟩ := h
    rcases List.mem_cons.1 hx with hx | hx
    · cases hx
      exact h1.ok (k _ _ (by simp))
    · exact Heap.w.objs h (fun b x hb => k b x (List.mem_cons_of_mem _ hb)) b x hx
  | [], _ :: _, h, _, _, _, _ => h.elim
  | _ :: _, [], h, _, _, _, _ => h.elim
theorem Conc.hle {B : Base} {N : Nat} {e : Env} {L : Loc} {H H' : Heap} {a : Act} {w : World} (h : HLe H H') (hc : Conc B N ⟨e, L, H⟩ a w) : Conc B N ⟨e, L, H'⟩ a w := by
  obtain ⟨M, lm, hc⟩ := hc
  obtain ⟨H2, h1, h2⟩ := h
  have hsub : (lheap lm L ++ H2).Sublist (lheap lm L ++ H) := (List.Sublist.refl _).append h1
  have hi := hc.inv.sub hsub
  have hk : Heap.keys (lheap lm L ++ H') = Heap.keys (lheap lm L ++ H2) := by rw [Heap.keys_append, Heap.keys_append, h2.keys]
  have hin : ∀ b ∈ Heap.keys (lheap lm L ++ H'), b ∈ Heap.keys (lheap lm L ++ H) := fun b hb => (hsub.map _).subset (by rw [hk] at hb; exact hb)
  refine ⟨M, lm, hc.evo, fun b hb => hc.keys b (hin b hb), ⟨hi.mem, fun b x hx => ?_, by rw [hk]; exact hi.nodup⟩, hc.size, hc.defers.sub hin, hc.env⟩
  rcases List.mem_append.1 hx with hx | hx
  · exact hi.obj b x (List.mem_append.2 (Or.inl hx))
  · exact h2.objs (fun b x hb => hi.obj b x (List.mem_append.2 (Or.inr hb))) b x hx

section
variable {P : Program} {tab : Tab} {esc : Nat → Bool} {N : Nat} {a b c : Code} {Q : Exit → St → Prop} {s t : St}
theorem sem_hle (H' : Heap) (h : HLe s.H H') (k : sem P N c Q ⟨s.e, s.L, H'⟩) : sem P N c Q s := fun hs B a w hc => k hs B a w (hc.hle h)
theorem sem_then (h : sem P N a (fun x s' => match x with
    | .normal => sem P N b Q s'
    | x => Q x s') s) : sem P N (.seq a b) Q s := fun hs B ac w hc => by
  simp only [slotsOk, Bool.and_eq_true] at hs
  refine wp_seq (wp_mono (h hs.1 B ac w hc) ?_)
  rintro e a' w' ⟨s', h1, h2⟩
  cases e with
  | normal => exact h2 hs.2 B a' w' h1
  | _ => exact ⟨s', h1, h2⟩
/-- behind a way that joins -/
theorem sem_thenJ {X : Type} (st : X → St) (I : X → Prop) (h : sem P N a (fun x s' => match x with
    | .normal => ∃ y, I y ∧ St.le s' (st y)
    | x => Q x s') s) (k : ∀ y, I y → sem P N b Q (st y)) : sem P N (.seq a b) Q s := fun hs B ac w hc => by
  simp only [slotsOk, Bool.and_eq_true] at hs
  refine wp_seq (wp_mono (h hs.1 B ac w hc) ?_)
  rintro e a' w' ⟨s', h1, h2⟩
  cases e with
  | normal =>
    obtain ⟨y, k1, k2⟩ := h2
    exact k y k1 hs.2 B a' w' (h1.le k2)
  | _ => exact ⟨s', h1, h2⟩
theorem sem_block {id : Nat} (h : sem P N c (fun x s' => match x with
    | .exit id' => bif Nat.beq id' id then Q .normal s' else Q (.exit id') s'
    | x => Q x s') s) : sem P N (.block id c) Q s := fun hs B ac w hc => by
  refine wp_block (wp_mono (h hs B ac w hc) ?_)
  rintro e a' w' ⟨s', h1, h2⟩
  cases e with
  | exit id' =>
    show if id' = id then _ else _
    simp only at h2
    by_cases hid : id' = id
    · rw [if_pos hid]
      rw [hid, Nat.beq_refl] at h2
      exact ⟨s', h1, h2⟩
    · rw [if_neg hid]
      have : Nat.beq id' id = false := by
        cases hb : Nat.beq id' id with
        | false => rfl
        | true => exact absurd (beq_true hb) hid
      rw [this] at h2
      exact ⟨s', h1, h2⟩
  | _ => exact ⟨s', h1, h2⟩

/-- the jump that waits behind a round that was left -/
def jumpOf : Exit → Option Code
  | .ret => some .ret
  | .exit id => some (.exit id)
  | _ => none

/-- A RANGE OVER A FUNCTION -/
theorem sem_range {X Y : Type} {g : Operand} {ps : Array Tmp} {assign body : Code} {f : FuncId} {caps : List AV} {xs : List (List AV)} (hP : TabOk P tab) (hm : P.follows .mixedOrders = true) (he : ∀ args w, (callFunc f args).run P w = .ok (.enter f args) w) (hit : Iter P f caps xs)
    (e0 : Env) (hp : X → Heap) (J : Nat → X → Prop) (hpS : Y → Heap) (JS : Exit → Y → Prop) (hg : e0.ev g = .g (.fn (.func f) caps)) (hlen : ∀ args ∈ xs, args.length = ps.size)
    (h0 : ∃ x, J 0 x ∧ Env.le s.e e0 ∧ HLe s.H (hp x))
    (round : ∀ i args x, xs[i]? = some args → J i x → (∀ a ∈ args, Wf a) → (hp x).keys.Nodup → awp P tab esc N assign (fun e s' => match e with
      | .normal => awp P tab esc N body (fun e s'' => match e with
        | .normal => ∃ y, J (i + 1) y ∧ HLe s''.H (hp y)
        | .ret => ∃ y, JS .ret y ∧ HLe s''.H (hpS y)
        | .exit id => ∃ y, JS (.exit id) y ∧ HLe s''.H (hpS y)
        | _ => False) s'
      | _ => False) ⟨bindEnv (ps.toList.zip args) e0, [], hp x⟩)
    (done : ∀ x, J xs.length x → Q .normal ⟨e0, [], hp x⟩) (stop : ∀ e y, JS e y → Q e ⟨e0, [], hpS y⟩) : sem P N (.rangeFunc g ps assign body) Q s := by
  intro hs B a w hc
  simp only [slotsOk, Bool.and_eq_true] at hs
  obtain ⟨⟨hs0, hs1⟩, hs2⟩ := hs
  have hps : ∀ p ∈ ps.toList, p < N := fun p hp => by
    have := List.all_eq_true.1 hs0 p hp
    rwa [Nat.blt_eq] at this
  obtain ⟨x0, hx0, hle1, hle2⟩ := h0
  obtain ⟨M, lm, hc⟩ := (Conc.le (s := s) (t := ⟨e0, [], s.H⟩) ⟨hle1, by simp [Loc.w], List.Sublist.refl _⟩ hc).hle hle2
  have hgv := hc.ev g
  rw [show (St.mk e0 [] (hp x0)).e.ev g = .g (.fn (.func f) caps) from hg] at hgv
  simp only [repX, rep] at hgv
  obtain ⟨cvs, hgv, hcaps⟩ := hgv
  refine (wpIn_wide (n := 0)).1 (wpIn_rangeFunc ?_)
  intro fn _
  have hinv0 : Inv M (hp x0) w := hc.inv
  obtain ⟨rec, hrec⟩ : ∃ rec : LoopState → Option Code → Loop, rec = fun st pe => { state := st, pending := pe, fn, tmps := a.tmps, params := ps, assign, body, defers := w.heap.size } := ⟨_, rfl⟩
  obtain ⟨l, hl⟩ : ∃ l, l = w.heap.size + 1 := ⟨_, rfl⟩
  obtain ⟨W1, hW1⟩ : ∃ W1, (w.alloc (.deferred (some []))).alloc (.loop (rec .ready none)) = W1 := ⟨_, rfl⟩
  have hl1 : W1.heap[l]? = some (.loop (rec .ready none)) := by
    rw [hl, ← hW1]
    have := World.alloc_heap_new (w.alloc (.deferred (some []))) (.loop (rec .ready none))
    rwa [World.size_alloc] at this
  have hk1 : W1.heap[w.heap.size]? = some (.deferred (some [])) := by
    rw [← hW1]
    exact (Below.heap_alloc _ _ _ (by simp)).trans (World.alloc_heap_new w _)
  have hold : ∀ k, k < w.heap.size → W1.heap[k]? = w.heap[k]? := fun k hk => by
    rw [← hW1]
    exact (Below.heap_alloc _ _ _ (by simp; omega)).trans (Below.heap_alloc _ _ _ hk)
  have e01 : Evo [] M w M W1 := by
    refine ⟨by rw [← hW1]; rfl, by rw [← hW1]; rfl, by rw [← hW1]; rfl, by rw [← hW1]; simp; omega, fun k hk _ => hold k hk, Mem.le.refl M, fun _ _ _ h => Or.inl h⟩
  have hI1 : Inv M (hp x0) W1 := hinv0.evo0 e01 fun b o v hv => by
    rw [← hinv0.mem b o v hv]
    simp only [World.cell?, hold b (hinv0.lt hv)]
  have hMl : ∀ o, M l o = none := fun o => by
    cases hv : M l o with
    | none => rfl
    | some v => have := hinv0.lt hv; omega
  obtain ⟨H1, hH1⟩ : ∃ H1 : X → Heap, H1 = fun x => (l, AObj.raw (.loop (rec .ready none)) M) :: hp x := ⟨_, rfl⟩
  obtain ⟨HS, hHS⟩ : ∃ HS : Exit → Y → Heap, HS = fun e y => (l, AObj.raw (.loop (rec .done (jumpOf e))) M) :: hpS y := ⟨_, rfl⟩
  have hk1x : ∀ {b : Nat} {x : X}, b ∈ (H1 x).keys → b = l ∨ b ∈ (hp x).keys := fun {b x} h => by
    rw [hH1] at h
    exact List.mem_cons.1 h
  have addRaw : ∀ {M' : Mem} {H : Heap} {w' : World} {o : Obj}, Inv M' H w' → l ∉ H.keys → (∀ q, M' l q = none) → M.le M' → w'.heap[l]? = some o → Inv M' ((l, AObj.raw o M) :: H) w' := by
    intro M' H w' o h1 h2 h3 h4 h5
    refine ⟨h1.mem, fun b x hx => ?_, ?_⟩
    · rcases List.mem_cons.1 hx with hx | hx
      · cases hx
        exact ⟨h3, h4, h5⟩
      · exact h1.obj b x hx
    · show (l :: H.keys).Nodup
      exact List.nodup_cons.2 ⟨h2, h1.nodup⟩
  have hl0 : l ∉ (hp x0).keys := fun h => by have := hinv0.key_lt h; omega
  have hI1' : Inv M (H1 x0) W1 := by rw [hH1]; exact addRaw hI1 hl0 hMl (Mem.le.refl M) hl1
  -- a round
  have rounds : ∀ i args H, xs[i]? = some args → (∃ x, J i x ∧ H = H1 x) → RCon P l args H fun r H' => (r = .b true ∧ ∃ x, J (i + 1) x ∧ H' = H1 x) ∨ (r = .b false ∧ ∃ e y, (jumpOf e).isSome = true ∧ JS e y ∧ H' = HS e y) := by
    rintro i args _ hi ⟨x, hx, rfl⟩ n' M1 w1 vs hG1 hInv hargs
    have hlG : nG ≤ l := hG1.2.2 l (by rw [hH1]; exact List.mem_cons_self)
    have hGx : GW w1 ∧ nG ≤ w1.heap.size ∧ ∀ k ∈ (hp x).keys, nG ≤ k := ⟨hG1.1, hG1.2.1, fun k hk => hG1.2.2 k (by rw [hH1]; exact List.mem_cons_of_mem _ hk)⟩
    have hGp : ∀ o, GW (w1.putObj l o) ∧ nG ≤ (w1.putObj l o).heap.size ∧ ∀ k ∈ (hp x).keys, nG ≤ k := fun o => ⟨hGx.1.keep fun k hk => World.putObj_heap_other (by omega), by rw [World.putObj_size]; exact hGx.2.1, hGx.2.2⟩
    rw [hH1] at hInv
    obtain ⟨hn1, hM1, hlw⟩ := hInv.obj l (.raw (.loop (rec .ready none)) M) (by simp)
    have hIt : Inv M1 (hp x) w1 := hInv.sub (List.sublist_cons_self _ _)
    have hlk : l ∉ (hp x).keys := by
      have := hInv.nodup
      exact (List.nodup_cons.1 this).1
    have hllt : l < w1.heap.size := (Array.getElem?_eq_some_iff.1 hlw).1
    have hvl : vs.length = ps.size := by rw [hargs.length]; exact hlen args (List.mem_of_getElem? hi)
    have hy := run_yield (P := P) (args := vs.toArray) hlw (by rw [hrec]; simpa using hvl)
    rw [hrec] at hy
    refine ⟨fn, _, assign, body, hy, roundIn_of_wpIn trivial ?_⟩
    have hfold : (ps.zip vs.toArray).foldl (fun tmps (t, a) => tmps.setIfInBounds t a) a.tmps = (ps.toList.zip vs).foldl (fun (t : Array Value) (q : Tmp × Value) => t.setIfInBounds q.1 q.2) a.tmps := by
      rw [← Array.foldl_toList, Array.toList_zip]
    obtain ⟨b1, b2⟩ := bind_env (ps := ps.toList) (e := e0) (t := a.tmps) (lm := lm) hargs hps hc.size fun i => (hc.env i).mono hM1
    have hca : ConcAt ⟨(hp x).keys, M1, w1, hGx⟩ N M1 lm ⟨bindEnv (ps.toList.zip args) e0, [], hp x⟩ { tmps := (ps.zip vs.toArray).foldl (fun tmps (t, a) => tmps.setIfInBounds t a) a.tmps, defers := [] } w1 :=
      ⟨Evo.refl _ _ _, fun b hb => Or.inl hb, hIt, by rw [hfold]; exact b1, Marked.nil, by rw [hfold]; exact b2⟩
    refine wpIn_mono (awp_sound (ρ := some l) hP hm assign _ _ _ _ hs1 (round i args x hi hx (fun y hy => Wf.tup.key hargs hy) hIt.nodup) ⟨M1, lm, hca⟩) ?_
    rintro e a2 w2 ⟨s2, ⟨M2, lm2, hc2⟩, hq2⟩
    cases e with
    | normal =>
      have hl2 : w2.heap[l]? = some (.loop (rec .ready none)) := (hc2.evo.block l hllt hlk).trans hlw
      refine ⟨_, run_beginRound hl2 (by rw [hrec]), ?_⟩
      have hlk2 : l ∉ Heap.keys (lheap lm2 s2.L ++ s2.H) := fun h => by
        rcases hc2.keys l h with h | h
        · exact hlk h
        · exact absurd hllt (by simp only at h; omega)
      obtain ⟨i2, _⟩ := hc2.inv.putObj (y := .loop { rec .ready none with state := .busy }) hlk2 hl2 (cell_loop hl2)
      have eB : Evo [l] M1 w1 M1 (w1.putObj l (.loop { rec .ready none with state := .busy })) := (hIt.putObj hlk hlw (cell_loop hlw)).2
      have hcb : ConcAt ⟨(hp x).keys, M1, w1.putObj l (.loop { rec .ready none with state := .busy }), hGp _⟩ N M2 lm2 s2 a2 (w2.putObj l (.loop { rec .ready none with state := .busy })) := by
        refine ⟨⟨hc2.evo.os, hc2.evo.tape, hc2.evo.output, by simpa using hc2.evo.size, fun k hk hn => ?_, hc2.evo.sub, fun b o v h => by simpa using hc2.evo.new b o v h⟩, fun b hb => by simpa using hc2.keys b hb, i2, hc2.size, ?_, hc2.env⟩
        · by_cases hkl : k = l
          · subst hkl
            rw [World.putObj_heap_same (Array.getElem?_eq_some_iff.1 hl2).1, World.putObj_heap_same hllt]
          · exact (World.putObj_heap_other hkl).trans ((hc2.evo.block k (by simpa using hk) hn).trans (World.putObj_heap_other hkl).symm)
        · obtain ⟨Ds, g1, g2, g3⟩ := hc2.defers
          refine ⟨Ds, g1, g2, fun D hD => ?_⟩
          obtain ⟨k1, k2, k3⟩ := g3 D hD
          refine ⟨(World.putObj_heap_other ?_).trans k1, by simpa using k2, k3⟩
          rintro rfl
          rw [hl2] at k1; cases k1
      refine wpIn_mono (awp_sound (ρ := some l) hP hm body _ s2 a2 _ hs2 hq2 ⟨M2, lm2, hcb⟩) ?_
      -- a round's end
      have fin : ∀ (Hy : Heap) (w3 : World) (a3 : Act) (st : LoopState) (pe : Option Code) (q : Bool) (hq : (AV.b q = .b true ∧ ∃ x, J (i + 1) x ∧ (l, AObj.raw (.loop (rec st pe)) M) :: Hy = H1 x) ∨ (AV.b q = .b false ∧ ∃ e y, (jumpOf e).isSome = true ∧ JS e y ∧ (l, AObj.raw (.loop (rec st pe)) M) :: Hy = HS e y)),
          Conc ⟨(hp x).keys, M1, w1.putObj l (.loop { rec .ready none with state := .busy }), hGp _⟩ N ⟨[], [], Hy⟩ a3 w3 → w3.heap[l]? = some (.loop (rec .busy none)) ∧ ∃ v, Ending.returned (.bool q) = .returned v ∧
            ∃ M' r H', Evo (H1 x).keys M1 w1 M' (w3.putObj l (.loop (rec st pe))) ∧ Inv M' H' (w3.putObj l (.loop (rec st pe))) ∧ (∀ b ∈ H'.keys, b ∈ (H1 x).keys ∨ w1.heap.size ≤ b) ∧ rep M' r v ∧ ((r = .b true ∧ ∃ x, J (i + 1) x ∧ H' = H1 x) ∨ (r = .b false ∧ ∃ e y, (jumpOf e).isSome = true ∧ JS e y ∧ H' = HS e y)) := by
        rintro Hy w3 a3 st pe q hq ⟨M3, lm3, hc3⟩
        have hl3 : w3.heap[l]? = some (.loop (rec .busy none)) := by
          refine (hc3.evo.block l (by simpa using hllt) hlk).trans ?_
          rw [World.putObj_heap_same hllt, hrec]
        have hI3 : Inv M3 Hy w3 := hc3.inv
        have hlk3 : l ∉ Hy.keys := fun h => by
          rcases hc3.keys l h with h | h
          · exact hlk h
          · simp only [World.putObj_size] at h; omega
        have hM3 : ∀ o, M3 l o = none := fun o => by
          cases hv : M3 l o with
          | none => rfl
          | some v =>
            rcases hc3.evo.new l o v hv with h | h | h
            · simp only at h; rw [hn1 o] at h; cases h
            · exact absurd h hlk
            · simp only [World.putObj_size] at h; omega
        obtain ⟨i3, e3⟩ := hI3.putObj (y := .loop (rec st pe)) hlk3 hl3 (cell_loop hl3)
        have hIn : ∀ b ∈ (hp x).keys, b ∈ (H1 x).keys := fun b hb => by rw [hH1]; exact List.mem_cons_of_mem _ hb
        have hlH : l ∈ (H1 x).keys := by rw [hH1]; exact List.mem_cons_self
        refine ⟨hl3, _, rfl, M3, .b q, _, ?_, addRaw i3 hlk3 hM3 (fun b o v h => hc3.evo.sub b o v (hM1 b o v h)) (World.putObj_heap_same (Array.getElem?_eq_some_iff.1 hl3).1), fun b hb => ?_, rep_b, hq⟩
        · refine Evo.trans (K := (H1 x).keys) (K' := [l]) (Evo.trans (K' := (hp x).keys) (eB.mono (fun b hb => ?_)) hc3.evo fun b hb => Or.inl (hIn b hb)) e3 fun b hb => ?_
          · obtain rfl : b = l := by simpa using hb
            exact hlH
          · obtain rfl : b = l := by simpa using hb
            exact Or.inl hlH
        · rcases List.mem_cons.1 hb with rfl | hb
          · exact Or.inl hlH
          · exact (hc3.keys b hb).imp (hIn b) fun h => by simpa using h
      rintro e a3 w3 ⟨s3, hc3, hq3⟩
      cases e with
      | normal =>
        obtain ⟨y, hy, hle3⟩ := hq3
        obtain ⟨hl3, h3⟩ := fin (hp y) w3 a3 .ready none true (Or.inl ⟨rfl, y, hy, by rw [hH1]⟩) ((Conc.le (s := s3) (t := ⟨[], [], s3.H⟩) ⟨trivial, by simp [Loc.w], List.Sublist.refl _⟩ hc3).hle hle3)
        refine ⟨.bool true, w3.putObj l (.loop (rec .ready none)), ?_, h3⟩
        rw [run_endRound none hl3, hrec]
        rfl
      | ret =>
        obtain ⟨y, hy, hle3⟩ := hq3
        obtain ⟨hl3, h3⟩ := fin (hpS y) w3 a3 .done (some .ret) false (Or.inr ⟨rfl, .ret, y, rfl, hy, by rw [hHS]; rfl⟩) ((Conc.le (s := s3) (t := ⟨[], [], s3.H⟩) ⟨trivial, by simp [Loc.w], List.Sublist.refl _⟩ hc3).hle hle3)
        refine ⟨.bool false, w3.putObj l (.loop (rec .done (some .ret))), ?_, h3⟩
        rw [run_endRound (some .ret) hl3, hrec]
        rfl
      | exit id =>
        obtain ⟨y, hy, hle3⟩ := hq3
        obtain ⟨hl3, h3⟩ := fin (hpS y) w3 a3 .done (some (.exit id)) false (Or.inr ⟨rfl, .exit id, y, rfl, hy, by rw [hHS]; rfl⟩) ((Conc.le (s := s3) (t := ⟨[], [], s3.H⟩) ⟨trivial, by simp [Loc.w], List.Sublist.refl _⟩ hc3).hle hle3)
        refine ⟨.bool false, w3.putObj l (.loop (rec .done (some (.exit id)))), ?_, h3⟩
        rw [run_endRound (some (.exit id)) hl3, hrec]
        rfl
      | goto t => exact hq3.elim
      | panic ch => exact hq3.elim
      | outgrown => exact hq3.elim
    | _ => exact hq2.elim
  -- the call
  have hcall := hit l (fun i H => ∃ x, J i x ∧ H = H1 x) (fun H => ∃ e y, (jumpOf e).isSome = true ∧ JS e y ∧ H = HS e y) rounds (H1 x0) ⟨x0, hx0, rfl⟩ M W1 (.func (.yield l) #[] #[] :: cvs) (GH.step hc.gh (fun k hk => hold k (Nat.lt_of_lt_of_le hk hc.gh.2.1)) e01.size fun b hb => (hk1x hb).elim (fun h => Or.inr (by omega)) Or.inl) hI1' (by
    simp only [repT]
    exact ⟨_, _, rfl, by simp [rep, repT], hcaps⟩)
  rw [he] at hcall
  have hcall : Calls P f (.func (.yield l) #[] #[] :: cvs).toArray W1 _ := hcall
  -- behind the call
  have after : ∀ (Hx : Heap) (M3 : Mem) (w3 : World) (o o' : Loop), Evo (H1 x0).keys M W1 M3 w3 → Inv M3 ((l, AObj.raw (.loop o) M) :: Hx) w3 → (∀ b ∈ Hx.keys, b ∈ (H1 x0).keys ∨ W1.heap.size ≤ b) → Conc B N ⟨e0, [], Hx⟩ { a with defers := [markOf w.heap.size] ++ a.defers } (w3.putObj l (.loop o')) := by
    intro Hx M3 w3 o o' ev hI3 hk3
    obtain ⟨_, hM3, hl3⟩ := hI3.obj l _ List.mem_cons_self
    have hlk3 : l ∉ Hx.keys := (List.nodup_cons.1 hI3.nodup).1
    obtain ⟨i4, e4⟩ := (hI3.sub (List.sublist_cons_self _ _)).putObj (y := .loop o') hlk3 hl3 (cell_loop hl3)
    have hsz1 : W1.heap.size = w.heap.size + 2 := by rw [← hW1]; simp
    have hin1 : ∀ b ∈ (H1 x0).keys, b ∈ B.K ∨ B.w.heap.size ≤ b := fun b hb => by
      rcases hk1x hb with rfl | hb
      · have := hc.evo.size; right; omega
      · exact hc.keys b hb
    have hin2 : ∀ b ∈ Hx.keys, b ∈ B.K ∨ B.w.heap.size ≤ b := fun b hb => by
      rcases hk3 b hb with h | h
      · exact hin1 b h
      · have := hc.evo.size; right; omega
    have evB : Evo B.K B.M B.w M3 (w3.putObj l (.loop o')) := by
      refine ((hc.evo.trans e01 (by simp)).trans ev hin1).trans e4 fun b hb => ?_
      obtain rfl : b = l := by simpa using hb
      have := hc.evo.size; right; omega
    have hDk : w.heap.size ∉ Hx.keys := fun h => by
      rcases hk3 _ h with h | h
      · rcases hk1x h with h | h
        · omega
        · have := hinv0.key_lt h; omega
      · omega
    have hnl : w.heap.size ≠ l := by omega
    have hD1 : w.heap.size ∉ (H1 x0).keys := fun h => by
      rcases hk1x h with h | h
      · omega
      · have := hinv0.key_lt h; omega
    refine ⟨M3, lm, evB, hin2, i4, hc.size, ?_, fun i => (hc.env i).mono ev.sub⟩
    obtain ⟨Ds, g1, g2, g3⟩ := hc.defers
    have hlt : ∀ D ∈ Ds, D < w.heap.size := fun D hD => (Array.getElem?_eq_some_iff.1 (g3 D hD).1).1
    refine ⟨w.heap.size :: Ds, by rw [g1]; rfl, List.nodup_cons.2 ⟨fun h => by have := hlt _ h; omega, g2⟩, fun D hD => ?_⟩
    rcases List.mem_cons.1 hD with rfl | hD
    · refine ⟨(World.putObj_heap_other hnl).trans ((ev.block _ (by omega) hD1).trans hk1), hc.evo.size, hDk⟩
    · have h1 := hlt D hD
      obtain ⟨k1, k2, k3⟩ := g3 D hD
      have hDn : D ∉ (H1 x0).keys := fun h => by
        rcases hk1x h with h | h
        · omega
        · exact k3 h
      refine ⟨(World.putObj_heap_other (by omega)).trans ((ev.block _ (by omega) hDn).trans ((hold D h1).trans k1)), k2, fun h => ?_⟩
      rcases hk3 D h with h | h
      · exact hDn h
      · omega
  refine ⟨l, [markOf w.heap.size], W1, { target := .fn (.func f) cvs.toArray, args := #[.func (.yield l) #[] #[]] }, W1, f, (.func (.yield l) #[] #[] :: cvs).toArray, W1, ?_, ?_, fun f' _ => trivial, ?_, (fun h => by cases h), callsIn_wide.2 (Calls.mono hcall ?_)⟩
  · have := run_enterLoop_outer (P := P) (w := w) fn a.tmps ps assign body
    rw [hl, ← hW1, hrec]
    exact this
  · simp only [resolve, hgv]
    simp [go_sem]
  · have h2 := he (.func (.yield l) #[] #[] :: cvs).toArray W1
    have e1 : (#[Value.func (.yield l) #[] #[]] ++ cvs.toArray) = (.func (.yield l) #[] #[] :: cvs).toArray := by
      apply Array.ext'; simp
    simp only [invoke]
    rw [e1]
    exact h2
  · rintro e w3 ⟨v, rfl, M3, r, H3, ev, hI3, hk3, _, hpost⟩
    rcases hpost with ⟨x, hx, rfl⟩ | ⟨e, y, hj, hy, rfl⟩
    · rw [hH1] at hI3
      obtain ⟨_, _, hl3⟩ := hI3.obj l _ List.mem_cons_self
      have hrun := run_endLoop (P := P) hl3 (by rw [hrec]; simp)
      refine ⟨_, _, hrun, ?_⟩
      rw [show (rec .ready none).pending = none by rw [hrec]]
      exact ⟨_, after _ _ _ _ _ ev hI3 (fun b hb => hk3 b (by rw [hH1]; exact List.mem_cons_of_mem _ hb)), done x hx⟩
    · rw [hHS] at hI3
      obtain ⟨_, _, hl3⟩ := hI3.obj l _ List.mem_cons_self
      have hrun := run_endLoop (P := P) hl3 (by rw [hrec]; simp)
      refine ⟨_, _, hrun, ?_⟩
      have hc3 := fun o' => after _ _ _ _ o' ev hI3 (fun b hb => hk3 b (by rw [hHS]; exact List.mem_cons_of_mem _ hb))
      rw [show (rec .done (jumpOf e)).pending = jumpOf e by rw [hrec]]
      cases e with
      | ret => exact wpIn_ret ⟨_, hc3 _, stop _ _ hy⟩
      | exit id => exact wpIn_exit ⟨_, hc3 _, stop _ _ hy⟩
      | _ => cases hj
end
end Go.Proofs.YtaldgcnhmnfocaaDoor

/-
  The abstract machine: a range over a function whose row is drawn on the way; calls of a loop's body beside other objects. No condition.
-/
namespace Go.Proofs.YtaldgcnhmnfocaaDoor
open Go.RowKit

/-- a body's call beside an object -/
theorem RCon.under {P : Program} {l : Nat} {args : List AV} {H : Heap} {Q : AV → Heap → Prop} (p : Nat × AObj) (h : RCon P l args H Q) : RCon P l args (p :: H) fun r H' => ∃ H0, H' = p :: H0 ∧ Q r H0 := by
  intro n M w vs h0 h1 h2
  have hp : (p :: H).Perm (H ++ [p]) := (List.perm_append_comm (l₁ := [p]) (l₂ := H))
  have hsub : ∀ b ∈ H.keys, b ∈ Heap.keys (p :: H) := fun b hb => List.mem_cons_of_mem _ hb
  refine yield_mono (h n M w vs (h0.sub hsub) (h1.sub (List.sublist_cons_self _ _)) h2) ?_
  rintro e w' ⟨v, he, M', r, H', a, b, c, d, q⟩
  have hI : Inv M' (H' ++ [p]) w' := (h1.perm hp).frame b a c
  refine ⟨v, he, M', r, p :: H', a.mono hsub, hI.perm (List.perm_append_comm (l₁ := H') (l₂ := [p])), fun k hk => ?_, d, H', rfl, q⟩
  rcases List.mem_cons.1 hk with rfl | hk
  · exact Or.inl List.mem_cons_self
  · exact (c k hk).imp (hsub k) id
/-- what a function that is ranged over does, if the row is drawn on the way; R: what it needs of the objects -/
def IterS (P : Program) (f : FuncId) (caps : List AV) (nx : List (List AV) → List AV → Prop) (fin : List (List AV) → Prop) (R : Heap → Prop) : Prop :=
  ∀ (l : Nat) (I : List (List AV) → Heap → Prop) (S : Heap → Prop), (∀ d H, I d H → R H) → (∀ d args H, nx d args → I d H → RCon P l args H fun r H' => (r = .b true ∧ I (d ++ [args]) H') ∨ (r = .b false ∧ S H')) →
    ∀ H, I [] H → Con P f (.fn (.yield l) [] :: caps) H fun _ H' => (∃ d, fin d ∧ I d H') ∨ S H'
section
variable {P : Program} {tab : Tab} {esc : Nat → Bool} {N : Nat} {a b c : Code} {Q : Exit → St → Prop} {s t : St}
/-- A RANGE OVER A FUNCTION whose row is drawn on the way -/
theorem sem_rangeS {X Y : Type} {g : Operand} {ps : Array Tmp} {assign body : Code} {f : FuncId} {caps : List AV} {nx : List (List AV) → List AV → Prop} {fin : List (List AV) → Prop} {R : Heap → Prop} (hP : TabOk P tab) (hm : P.follows .mixedOrders = true) (he : ∀ args w, (callFunc f args).run P w = .ok (.enter f args) w) (hit : IterS P f caps nx fin R)
    (e0 : Env) (hp : X → Heap) (J : List (List AV) → X → Prop) (hpS : Y → Heap) (JS : Exit → Y → Prop) (hg : e0.ev g = .g (.fn (.func f) caps)) (hlen : ∀ d args, nx d args → args.length = ps.size) (hR : ∀ d x, J d x → R (hp x)) (hRc : ∀ p H, R H → R (p :: H))
    (h0 : ∃ x, J [] x ∧ Env.le s.e e0 ∧ HLe s.H (hp x))
    (round : ∀ i args x, nx i args → J i x → (∀ a ∈ args, Wf a) → (hp x).keys.Nodup → awp P tab esc N assign (fun e s' => match e with
      | .normal => awp P tab esc N body (fun e s'' => match e with
        | .normal => ∃ y, J (i ++ [args]) y ∧ HLe s''.H (hp y)
        | .ret => ∃ y, JS .ret y ∧ HLe s''.H (hpS y)
        | .exit id => ∃ y, JS (.exit id) y ∧ HLe s''.H (hpS y)
        | _ => False) s'
      | _ => False) ⟨bindEnv (ps.toList.zip args) e0, [], hp x⟩)
    (done : ∀ d x, fin d → J d x → Q .normal ⟨e0, [], hp x⟩) (stop : ∀ e y, JS e y → Q e ⟨e0, [], hpS y⟩) : sem P N (.rangeFunc g ps assign body) Q s := by
  intro hs B a w hc
  simp only [slotsOk, Bool.and_eq_true] at hs
  obtain ⟨⟨hs0, hs1⟩, hs2⟩ := hs
  have hps : ∀ p ∈ ps.toList, p < N := fun p hp => by
    have := List.all_eq_true.1 hs0 p hp
    rwa [Nat.blt_eq] at this
  obtain ⟨x0, hx0, hle1, hle2⟩ := h0
  obtain ⟨M, lm, hc⟩ := (Conc.le (s := s) (t := ⟨e0, [], s.H⟩) ⟨hle1, by simp [Loc.w], List.Sublist.refl _⟩ hc).hle hle2
  have hgv := hc.ev g
  rw [show (St.mk e0 [] (hp x0)).e.ev g = .g (.fn (.func f) caps) from hg] at hgv
  simp only [repX, rep] at hgv
  obtain ⟨cvs, hgv, hcaps⟩ := hgv
  refine (wpIn_wide (n := 0)).1 (wpIn_rangeFunc ?_)
  intro fn _
  have hinv0 : Inv M (hp x0) w := hc.inv
  obtain ⟨rec, hrec⟩ : ∃ rec : LoopState → Option Code → Loop, rec = fun st pe => { state := st, pending := pe, fn, tmps := a.tmps, params := ps, assign, body, defers := w.heap.size } := ⟨_, rfl⟩
  obtain ⟨l, hl⟩ : ∃ l, l = w.heap.size + 1 := ⟨_, rfl⟩
  obtain ⟨W1, hW1⟩ : ∃ W1, (w.alloc (.deferred (some []))).alloc (.loop (rec .ready none)) = W1 := ⟨_, rfl⟩
  have hl1 : W1.heap[l]? = some (.loop (rec .ready none)) := by
    rw [hl, ← hW1]
    have := World.alloc_heap_new (w.alloc (.deferred (some []))) (.loop (rec .ready none))
    rwa [World.size_alloc] at this
  have hk1 : W1.heap[w.heap.size]? = some (.deferred (some [])) := by
    rw [← hW1]
    exact (Below.heap_alloc _ _ _ (by simp)).trans (World.alloc_heap_new w _)
  have hold : ∀ k, k < w.heap.size → W1.heap[k]? = w.heap[k]? := fun k hk => by
    rw [← hW1]
    exact (Below.heap_alloc _ _ _ (by simp; omega)).trans (Below.heap_alloc _ _ _ hk)
  have e01 : Evo [] M w M W1 := by
    refine ⟨by rw [← hW1]; rfl, by rw [← hW1]; rfl, by rw [← hW1]; rfl, by rw [← hW1]; simp; omega, fun k hk _ => hold k hk, Mem.le.refl M, fun _ _ _ h => Or.inl h⟩
  have hI1 : Inv M (hp x0) W1 := hinv0.evo0 e01 fun b o v hv => by
    rw [← hinv0.mem b o v hv]
    simp only [World.cell?, hold b (hinv0.lt hv)]
  have hMl : ∀ o, M l o = none := fun o => by
    cases hv : M l o with
    | none => rfl
    | some v => have := hinv0.lt hv; omega
  obtain ⟨H1, hH1⟩ : ∃ H1 : X → Heap, H1 = fun x => (l, AObj.raw (.loop (rec .ready none)) M) :: hp x := ⟨_, rfl⟩
  obtain ⟨HS, hHS⟩ : ∃ HS : Exit → Y → Heap, HS = fun e y => (l, AObj.raw (.loop (rec .done (jumpOf e))) M) :: hpS y := ⟨_, rfl⟩
  have hk1x : ∀ {b : Nat} {x : X}, b ∈ (H1 x).keys → b = l ∨ b ∈ (hp x).keys := fun {b x} h => by
    rw [hH1] at h
    exact List.mem_cons.1 h
  have addRaw : ∀ {M' : Mem} {H : Heap} {w' : World} {o : Obj}, Inv M' H w' → l ∉ H.keys → (∀ q, M' l q = none) → M.le M' → w'.heap[l]? = some o → Inv M' ((l, AObj.raw o M) :: H) w' := by
    intro M' H w' o h1 h2 h3 h4 h5
    refine ⟨h1.mem, fun b x hx => ?_, ?_⟩
    · rcases List.mem_cons.1 hx with hx | hx
      · cases hx
        exact ⟨h3, h4, h5⟩
      · exact h1.obj b x hx
    · show (l :: H.keys).Nodup
      exact List.nodup_cons.2 ⟨h2, h1.nodup⟩
  have hl0 : l ∉ (hp x0).keys := fun h => by have := hinv0.key_lt h; omega
  have hI1' : Inv M (H1 x0) W1 := by rw [hH1]; exact addRaw hI1 hl0 hMl (Mem.le.refl M) hl1
  -- a round
  have rounds : ∀ i args H, nx i args → (∃ x, J i x ∧ H = H1 x) → RCon P l args H fun r H' => (r = .b true ∧ ∃ x, J (i ++ [args]) x ∧ H' = H1 x) ∨ (r = .b false ∧ ∃ e y, (jumpOf e).isSome = true ∧ JS e y ∧ H' = HS e y) := by
    rintro i args _ hi ⟨x, hx, rfl⟩ n' M1 w1 vs hG1 hInv hargs
    have hlG : nG ≤ l := hG1.2.2 l (by rw [hH1]; exact List.mem_cons_self)
    have hGx : GW w1 ∧ nG ≤ w1.heap.size ∧ ∀ k ∈ (hp x).keys, nG ≤ k := ⟨hG1.1, hG1.2.1, fun k hk => hG1.2.2 k (by rw [hH1]; exact List.mem_cons_of_mem _ hk)⟩
    have hGp : ∀ o, GW (w1.putObj l o) ∧ nG ≤ (w1.putObj l o).heap.size ∧ ∀ k ∈ (hp x).keys, nG ≤ k := fun o => ⟨hGx.1.keep fun k hk => World.putObj_heap_other (by omega), by rw [World.putObj_size]; exact hGx.2.1, hGx.2.2⟩
    rw [hH1] at hInv
    obtain ⟨hn1, hM1, hlw⟩ := hInv.obj l (.raw (.loop (rec .ready none)) M) (by simp)
    have hIt : Inv M1 (hp x) w1 := hInv.sub (List.sublist_cons_self _ _)
    have hlk : l ∉ (hp x).keys := by
      have := hInv.nodup
      exact (List.nodup_cons.1 this).1
    have hllt : l < w1.heap.size := (Array.getElem?_eq_some_iff.1 hlw).1
    have hvl : vs.length = ps.size := by rw [hargs.length]; exact hlen _ args hi
    have hy := run_yield (P := P) (args := vs.toArray) hlw (by rw [hrec]; simpa using hvl)
    rw [hrec] at hy
    refine ⟨fn, _, assign, body, hy, roundIn_of_wpIn trivial ?_⟩
    have hfold : (ps.zip vs.toArray).foldl (fun tmps (t, a) => tmps.setIfInBounds t a) a.tmps = (ps.toList.zip vs).foldl (fun (t : Array Value) (q : Tmp × Value) => t.setIfInBounds q.1 q.2) a.tmps := by
      rw [← Array.foldl_toList, Array.toList_zip]
    obtain ⟨b1, b2⟩ := bind_env (ps := ps.toList) (e := e0) (t := a.tmps) (lm := lm) hargs hps hc.size fun i => (hc.env i).mono hM1
    have hca : ConcAt ⟨(hp x).keys, M1, w1, hGx⟩ N M1 lm ⟨bindEnv (ps.toList.zip args) e0, [], hp x⟩ { tmps := (ps.zip vs.toArray).foldl (fun tmps (t, a) => tmps.setIfInBounds t a) a.tmps, defers := [] } w1 :=
      ⟨Evo.refl _ _ _, fun b hb => Or.inl hb, hIt, by rw [hfold]; exact b1, Marked.nil, by rw [hfold]; exact b2⟩
    refine wpIn_mono (awp_sound (ρ := some l) hP hm assign _ _ _ _ hs1 (round i args x hi hx (fun y hy => Wf.tup.key hargs hy) hIt.nodup) ⟨M1, lm, hca⟩) ?_
    rintro e a2 w2 ⟨s2, ⟨M2, lm2, hc2⟩, hq2⟩
    cases e with
    | normal =>
      have hl2 : w2.heap[l]? = some (.loop (rec .ready none)) := (hc2.evo.block l hllt hlk).trans hlw
      refine ⟨_, run_beginRound hl2 (by rw [hrec]), ?_⟩
      have hlk2 : l ∉ Heap.keys (lheap lm2 s2.L ++ s2.H) := fun h => by
        rcases hc2.keys l h with h | h
        · exact hlk h
        · exact absurd hllt (by simp only at h; omega)
      obtain ⟨i2, _⟩ := hc2.inv.putObj (y := .loop { rec .ready none with state := .busy }) hlk2 hl2 (cell_loop hl2)
      have eB : Evo [l] M1 w1 M1 (w1.putObj l (.loop { rec .ready none with state := .busy })) := (hIt.putObj hlk hlw (cell_loop hlw)).2
      have hcb : ConcAt ⟨(hp x).keys, M1, w1.putObj l (.loop { rec .ready none with state := .busy }), hGp _⟩ N M2 lm2 s2 a2 (w2.putObj l (.loop { rec .ready none with state := .busy })) := by
        refine ⟨⟨hc2.evo.os, hc2.evo.tape, hc2.evo.output, by simpa using hc2.evo.size, fun k hk hn => ?_, hc2.evo.sub, fun b o v h => by simpa using hc2.evo.new b o v h⟩, fun b hb => by simpa using hc2.keys b hb, i2, hc2.size, ?_, hc2.env⟩
        · by_cases hkl : k = l
          · subst hkl
            rw [World.putObj_heap_same (Array.getElem?_eq_some_iff.1 hl2).1, World.putObj_heap_same hllt]
          · exact (World.putObj_heap_other hkl).trans ((hc2.evo.block k (by simpa using hk) hn).trans (World.putObj_heap_other hkl).symm)
        · obtain ⟨Ds, g1, g2, g3⟩ := hc2.defers
          refine ⟨Ds, g1, g2, fun D hD => ?_⟩
          obtain ⟨k1, k2, k3⟩ := g3 D hD
          refine ⟨(World.putObj_heap_other ?_).trans k1, by simpa using k2, k3⟩
          rintro rfl
          rw [hl2] at k1; cases k1
      refine wpIn_mono (awp_sound (ρ := some l) hP hm body _ s2 a2 _ hs2 hq2 ⟨M2, lm2, hcb⟩) ?_
      -- a round's end
      have finR : ∀ (Hy : Heap) (w3 : World) (a3 : Act) (st : LoopState) (pe : Option Code) (q : Bool) (hq : (AV.b q = .b true ∧ ∃ x, J (i ++ [args]) x ∧ (l, AObj.raw (.loop (rec st pe)) M) :: Hy = H1 x) ∨ (AV.b q = .b false ∧ ∃ e y, (jumpOf e).isSome = true ∧ JS e y ∧ (l, AObj.raw (.loop (rec st pe)) M) :: Hy = HS e y)),
          Conc ⟨(hp x).keys, M1, w1.putObj l (.loop { rec .ready none with state := .busy }), hGp _⟩ N ⟨[], [], Hy⟩ a3 w3 → w3.heap[l]? = some (.loop (rec .busy none)) ∧ ∃ v, Ending.returned (.bool q) = .returned v ∧
            ∃ M' r H', Evo (H1 x).keys M1 w1 M' (w3.putObj l (.loop (rec st pe))) ∧ Inv M' H' (w3.putObj l (.loop (rec st pe))) ∧ (∀ b ∈ H'.keys, b ∈ (H1 x).keys ∨ w1.heap.size ≤ b) ∧ rep M' r v ∧ ((r = .b true ∧ ∃ x, J (i ++ [args]) x ∧ H' = H1 x) ∨ (r = .b false ∧ ∃ e y, (jumpOf e).isSome = true ∧ JS e y ∧ H' = HS e y)) := by
        rintro Hy w3 a3 st pe q hq ⟨M3, lm3, hc3⟩
        have hl3 : w3.heap[l]? = some (.loop (rec .busy none)) := by
          refine (hc3.evo.block l (by simpa using hllt) hlk).trans ?_
          rw [World.putObj_heap_same hllt, hrec]
        have hI3 : Inv M3 Hy w3 := hc3.inv
        have hlk3 : l ∉ Hy.keys := fun h => by
          rcases hc3.keys l h with h | h
          · exact hlk h
          · simp only [World.putObj_size] at h; omega
        have hM3 : ∀ o, M3 l o = none := fun o => by
          cases hv : M3 l o with
          | none => rfl
          | some v =>
            rcases hc3.evo.new l o v hv with h | h | h
            · simp only at h; rw [hn1 o] at h; cases h
            · exact absurd h hlk
            · simp only [World.putObj_size] at h; omega
        obtain ⟨i3, e3⟩ := hI3.putObj (y := .loop (rec st pe)) hlk3 hl3 (cell_loop hl3)
        have hIn : ∀ b ∈ (hp x).keys, b ∈ (H1 x).keys := fun b hb => by rw [hH1]; exact List.mem_cons_of_mem _ hb
        have hlH : l ∈ (H1 x).keys := by rw [hH1]; exact List.mem_cons_self
        refine ⟨hl3, _, rfl, M3, .b q, _, ?_, addRaw i3 hlk3 hM3 (fun b o v h => hc3.evo.sub b o v (hM1 b o v h)) (World.putObj_heap_same (Array.getElem?_eq_some_iff.1 hl3).1), fun b hb => ?_, rep_b, hq⟩
        · refine Evo.trans (K := (H1 x).keys) (K' := [l]) (Evo.trans (K' := (hp x).keys) (eB.mono (fun b hb => ?_)) hc3.evo fun b hb => Or.inl (hIn b hb)) e3 fun b hb => ?_
          · obtain rfl : b = l := by simpa using hb
            exact hlH
          · obtain rfl : b = l := by simpa using hb
            exact Or.inl hlH
        · rcases List.mem_cons.1 hb with rfl | hb
          · exact Or.inl hlH
          · exact (hc3.keys b hb).imp (hIn b) fun h => by simpa using h
      rintro e a3 w3 ⟨s3, hc3, hq3⟩
      cases e with
      | normal =>
        obtain ⟨y, hy, hle3⟩ := hq3
        obtain ⟨hl3, h3⟩ := finR (hp y) w3 a3 .ready none true (Or.inl ⟨rfl, y, hy, by rw [hH1]⟩) ((Conc.le (s := s3) (t := ⟨[], [], s3.H⟩) ⟨trivial, by simp [Loc.w], List.Sublist.refl _⟩ hc3).hle hle3)
        refine ⟨.bool true, w3.putObj l (.loop (rec .ready none)), ?_, h3⟩
        rw [run_endRound none hl3, hrec]
        rfl
      | ret =>
        obtain ⟨y, hy, hle3⟩ := hq3
        obtain ⟨hl3, h3⟩ := finR (hpS y) w3 a3 .done (some .ret) false (Or.inr ⟨rfl, .ret, y, rfl, hy, by rw [hHS]; rfl⟩) ((Conc.le (s := s3) (t := ⟨[], [], s3.H⟩) ⟨trivial, by simp [Loc.w], List.Sublist.refl _⟩ hc3).hle hle3)
        refine ⟨.bool false, w3.putObj l (.loop (rec .done (some .ret))), ?_, h3⟩
        rw [run_endRound (some .ret) hl3, hrec]
        rfl
      | exit id =>
        obtain ⟨y, hy, hle3⟩ := hq3
        obtain ⟨hl3, h3⟩ := finR (hpS y) w3 a3 .done (some (.exit id)) false (Or.inr ⟨rfl, .exit id, y, rfl, hy, by rw [hHS]; rfl⟩) ((Conc.le (s := s3) (t := ⟨[], [], s3.H⟩) ⟨trivial, by simp [Loc.w], List.Sublist.refl _⟩ hc3).hle hle3)
        refine ⟨.bool false, w3.putObj l (.loop (rec .done (some (.exit id)))), ?_, h3⟩
        rw [run_endRound (some (.exit id)) hl3, hrec]
        rfl
      | goto t => exact hq3.elim
      | panic ch => exact hq3.elim
      | outgrown => exact hq3.elim
    | _ => exact hq2.elim
  -- the call
  have hcall := hit l (fun i H => ∃ x, J i x ∧ H = H1 x) (fun H => ∃ e y, (jumpOf e).isSome = true ∧ JS e y ∧ H = HS e y) (by rintro d H ⟨x, hx, rfl⟩; rw [hH1]; exact hRc _ _ (hR d x hx)) rounds (H1 x0) ⟨x0, hx0, rfl⟩ M W1 (.func (.yield l) #[] #[] :: cvs) (GH.step hc.gh (fun k hk => hold k (Nat.lt_of_lt_of_le hk hc.gh.2.1)) e01.size fun b hb => (hk1x hb).elim (fun h => Or.inr (by omega)) Or.inl) hI1' (by
    simp only [repT]
    exact ⟨_, _, rfl, by simp [rep, repT], hcaps⟩)
  rw [he] at hcall
  have hcall : Calls P f (.func (.yield l) #[] #[] :: cvs).toArray W1 _ := hcall
  -- behind the call
  have after : ∀ (Hx : Heap) (M3 : Mem) (w3 : World) (o o' : Loop), Evo (H1 x0).keys M W1 M3 w3 → Inv M3 ((l, AObj.raw (.loop o) M) :: Hx) w3 → (∀ b ∈ Hx.keys, b ∈ (H1 x0).keys ∨ W1.heap.size ≤ b) → Conc B N ⟨e0, [], Hx⟩ { a with defers := [markOf w.heap.size] ++ a.defers } (w3.putObj l (.loop o')) := by
    intro Hx M3 w3 o o' ev hI3 hk3
    obtain ⟨_, hM3, hl3⟩ := hI3.obj l _ List.mem_cons_self
    have hlk3 : l ∉ Hx.keys := (List.nodup_cons.1 hI3.nodup).1
    obtain ⟨i4, e4⟩ := (hI3.sub (List.sublist_cons_self _ _)).putObj (y := .loop o') hlk3 hl3 (cell_loop hl3)
    have hsz1 : W1.heap.size = w.heap.size + 2 := by rw [← hW1]; simp
    have hin1 : ∀ b ∈ (H1 x0).keys, b ∈ B.K ∨ B.w.heap.size ≤ b := fun b hb => by
      rcases hk1x hb with rfl | hb
      · have := hc.evo.size; right; omega
      · exact hc.keys b hb
    have hin2 : ∀ b ∈ Hx.keys, b ∈ B.K ∨ B.w.heap.size ≤ b := fun b hb => by
      rcases hk3 b hb with h | h
      · exact hin1 b h
      · have := hc.evo.size; right; omega
    have evB : Evo B.K B.M B.w M3 (w3.putObj l (.loop o')) := by
      refine ((hc.evo.trans e01 (by simp)).trans ev hin1).trans e4 fun b hb => ?_
      obtain rfl : b = l := by simpa using hb
      have := hc.evo.size; right; omega
    have hDk : w.heap.size ∉ Hx.keys := fun h => by
      rcases hk3 _ h with h | h
      · rcases hk1x h with h | h
        · omega
        · have := hinv0.key_lt h; omega
      · omega
    have hnl : w.heap.size ≠ l := by omega
    have hD1 : w.heap.size ∉ (H1 x0).keys := fun h => by
      rcases hk1x h with h | h
      · omega
      · have := hinv0.key_lt h; omega
    refine ⟨M3, lm, evB, hin2, i4, hc.size, ?_, fun i => (hc.env i).mono ev.sub⟩
    obtain ⟨Ds, g1, g2, g3⟩ := hc.defers
    have hlt : ∀ D ∈ Ds, D < w.heap.size := fun D hD => (Array.getElem?_eq_some_iff.1 (g3 D hD).1).1
    refine ⟨w.heap.size :: Ds, by rw [g1]; rfl, List.nodup_cons.2 ⟨fun h => by have := hlt _ h; omega, g2⟩, fun D hD => ?_⟩
    rcases List.mem_cons.1 hD with rfl | hD
    · refine ⟨(World.putObj_heap_other hnl).trans ((ev.block _ (by omega) hD1).trans hk1), hc.evo.size, hDk⟩
    · have h1 := hlt D hD
      obtain ⟨k1, k2, k3⟩ := g3 D hD
      have hDn : D ∉ (H1 x0).keys := fun h => by
        rcases hk1x h with h | h
        · omega
        · exact k3 h
      refine ⟨(World.putObj_heap_other (by omega)).trans ((ev.block _ (by omega) hDn).trans ((hold D h1).trans k1)), k2, fun h => ?_⟩
      rcases hk3 D h with h | h
      · exact hDn h
      · omega
  refine ⟨l, [markOf w.heap.size], W1, { target := .fn (.func f) cvs.toArray, args := #[.func (.yield l) #[] #[]] }, W1, f, (.func (.yield l) #[] #[] :: cvs).toArray, W1, ?_, ?_, fun f' _ => trivial, ?_, (fun h => by cases h), callsIn_wide.2 (Calls.mono hcall ?_)⟩
  · have := run_enterLoop_outer (P := P) (w := w) fn a.tmps ps assign body
    rw [hl, ← hW1, hrec]
    exact this
  · simp only [resolve, hgv]
    simp [go_sem]
  · have h2 := he (.func (.yield l) #[] #[] :: cvs).toArray W1
    have e1 : (#[Value.func (.yield l) #[] #[]] ++ cvs.toArray) = (.func (.yield l) #[] #[] :: cvs).toArray := by
      apply Array.ext'; simp
    simp only [invoke]
    rw [e1]
    exact h2
  · rintro e w3 ⟨v, rfl, M3, r, H3, ev, hI3, hk3, _, hpost⟩
    rcases hpost with ⟨d, hd, x, hx, rfl⟩ | ⟨e, y, hj, hy, rfl⟩
    · rw [hH1] at hI3
      obtain ⟨_, _, hl3⟩ := hI3.obj l _ List.mem_cons_self
      have hrun := run_endLoop (P := P) hl3 (by rw [hrec]; simp)
      refine ⟨_, _, hrun, ?_⟩
      rw [show (rec .ready none).pending = none by rw [hrec]]
      exact ⟨_, after _ _ _ _ _ ev hI3 (fun b hb => hk3 b (by rw [hH1]; exact List.mem_cons_of_mem _ hb)), done d x hd hx⟩
    · rw [hHS] at hI3
      obtain ⟨_, _, hl3⟩ := hI3.obj l _ List.mem_cons_self
      have hrun := run_endLoop (P := P) hl3 (by rw [hrec]; simp)
      refine ⟨_, _, hrun, ?_⟩
      have hc3 := fun o' => after _ _ _ _ o' ev hI3 (fun b hb => hk3 b (by rw [hHS]; exact List.mem_cons_of_mem _ hb))
      rw [show (rec .done (jumpOf e)).pending = jumpOf e by rw [hrec]]
      cases e with
      | ret => exact wpIn_ret ⟨_, hc3 _, stop _ _ hy⟩
      | exit id => exact wpIn_exit ⟨_, hc3 _, stop _ _ hy⟩
      | _ => cases hj
end
end Go.Proofs.YtaldgcnhmnfocaaDoor

/-
  The abstract machine: a loop whose round is told of frames and worlds. No condition.
-/
namespace Go.Proofs.YtaldgcnhmnfocaaDoor
open Go.RowKit

section
variable {P : Program} {tab : Tab} {esc : Nat → Bool} {N : Nat} {a b c : Code} {Q : Exit → St → Prop} {s t : St}
theorem sem_loop {X : Type} (st : X → St) (I : X → Prop) (μ : X → Nat) (h0 : ∃ x, I x ∧ St.le s (st x)) (round : ∀ x, I x → sem P N c (fun e s' => match e with
    | .normal => ∃ x', I x' ∧ μ x' < μ x ∧ St.le s' (st x')
    | e => Q e s') (st x)) : sem P N (.loop c) Q s := fun hs B ac w hc => by
  obtain ⟨x0, hx0, hle⟩ := h0
  refine wp_loop_ghost (fun n a w => ∃ x, I x ∧ μ x = n ∧ Conc B N (st x) a w) (μ x0) ⟨x0, hx0, rfl, hc.le hle⟩ ?_
  rintro n a' w' ⟨x, hx, rfl, hcx⟩
  refine wp_mono (round x hx hs B a' w' hcx) ?_
  rintro e a2 w2 ⟨s', h1, h2⟩
  cases e with
  | normal =>
    obtain ⟨x', k1, k2, k3⟩ := h2
    exact ⟨μ x', k2, x', k1, rfl, h1.le k3⟩
  | _ => exact ⟨s', h1, h2⟩
theorem sem_skip (h : Q .normal s) : sem P N .skip Q s := fun _ _ _ _ hc => wp_skip ⟨s, hc, h⟩
end
end Go.Proofs.YtaldgcnhmnfocaaDoor
