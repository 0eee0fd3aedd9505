/-
  Texts put together: B10, B11, B12, B13, B14, B15, B16, B17, B18, B19. No condition.
-/
import Derived.Test.YtahdkhklngjmoaaGreatDoorM3
import Derived.Deep.LoopGhost
import Derived.Recover
/-
  The abstract machine: a code told of frames and worlds, where a state may be weakened between statements, and ways may join. No condition.
-/
namespace Go.Proofs.YtahdkhklngjmoaaGreatDoor
open Go.RowKit

section
variable {P : Pr} {tab : Tab} {esc : Nat → Bool} {N : Nat} {a b c : Code} {Q : Exit → St → Prop} {s t : St}
/-- a code, from every frame and world that fit a state -/
def sem (P : Pr) (N : Nat) (c : Code) (Q : Exit → St → Prop) (s : St) : Prop := slotsOk N c = true → ∀ (B : Base) (a : Act) (w : World), Conc B N s a w → c.wp P (QC P B N Q) a w
theorem sem_of (hP : TabOk P tab) (hm : P.p.follows .mixedOrders = true) (h : awp P tab esc N c Q s) : sem P N c Q s := fun hs _ a w hc => awp_wp hP hm c Q s a w hs h hc
theorem sem_le (t : St) (h : St.le s t) (k : sem P N c Q t) : sem P N c Q s := fun hs B a w hc => k hs B a w (hc.le h)
theorem sem_seq (hP : TabOk P tab) (hm : P.p.follows .mixedOrders = true) (h : awp P tab esc N a (fun x s' => match x with
    | .normal => sem P N b Q s'
    | x => Q x s') s) : sem P N (.seq a b) Q s := fun hs B ac w hc => by
  simp only [slotsOk, Bool.and_eq_true] at hs
  refine wp_seq (wp_mono (awp_wp hP hm a _ s ac w hs.1 h hc) ?_)
  rintro e a' w' (⟨s', h1, h2⟩ | hx)
  rotate_left
  · obtain ⟨ch, rfl, hx⟩ := hx.panic
    exact Or.inr hx
  cases e with
  | normal => exact h2 hs.2 B a' w' h1
  | _ => exact Or.inl ⟨s', h1, h2⟩
/-- ways that join: behind a the state fits one of these -/
theorem sem_join (hP : TabOk P tab) (hm : P.p.follows .mixedOrders = true) {X : Type} (st : X → St) (I : X → Prop) (h : awp P tab esc N a (fun x s' => match x with
    | .normal => ∃ y, I y ∧ St.le s' (st y)
    | x => Q x s') s) (k : ∀ y, I y → sem P N b Q (st y)) : sem P N (.seq a b) Q s := fun hs B ac w hc => by
  simp only [slotsOk, Bool.and_eq_true] at hs
  refine wp_seq (wp_mono (awp_wp hP hm a _ s ac w hs.1 h hc) ?_)
  rintro e a' w' (⟨s', h1, h2⟩ | hx)
  rotate_left
  · obtain ⟨ch, rfl, hx⟩ := hx.panic
    exact Or.inr hx
  cases e with
  | normal =>
    obtain ⟨y, k1, k2⟩ := h2
    exact k y k1 hs.2 B a' w' (h1.le k2)
  | _ => exact Or.inl ⟨s', h1, h2⟩

theorem con_of_sem {P : Program} {f : FuncId} {fn : Func} {c : Code} (hP : TabOk P tab) (hf : P.funcs[f]? = some fn) (hb : fn.body = some c) (he : ∀ args w, (callFunc f args).run P w = .ok (.enter f args) w) {args : List AV} {H : Heap} {Q : AV → Heap → Prop}
    (hs : (slotsOk fn.ntmps c && Nat.ble args.length fn.ntmps) = true) (h : (∀ x ∈ args, Wf x) → H.keys.Nodup → sem ⟨P, none, 0⟩ fn.ntmps c (aEnd tab fn Q) ⟨initEnv 0 args, [], H⟩) : Con P f args H Q :=
  con_of_conc hP hf hb he hs fun h1 h2 B a w hc => h h1 h2 (by rw [Bool.and_eq_true] at hs; exact hs.1) B a w hc
end
end Go.Proofs.YtahdkhklngjmoaaGreatDoor

/-
  The abstract machine: memory that turned, and turns no more. No condition.
-/
namespace Go.Proofs.YtahdkhklngjmoaaGreatDoor
open Go.RowKit

/-- a slice of memory that may turn -/
def hs (b n cap : Nat) : AV := .v (.slice (some ⟨b, 0, none⟩) n cap)
/-- in a memory: what stands for x stands for y -/
def LeM (M : Mem) (x y : AV) : Prop := ∀ u, rep M x u → rep M y u
def LeLM (M : Mem) : List AV → List AV → Prop
  | [], [] => True
  | x :: xs, y :: ys => LeM M x y ∧ LeLM M xs ys
  | _, _ => False
theorem Le.m {x y : AV} (h : Le x y) (M : Mem) : LeM M x y := h M
theorem LeM.refl {M : Mem} (x : AV) : LeM M x x := fun _ h => h
theorem LeLM.refl {M : Mem} : ∀ xs : List AV, LeLM M xs xs
  | [] => trivial
  | x :: xs => ⟨LeM.refl x, LeLM.refl xs⟩
theorem LeM.trans {M : Mem} {x y z : AV} (h : LeM M x y) (k : LeM M y z) : LeM M x z := fun u hu => k u (h u hu)
theorem LeLM.repC {M : Mem} : ∀ {xs ys : List AV} {cs : List Value}, LeLM M xs ys → Go.Proofs.YtahdkhklngjmoaaGreatDoor.repC M xs cs → Go.Proofs.YtahdkhklngjmoaaGreatDoor.repC M ys cs
  | [], [], _, _, h => h
  | x :: xs, y :: ys, cs, hl, h => by
    simp only [Proofs.YtahdkhklngjmoaaGreatDoor.repC] at h ⊢
    obtain ⟨c, cs', e, ⟨h1, h2⟩, h3⟩ := h
    exact ⟨c, cs', e, ⟨h1, hl.1 _ h2⟩, LeLM.repC hl.2 h3⟩
  | [], _ :: _, _, hl, _ => hl.elim
  | _ :: _, [], _, hl, _ => hl.elim
theorem LeLM.repT {M : Mem} : ∀ {xs ys : List AV} {cs : List Value}, LeLM M xs ys → Go.Proofs.YtahdkhklngjmoaaGreatDoor.repT M xs cs → Go.Proofs.YtahdkhklngjmoaaGreatDoor.repT M ys cs
  | [], [], _, _, h => h
  | x :: xs, y :: ys, cs, hl, h => by
    simp only [Proofs.YtahdkhklngjmoaaGreatDoor.repT] at h ⊢
    obtain ⟨c, cs', e, h2, h3⟩ := h
    exact ⟨c, cs', e, hl.1 _ h2, LeLM.repT hl.2 h3⟩
  | [], _ :: _, _, hl, _ => hl.elim
  | _ :: _, [], _, hl, _ => hl.elim
theorem LeM.agg {M : Mem} {xs ys : List AV} (h : LeLM M xs ys) : LeM M (.agg xs) (.agg ys) := fun u hu => by
  simp only [rep] at hu ⊢
  obtain ⟨cs, e, hc⟩ := hu
  exact ⟨cs, e, h.repC hc⟩
theorem LeM.tup {M : Mem} {xs ys : List AV} (h : LeLM M xs ys) : LeM M (.tup xs) (.tup ys) := fun u hu => by
  simp only [rep] at hu ⊢
  obtain ⟨cs, e, hc⟩ := hu
  exact ⟨cs, e, h.repT hc⟩
/-- a slice of cells that stand for ever -/
theorem hs_ice {M : Mem} {b n cap size : Nat} {xs rest : List AV} (h : atL M (xs.flatMap AV.cells ++ rest) b 0) (hn : n = xs.length) (h1 : n ≤ cap) (h2 : cap ≤ maxLen) (hw : wide size xs) : LeM M (hs b n cap) (.sl .no size xs) := fun u hu => by
  subst hn
  have hu' : u = .slice (some ⟨b, 0, none⟩) xs.length cap := by
    unfold hs at hu
    simp only [rep] at hu
    exact hu.1
  simp only [rep]
  exact ⟨_, cap, hu', h1, h2, (fun h => by cases h), hw, trivial, fun _ => ⟨b, 0, rfl, atE.flat.2 (atE.flat.atL.append.1 h).1⟩⟩

/-- an object turns no more -/
theorem inv_ice {M : Mem} {H H0 : Heap} {w : World} (h : Inv M H w) {b : Nat} {cs : List AV} (hrem : Heap.Rem (b, .cells cs) H H0) : ∃ M', Evo H.keys M w M' w ∧ Inv M' H0 w ∧ atL M' cs b 0 := by
  have hp := hrem.perm
  have hI := h.perm hp
  obtain ⟨hnone, vs, T0, hg, hrep⟩ := hI.obj b (.cells cs) (by simp)
  have hnd := hI.nodup
  simp only [Heap.keys, List.map_cons, List.nodup_cons] at hnd
  have hin : b ∈ H.keys := (hp.map (·.1)).mem_iff.2 (by simp)
  have hM : M.le (M.add b vs) := fun b' o v hv => by
    unfold Mem.add
    rw [if_neg]
    · exact hv
    · rintro rfl; rw [hnone o] at hv; cases hv
  have e : Evo [b] M w (M.add b vs) w := ⟨rfl, rfl, rfl, Nat.le_refl _, fun _ _ _ => rfl, hM, fun b' o v hv => by
    unfold Mem.add at hv
    split at hv
    · rename_i hb; subst hb; exact Or.inr (Or.inl (by simp))
    · exact Or.inl hv⟩
  refine ⟨M.add b vs, e.mono (by simpa using hin), ⟨fun b' o v hv => ?_, fun b' x hx => ?_, hnd.2⟩, ?_⟩
  · unfold Mem.add at hv
    split at hv
    · rename_i hb
      subst hb
      simp only [World.cell?, hg]
      simpa using hv
    · exact h.mem b' o v hv
  · have hne : b' ≠ b := by
      rintro rfl
      exact hnd.1 (Heap.mem_keys hx)
    exact (h.obj b' x (hp.mem_iff.2 (List.mem_cons_of_mem _ hx))).keep e (by simpa using hne)
  · refine atL.of_vals (repC.mono hM _ _ hrep) fun j c hj => ?_
    unfold Mem.add
    rw [if_pos rfl, Nat.zero_add]
    exact hj
/-- what a call answers is kept for good -/
theorem Con.ice {P : Program} {f : FuncId} {args : List AV} {H : Heap} {Q : AV → Heap → Prop} (h : Con P f args H fun r H' => ∃ b cs H0 r', Heap.Rem (b, .cells cs) H' H0 ∧ (∀ M, atL M cs b 0 → LeM M r r') ∧ Q r' H0) : Con P f args H Q :=
  fun M w vs h0 h1 h2 => (h M w vs h0 h1 h2).mono fun v w' ⟨M', r, H', a, b, c, d, b0, cs, H0, r', e1, e2, e3⟩ => by
    obtain ⟨M2, g1, g2, g3⟩ := inv_ice b e1
    refine ⟨M2, r', H0, ?_, g2, fun k hk => c k ?_, e2 M2 g3 v (rep.mono g1.sub _ _ d), e3⟩
    · refine (a.trans g1 fun k hk => ?_)
      exact c k hk
    · exact ((e1.perm.map (·.1)).mem_iff.2 (List.mem_cons_of_mem _ hk))

/-! a state where an object turns no more -/
def T.leM (M : Mem) : T → T → Prop
  | _, .junk => True
  | .g x, .g y => LeM M x y
  | .lp k o, .lp k' o' => k = k' ∧ o = o'
  | .undef, .undef => True
  | _, _ => False
def Env.leM (M : Mem) (e : Env) : Env → Prop
  | [] => True
  | (k, t) :: r => T.leM M (e.get k) t ∧ Env.leM M e r
def Loc.wM (M : Mem) : Loc → Loc → Prop
  | [], [] => True
  | (k, xs) :: r, (k', ys) :: r' => (k = k' ∧ LeLM M xs ys) ∧ Loc.wM M r r'
  | _, _ => False
structure St.leM (M : Mem) (s t : St) : Prop where
  e : Env.leM M s.e t.e
  L : Loc.wM M (s.L.drop (s.L.length - t.L.length)) t.L
  H : t.H.Sublist s.H
theorem T.leM.rep {M : Mem} {lm : Nat → Nat} {t t' : T} {u : Value} (h : T.leM M t t') (ht : repX M lm t u) : repX M lm t' u := by
  cases t' with
  | junk => trivial
  | g y =>
    cases t with
    | g x => exact h u ht
    | _ => exact h.elim
  | lp k o =>
    cases t with
    | lp k' o' => obtain ⟨rfl, rfl⟩ := h; exact ht
    | _ => exact h.elim
  | undef =>
    cases t with
    | undef => exact ht
    | _ => exact h.elim
theorem Env.leM.get {M : Mem} {e : Env} : ∀ {e' : Env}, Env.leM M e e' → ∀ i, T.leM M (e.get i) (e'.get i)
  | [], _, i => by cases e.get i <;> trivial
  | (k, t) :: r, h, i => by
    show T.leM M (e.get i) (bif Nat.beq k i then t else Env.get r i)
    cases hb : Nat.beq k i with
    | true => rw [← beq_true hb]; exact h.1
    | false => exact Env.leM.get h.2 i
theorem Loc.wM.objs {lm : Nat → Nat} {M : Mem} {w : World} : ∀ {L L' : Loc}, Loc.wM M L L' → (lheap lm L').keys = (lheap lm L).keys ∧ ((∀ b x, (b, x) ∈ lheap lm L → objOk M w b x) → ∀ b x, (b, x) ∈ lheap lm L' → objOk M w b x)
  | [], [], _ => ⟨rfl, fun h => h⟩
  | (k, xs) :: r, (k', ys) :: r', h => by
    obtain ⟨⟨rfl, hl⟩, h⟩ := h
    obtain ⟨h1, h2⟩ := Loc.wM.objs (lm := lm) (M := M) (w := w) h
    refine ⟨?_, fun ho b x hx => ?_⟩
    · show lm k :: (lheap lm r').keys = lm k :: (lheap lm r).keys
      rw [h1]
    · rcases List.mem_cons.1 hx with hx | hx
      · cases hx
        obtain ⟨g1, cs, T0, g2, g3⟩ := ho (lm k) (.cells xs) (by simp [lheap])
        exact ⟨g1, cs, T0, g2, hl.repC g3⟩
      · exact h2 (fun b x hb => ho b x (List.mem_cons_of_mem _ hb)) b x hx
  | [], _ :: _, h => h.elim
  | _ :: _, [], h => h.elim
theorem Rem.after {p : Nat × AObj} {H H0 : Heap} (h : Heap.Rem p H H0) : ∀ R : Heap, Heap.Rem p (R ++ H) (R ++ H0)
  | [] => h
  | _ :: R => .there (Rem.after h R)
theorem Conc.ice {B : Base} {N : Nat} {s t : St} {a : Act} {w : World} {b : Nat} {cs : List AV} {H0 : Heap} (hrem : Heap.Rem (b, .cells cs) s.H H0) (h : ∀ M, atL M cs b 0 → St.leM M ⟨s.e, s.L, H0⟩ t) (hc : Conc B N s a w) : Conc B N t a w := by
  obtain ⟨M, lm, hc⟩ := hc
  obtain ⟨M2, g1, g2, g3⟩ := inv_ice hc.inv (Rem.after hrem (lheap lm s.L))
  have h := h M2 g3
  have hsub : (lheap lm (s.L.drop (s.L.length - t.L.length)) ++ t.H).Sublist (lheap lm s.L ++ H0) := by
    rw [lheap_drop]
    exact (List.drop_sublist _ _).append h.H
  have hi := g2.sub hsub
  obtain ⟨k1, k2⟩ := Loc.wM.objs (lm := lm) (M := M2) (w := w) h.L
  have hkeys : Heap.keys (lheap lm t.L ++ t.H) = Heap.keys (lheap lm (s.L.drop (s.L.length - t.L.length)) ++ t.H) := by
    rw [Heap.keys_append, Heap.keys_append, k1]
  refine ⟨M2, lm, hc.evo.trans g1 fun b hb => hc.keys b hb, fun b hb => ?_, ⟨hi.mem, fun b x hx => ?_, by rw [hkeys]; exact hi.nodup⟩, hc.size, hc.defers.sub fun b hb => by
    rw [hkeys] at hb
    exact ((Rem.after hrem (lheap lm s.L)).perm.map (·.1)).mem_iff.2 (List.mem_cons_of_mem _ ((hsub.map _).subset hb)), fun i => (h.e.get i).rep ((hc.env i).mono g1.sub)⟩
  · rw [hkeys] at hb
    have h3 := (hsub.map _).subset hb
    have hp := (Rem.after hrem (lheap lm s.L)).perm
    exact hc.keys b ((hp.map (·.1)).mem_iff.2 (List.mem_cons_of_mem _ h3))
  · rcases List.mem_append.1 hx with hx | hx
    · exact k2 (fun b x hb => hi.obj b x (List.mem_append.2 (Or.inl hb))) b x hx
    · exact hi.obj b x (List.mem_append.2 (Or.inr hx))
section
variable {P : Pr} {N : Nat} {c : Code} {Q : Exit → St → Prop} {s : St}
theorem sem_ice {b : Nat} {cs : List AV} {H0 : Heap} (t : St) (hrem : Heap.Rem (b, .cells cs) s.H H0) (h : ∀ M, atL M cs b 0 → St.leM M ⟨s.e, s.L, H0⟩ t) (k : sem P N c Q t) : sem P N c Q s := fun hs B a w hc => k hs B a w (hc.ice hrem h)
end
end Go.Proofs.YtahdkhklngjmoaaGreatDoor

/-
  The abstract machine: a call that only looks at memory that turns; sums that may wrap. No condition.
-/
namespace Go.Proofs.YtahdkhklngjmoaaGreatDoor
open Go.RowKit

/-- all that there is, read as it is -/
def seen (w : World) : Mem := fun b o => w.cell? ⟨b, o, none⟩
theorem seen_le {M : Mem} {H : Heap} {w : World} (h : Inv M H w) : M.le (seen w) := fun b o v hv => h.mem b o v hv
theorem seen_inv (w : World) : Inv (seen w) [] w := ⟨fun _ _ _ h => h, nofun, List.nodup_nil⟩
theorem seen_obj {M : Mem} {H : Heap} {w : World} (h : Inv M H w) {b : Nat} {cs : List AV} (hin : (b, .cells cs) ∈ H) : atL (seen w) cs b 0 := by
  obtain ⟨_, vs, T0, hg, hrep⟩ := h.obj b (.cells cs) hin
  refine atL.of_vals (repC.mono (seen_le h) _ _ hrep) fun j c hj => ?_
  simp only [seen, World.cell?, hg]
  simpa using hj
theorem cell_block {w w' : World} {b o : Nat} (h : w'.heap[b]? = w.heap[b]?) : w'.cell? ⟨b, o, none⟩ = w.cell? ⟨b, o, none⟩ := by
  simp only [World.cell?, h]
/-- a call that answers a truth value, and leaves all as it is: it may look at what turns -/
theorem Con.look {P : Program} {f : FuncId} {args args' : List AV} {q : Bool} {H : Heap} {Q : AV → Heap → Prop} (hA : ∀ (H : Heap) (Q : AV → Heap → Prop), Q (.b q) H → Con P f args' H Q) (hl : ∀ M, (∀ b cs, (b, .cells cs) ∈ H → atL M cs b 0) → LeLM M args args') (hq : Q (.b q) H) : Con P f args H Q := by
  intro M w vs h0 h1 h2
  have h3 := (hl (seen w) fun b cs hin => seen_obj h1 hin).repT (repT.mono (seen_le h1) _ _ h2)
  refine (hA [] (fun r _ => r = .b q) rfl (seen w) w vs (h0.sub fun b hb => by cases hb) (seen_inv w) h3).mono fun v w' ⟨M', r, H', e, i, _, hr, hrq⟩ => ?_
  subst hrq
  have hv : rep M (.b q) v := hr
  have hc : ∀ b o v, M b o = some v → w'.cell? ⟨b, o, none⟩ = some v := fun b o v hb => by
    rw [cell_block (e.block b (h1.lt hb) (by simp [Heap.keys]))]
    exact h1.mem b o v hb
  have e0 : Evo [] M w M w' := ⟨e.os, e.tape, e.output, e.size, e.block, Mem.le.refl M, fun b o v hb => Or.inl hb⟩
  exact ⟨M, .b q, H, e0.mono (fun b hb => by cases hb), h1.evo0 e0 hc, fun b hb => Or.inl hb, hv, hq⟩

/-! a table in which ints wrap -/
end Go.Proofs.YtahdkhklngjmoaaGreatDoor

/-
  The abstract machine: an order that serves, found quickly by numbers that are sets. No condition.
-/
namespace Go.Proofs.YtahdkhklngjmoaaGreatDoor
open Go.RowKit

theorem dep_mono {md : Region.Mode} {ops : Array Oper} : ∀ (f g j i : Nat), f ≤ g → dependsB md ops f j i = true → dependsB md ops g j i = true
  | 0, _, _, _, _, h => by cases h
  | f + 1, 0, _, _, hg, _ => by omega
  | f + 1, g + 1, j, i, hg, h => by
    unfold dependsB at h ⊢
    cases ho : ops[j]? with
    | none => simp [ho] at h
    | some o =>
      simp only [ho, Option.map_some, Option.getD_some, Array.any_eq_true'] at h ⊢
      obtain ⟨e, he, hh⟩ := h
      refine ⟨e, he, ?_⟩
      simp only [Bool.and_eq_true, Bool.or_eq_true, beq_iff_eq] at hh ⊢
      exact ⟨hh.1, hh.2.imp id fun h => dep_mono f g _ _ (by omega) h⟩
/-- a number's bit -/
def bit (i : Nat) : Nat := 1 <<< i
theorem testBit_bit (i j : Nat) : (bit i).testBit j = decide (i = j) := by
  unfold bit
  rw [Nat.shiftLeft_eq, Nat.one_mul, Nat.testBit_two_pow]
def afterM (c : List Nat) (j : Nat) : List Go.Edge → Nat → Nat
  | [], m => m
  | e :: r, m => afterM c j r (bif Region.binds .any e && Nat.blt e.on j then m ||| bit e.on ||| c.getD e.on 0 else m)
/-- what an operation stands behind -/
def behindM (ops : Array Oper) (c : List Nat) (j : Nat) : Nat :=
  match ops[j]? with
  | none => 0
  | some o => afterM c j o.after.toList 0
def closM (ops : Array Oper) : Nat → List Nat
  | 0 => []
  | n + 1 => closM ops n ++ [behindM ops (closM ops n) n]
theorem closM_len (ops : Array Oper) : ∀ n, (closM ops n).length = n
  | 0 => rfl
  | n + 1 => by simp [closM, closM_len ops n]
theorem closM_get (ops : Array Oper) {n j : Nat} (h : j < n) : (closM ops n).getD j 0 = behindM ops (closM ops j) j := by
  induction n with
  | zero => omega
  | succ n ih =>
    have hl := closM_len ops n
    rw [closM, List.getD_eq_getElem?_getD]
    by_cases hj : j < n
    · rw [List.getElem?_append_left (by omega), ← List.getD_eq_getElem?_getD]
      exact ih hj
    · obtain rfl : j = n := by omega
      rw [List.getElem?_append_right (by omega), hl]
      simp
theorem afterM_bit {c : List Nat} {j i : Nat} : ∀ {es : List Go.Edge} {m : Nat}, (afterM c j es m).testBit i = true → m.testBit i = true ∨ ∃ e ∈ es, Region.binds .any e = true ∧ e.on < j ∧ (e.on = i ∨ (c.getD e.on 0).testBit i = true)
  | [], m, h => Or.inl h
  | e :: r, m, h => by
    rcases afterM_bit (es := r) h with h | ⟨e', he, h⟩
    · cases hb : (Region.binds .any e && Nat.blt e.on j) with
      | false => rw [hb] at h; exact Or.inl h
      | true =>
        rw [hb] at h
        simp only [cond_true, Nat.testBit_or, Bool.or_eq_true, testBit_bit, decide_eq_true_eq] at h
        rw [Bool.and_eq_true, Nat.blt_eq] at hb
        rcases h with (h | h) | h
        · exact Or.inl h
        · exact Or.inr ⟨e, by simp, hb.1, hb.2, Or.inl h⟩
        · exact Or.inr ⟨e, by simp, hb.1, hb.2, Or.inr h⟩
    · exact Or.inr ⟨e', List.mem_cons_of_mem _ he, h⟩
theorem behind_dep {ops : Array Oper} : ∀ (n j i : Nat), j < n → (behindM ops (closM ops j) j).testBit i = true → dependsB .any ops (j + 1) j i = true := by
  intro n
  induction n with
  | zero => intro j i h; omega
  | succ n ih =>
    intro j i hj h
    unfold behindM at h
    unfold dependsB
    cases ho : ops[j]? with
    | none => rw [ho] at h; simp at h
    | some o =>
      rw [ho] at h
      simp only at h
      simp only [Option.map_some, Option.getD_some, Array.any_eq_true']
      rcases afterM_bit h with h | ⟨e, he, hb, hlt, h⟩
      · simp at h
      · refine ⟨e, by simpa using he, ?_⟩
        simp only [Bool.and_eq_true, Bool.or_eq_true, beq_iff_eq]
        refine ⟨hb, h.imp id fun h => ?_⟩
        rw [closM_get ops hlt] at h
        exact dep_mono _ _ _ _ (by omega) (ih e.on i (by omega) h)
section
variable {tab : Tab} {esc : Nat → Bool} {ops : Array Oper}
def predIn (m : Nat) : List Go.Edge → Bool
  | [] => true
  | e :: r => bif Region.binds .any e then (bif m.testBit e.on then predIn m r else false) else predIn m r
theorem predIn_all {m : Nat} : ∀ {es : List Go.Edge}, predIn m es = true → ∀ e ∈ es, Region.binds .any e = true → m.testBit e.on = true
  | [], _, e, he, _ => by cases he
  | e :: r, h, e', he, hb => by
    unfold predIn at h
    rcases List.mem_cons.1 he with rfl | he
    · rw [hb] at h
      cases ht : m.testBit e'.on with
      | true => rfl
      | false => rw [ht] at h; cases h
    · cases hb' : Region.binds .any e with
      | false => rw [hb'] at h; exact predIn_all h e' he hb
      | true =>
        rw [hb'] at h
        cases ht : m.testBit e.on with
        | false => rw [ht] at h; cases h
        | true => rw [ht] at h; exact predIn_all h e' he hb
/-- is each of these listed, or behind i, or apart from it? -/
def restOk (p : Nat → Bool) (cl : List Nat) (i m : Nat) : List Nat → Bool
  | [] => true
  | j :: r => bif (bif m.testBit j then true else bif Nat.beq j i then true else bif (cl.getD j 0).testBit i then true else p j) then restOk p cl i m r else false
theorem restOk_all {p : Nat → Bool} {cl : List Nat} {i m : Nat} : ∀ {js : List Nat}, restOk p cl i m js = true → ∀ j ∈ js, m.testBit j = true ∨ j = i ∨ (cl.getD j 0).testBit i = true ∨ p j = true
  | [], _, j, hj => by cases hj
  | k :: r, h, j, hj => by
    unfold restOk at h
    cases hc : (bif m.testBit k then true else bif Nat.beq k i then true else bif (cl.getD k 0).testBit i then true else p k) with
    | false => rw [hc] at h; cases h
    | true =>
      rw [hc] at h
      rcases List.mem_cons.1 hj with rfl | hj
      · cases h1 : m.testBit j with
        | true => exact Or.inl rfl
        | false =>
          rw [h1] at hc
          cases h2 : Nat.beq j i with
          | true => exact Or.inr (Or.inl (beq_true h2))
          | false =>
            rw [h2] at hc
            cases h3 : (cl.getD j 0).testBit i with
            | true => exact Or.inr (Or.inr (Or.inl rfl))
            | false => rw [h3] at hc; exact Or.inr (Or.inr (Or.inr hc))
      · exact restOk_all h j hj
def pairM (ops : Array Oper) (oi : Oper) (j : Nat) : Bool :=
  match ops[j]? with
  | some oj => oi.apart ops oj && !(isLoad oi.op && isStore oj.op)
  | none => true
def pairA (esc : Nat → Bool) (ops : Array Oper) (oi : Oper) (j : Nat) : Bool :=
  match ops[j]? with
  | some oj => oi.apart ops oj && ((!isVar oj.op || newLoc esc oj) && !isStore oj.op)
  | none => true
def isNew (esc : Nat → Bool) (oi : Oper) : Bool :=
  match oi.op, oi.guard, oi.dst with
  | .alloc _, none, some d => !esc d
  | _, _, _ => false
def ordF (tab : Tab) (esc : Nat → Bool) (ops : Array Oper) (cl js : List Nat) : List Nat → Nat → Bool
  | [], m => js.all fun j => m.testBit j
  | i :: r, m => match ops[i]? with
    | none => false
    | some oi => bif (!m.testBit i && predIn m oi.after.toList && (bif mobile tab esc oi then restOk (pairM ops oi) cl i m js else bif isNew esc oi then restOk (pairA esc ops oi) cl i m js else restOk (fun _ => false) cl i m js)) then ordF tab esc ops cl js r (m ||| bit i) else false
theorem ready_one {listed : Array Bool} {i : Nat} (h : i ∈ Region.ready .any ops listed) (h1 : ∀ j ∈ Region.ready .any ops listed, j = i) : Region.ready .any ops listed = [i] := by
  have hn : (Region.ready .any ops listed).Nodup := List.Pairwise.filter _ List.nodup_range
  generalize Region.ready .any ops listed = l at *
  cases l with
  | nil => cases h
  | cons a t =>
    obtain rfl := h1 a (by simp)
    cases t with
    | nil => rfl
    | cons b t =>
      have := h1 b (by simp)
      subst this
      simp at hn
theorem ordF_ok : ∀ {ord : List Nat} {m : Nat} {listed : Array Bool}, listed.size = ops.size → (∀ j, j < ops.size → listed[j]? = some (m.testBit j)) → (∀ k, m.testBit k = true → k < ops.size) → Closed .any ops listed → ordF tab esc ops (closM ops ops.size) (List.range ops.size) ord m = true → ordOk tab esc ops ord listed = true
  | [], m, listed, hs, hm, hz, hc, h => by
    unfold ordF at h
    unfold ordOk
    rw [List.isEmpty_iff]
    cases hr : Region.ready .any ops listed with
    | nil => rfl
    | cons j r =>
      exfalso
      obtain ⟨h1, o, ho, _⟩ := mem_ready.1 (show j ∈ Region.ready .any ops listed by rw [hr]; simp)
      have hlt : j < ops.size := (Array.getElem?_eq_some_iff.1 ho).1
      have h2 := List.all_eq_true.1 h j (List.mem_range.2 hlt)
      rw [Array.getD_eq_getD_getElem?, hm j hlt, h2] at h1
      cases h1
  | i :: r, m, listed, hs, hm, hz, hc, h => by
    unfold ordF at h
    cases ho : ops[i]? with
    | none => rw [ho] at h; cases h
    | some oi =>
      rw [ho] at h
      simp only at h
      have hlt : i < ops.size := (Array.getElem?_eq_some_iff.1 ho).1
      have hget : ∀ j d, j < ops.size → listed.getD j d = m.testBit j := fun j d hj => by rw [Array.getD_eq_getD_getElem?, hm j hj]; rfl
      cases hb : (!m.testBit i && predIn m oi.after.toList && (bif mobile tab esc oi then restOk (pairM ops oi) (closM ops ops.size) i m (List.range ops.size) else bif isNew esc oi then restOk (pairA esc ops oi) (closM ops ops.size) i m (List.range ops.size) else restOk (fun _ => false) (closM ops ops.size) i m (List.range ops.size))) with
      | false => rw [hb] at h; cases h
      | true =>
        rw [hb] at h
        simp only [cond_true] at h
        simp only [Bool.and_eq_true, Bool.not_eq_true'] at hb
        obtain ⟨⟨b1, b2⟩, b3⟩ := hb
        have hin : listed.getD i true = false := by rw [hget i true hlt]; exact b1
        have hready : i ∈ Region.ready .any ops listed := by
          refine mem_ready.2 ⟨hin, oi, ho, fun e he hbi => ?_⟩
          have ht := predIn_all b2 e (by simpa using he) hbi
          by_cases hon : e.on < ops.size
          · rw [hget e.on false hon]; exact ht
          · exfalso
            exact hon (hz _ ht)
        have hdep : ∀ j, j < ops.size → ((closM ops ops.size).getD j 0).testBit i = true → dependsB .any ops ops.size j i = true := fun j hj ht => by
          rw [closM_get ops hj] at ht
          exact dep_mono _ _ _ _ (by omega) (behind_dep (j + 1) j i (by omega) ht)
        have hnext := ordF_ok (ord := r) (m := m ||| bit i) (listed := listed.setIfInBounds i true) (by simpa using hs) (fun j hj => by
          rw [Nat.testBit_or, testBit_bit]
          by_cases hij : i = j
          · subst hij
            rw [Array.getElem?_setIfInBounds_self_of_lt (by omega)]
            simp
          · rw [Array.getElem?_setIfInBounds_ne hij, hm j hj]
            simp [hij]) (fun k hk => by
          rw [Nat.testBit_or, testBit_bit, Bool.or_eq_true, decide_eq_true_eq] at hk
          rcases hk with hk | rfl
          · exact hz k hk
          · exact hlt) (closed_set hc hready) h
        unfold ordOk
        rw [Bool.and_eq_true, Bool.and_eq_true]
        refine ⟨⟨by simpa using hready, ?_⟩, hnext⟩
        cases hmo : mobile tab esc oi with
        | true =>
          rw [hmo] at b3
          simp only [cond_true] at b3
          rw [Bool.or_eq_true]
          left
          unfold okM
          rw [ho]
          show (mobile tab esc oi && (List.range ops.size).all fun j => listed.getD j true || Nat.beq j i || dependsB .any ops ops.size j i || pairM ops oi j) = true
          rw [hmo, Bool.true_and, List.all_eq_true]
          intro j hj
          have hjl := List.mem_range.1 hj
          rcases restOk_all b3 j hj with k | k | k | k
          · rw [hget j true hjl, k]; rfl
          · subst k; simp
          · rw [hdep j hjl k]; simp
          · rw [k]; simp
        | false =>
          rw [hmo] at b3
          simp only [cond_false] at b3
          rw [Bool.or_eq_true, Bool.or_eq_true]
          right
          cases hnw : isNew esc oi with
          | true =>
            rw [hnw] at b3
            simp only [cond_true] at b3
            right
            unfold okA
            rw [ho]
            show (isNew esc oi && (List.range ops.size).all fun j => listed.getD j true || Nat.beq j i || dependsB .any ops ops.size j i || pairA esc ops oi j) = true
            rw [hnw, Bool.true_and, List.all_eq_true]
            intro j hj
            have hjl := List.mem_range.1 hj
            rcases restOk_all b3 j hj with k | k | k | k
            · rw [hget j true hjl, k]; rfl
            · subst k; simp
            · rw [hdep j hjl k]; simp
            · rw [k]; simp
          | false =>
            rw [hnw] at b3
            simp only [cond_false] at b3
            left
            rw [beq_iff_eq]
            have only : ∀ j ∈ Region.ready .any ops listed, j = i := fun j hj => by
              obtain ⟨hjun, o, hoj, _⟩ := mem_ready.1 hj
              have hjl : j < ops.size := (Array.getElem?_eq_some_iff.1 hoj).1
              rcases restOk_all b3 j (List.mem_range.2 hjl) with k | k | k | k
              · rw [hget j true hjl, k] at hjun; cases hjun
              · exact k
              · exfalso
                have := dep_listed hc _ _ _ (hdep j hjl k) (Or.inl hj)
                rw [hget i false hlt, b1] at this
                cases this
              · cases k
            exact ready_one hready only
/-- an order that serves -/
theorem ord_fast {lo : Nat} {ord : List Nat} (h : (Nat.beq ord.length ops.size && (loOk lo ops && ordF tab esc ops (closM ops ops.size) (List.range ops.size) ord 0)) = true) : (Nat.beq ord.length ops.size && (loOk lo ops && ordOk tab esc ops ord (Array.replicate ops.size false))) = true := by
  rw [Bool.and_eq_true, Bool.and_eq_true] at h ⊢
  refine ⟨h.1, h.2.1, ordF_ok (by simp) (fun j hj => by simp [hj]) (fun k hk => by simp at hk) ?_ h.2.2⟩
  intro j o hl
  rw [Array.getD_eq_getD_getElem?, Array.getElem?_replicate] at hl
  split at hl <;> cases hl
end
end Go.Proofs.YtahdkhklngjmoaaGreatDoor

/-
  The abstract machine: a range over a function. No condition.
-/
namespace Go.Proofs.YtahdkhklngjmoaaGreatDoor
open Go.RowKit

theorem LeM.fn {M : Mem} {f : Fn} {xs ys : List AV} (h : LeLM M xs ys) : LeM M (.fn f xs) (.fn f ys) := fun u hu => by
  simp only [rep] at hu ⊢
  obtain ⟨cs, e, hc⟩ := hu
  exact ⟨cs, e, h.repT hc⟩
/-- a captured variable that turns no more -/
theorem ptr_ice {M : Mem} {b : Nat} {cs : List AV} (h : atL M cs b 0) : LeM M (.ptr b 0) (.ip cs) := fun u hu => by
  simp only [rep] at hu ⊢
  exact ⟨b, 0, hu, h⟩

/-! objects that are at least others -/
def AObj.le : AObj → AObj → Prop
  | .cells xs, .cells ys => LeL xs ys
  | x, y => x = y
def Heap.w : Heap → Heap → Prop
  | [], [] => True
  | (b, x) :: H, (b', y) :: H' => b = b' ∧ AObj.le x y ∧ Heap.w H H'
  | _, _ => False
/-- what stands in one heap stands in the other at least so -/
def HLe (H H' : Heap) : Prop := ∃ H2 : Heap, H2.Sublist H ∧ Heap.w H2 H'
theorem AObj.le.refl (x : AObj) : AObj.le x x := by
  cases x
  · exact LeL.refl _
  · exact rfl
  · exact rfl
  · exact rfl
theorem Heap.w.refl : ∀ H : Heap, Heap.w H H
  | [] => trivial
  | (_, x) :: H => ⟨rfl, AObj.le.refl x, Heap.w.refl H⟩
theorem HLe.sub {H H' : Heap} (h : H'.Sublist H) : HLe H H' := ⟨H', h, Heap.w.refl _⟩
theorem HLe.refl (H : Heap) : HLe H H := HLe.sub (List.Sublist.refl _)
theorem HLe.eq {H H' : Heap} (h : H = H') : HLe H H' := h ▸ HLe.refl H
theorem HLe.here {H H' : Heap} {b : Nat} {xs ys : List AV} (h : LeL xs ys) (k : HLe H H') : HLe ((b, .cells xs) :: H) ((b, .cells ys) :: H') := by
  obtain ⟨H2, k1, k2⟩ := k
  exact ⟨(b, .cells xs) :: H2, k1.cons_cons _, rfl, h, k2⟩
theorem HLe.cons {H H' : Heap} (p : Nat × AObj) (k : HLe H H') : HLe (p :: H) (p :: H') := by
  obtain ⟨H2, k1, k2⟩ := k
  exact ⟨p :: H2, k1.cons_cons _, rfl, AObj.le.refl _, k2⟩
theorem Heap.w.keys : ∀ {H H' : Heap}, Heap.w H H' → H'.keys = H.keys
  | [], [], _ => rfl
  | (b, x) :: H, (b', y) :: H', h => by
    obtain ⟨rfl, _, h⟩ := h
    show b :: Heap.keys H' = b :: Heap.keys H
    rw [Heap.w.keys h]
  | [], _ :: _, h => h.elim
  | _ :: _, [], h => h.elim
theorem AObj.le.ok {M : Mem} {w : World} {b : Nat} {x y : AObj} (h : AObj.le x y) (k : objOk M w b x) : objOk M w b y := by
  cases x with
  | cells xs =>
    cases y with
    | cells ys =>
      obtain ⟨h1, cs, T0, h2, h3⟩ := k
      exact ⟨h1, cs, T0, h2, LeL.repC h h3⟩
    | cap c => cases h
    | raw o M0 => cases h
    | mp es clk => cases h
  | cap c =>
    cases y with
    | cells ys => cases h
    | cap c' => cases h; exact k
    | raw o M0 => cases h
    | mp es clk => cases h
  | raw o M0 =>
    cases y with
    | cells ys => cases h
    | cap c' => cases h
    | raw o' M0' => cases h; exact k
    | mp es clk => cases h
  | mp es clk =>
    cases y with
    | cells ys => cases h
    | cap c' => cases h
    | raw o' M0' => cases h
    | mp es' clk' => cases h; exact k
theorem Heap.w.objs {M : Mem} {w : World} : ∀ {H H' : Heap}, Heap.w H H' → (∀ b x, (b, x) ∈ H → objOk M w b x) → ∀ b x, (b, x) ∈ H' → objOk M w b x
  | [], [], _, _, b, x, hx => by cases hx
  | (b0, x0) :: H, (b1, y0) :: H', h, k, b, x, hx => by
    obtain ⟨rfl, h1, h⟩ := h
    rcases List.mem_cons.1 hx with hx | hx
    · cases hx
      exact h1.ok (k _ _ (by simp))
    · exact Heap.w.objs h (fun b x hb => k b x (List.mem_cons_of_mem _ hb)) b x hx
  | [], _ :: _, h, _, _, _, _ => h.elim
  | _ :: _, [], h, _, _, _, _ => h.elim
theorem Conc.hle {B : Base} {N : Nat} {e : Env} {L : Loc} {H H' : Heap} {a : Act} {w : World} (h : HLe H H') (hc : Conc B N ⟨e, L, H⟩ a w) : Conc B N ⟨e, L, H'⟩ a w := by
  obtain ⟨M, lm, hc⟩ := hc
  obtain ⟨H2, h1, h2⟩ := h
  have hsub : (lheap lm L ++ H2).Sublist (lheap lm L ++ H) := (List.Sublist.refl _).append h1
  have hi := hc.inv.sub hsub
  have hk : Heap.keys (lheap lm L ++ H') = Heap.keys (lheap lm L ++ H2) := by rw [Heap.keys_append, Heap.keys_append, h2.keys]
  have hin : ∀ b ∈ Heap.keys (lheap lm L ++ H'), b ∈ Heap.keys (lheap lm L ++ H) := fun b hb => (hsub.map _).subset (by rw [hk] at hb; exact hb)
  refine ⟨M, lm, hc.evo, fun b hb => hc.keys b (hin b hb), ⟨hi.mem, fun b x hx => ?_, by rw [hk]; exact hi.nodup⟩, hc.size, hc.defers.sub hin, hc.env⟩
  rcases List.mem_append.1 hx with hx | hx
  · exact hi.obj b x (List.mem_append.2 (Or.inl hx))
  · exact h2.objs (fun b x hb => hi.obj b x (List.mem_append.2 (Or.inr hb))) b x hx

section
variable {P : Pr} {tab : Tab} {esc : Nat → Bool} {N : Nat} {a b c : Code} {Q : Exit → St → Prop} {s t : St}
theorem sem_hle (H' : Heap) (h : HLe s.H H') (k : sem P N c Q ⟨s.e, s.L, H'⟩) : sem P N c Q s := fun hs B a w hc => k hs B a w (hc.hle h)
theorem sem_then (h : sem P N a (fun x s' => match x with
    | .normal => sem P N b Q s'
    | x => Q x s') s) : sem P N (.seq a b) Q s := fun hs B ac w hc => by
  simp only [slotsOk, Bool.and_eq_true] at hs
  refine wp_seq (wp_mono (h hs.1 B ac w hc) ?_)
  rintro e a' w' (⟨s', h1, h2⟩ | hx)
  rotate_left
  · obtain ⟨ch, rfl, hx⟩ := hx.panic
    exact Or.inr hx
  cases e with
  | normal => exact h2 hs.2 B a' w' h1
  | _ => exact Or.inl ⟨s', h1, h2⟩
/-- behind a way that joins -/
theorem sem_thenJ {X : Type} (st : X → St) (I : X → Prop) (h : sem P N a (fun x s' => match x with
    | .normal => ∃ y, I y ∧ St.le s' (st y)
    | x => Q x s') s) (k : ∀ y, I y → sem P N b Q (st y)) : sem P N (.seq a b) Q s := fun hs B ac w hc => by
  simp only [slotsOk, Bool.and_eq_true] at hs
  refine wp_seq (wp_mono (h hs.1 B ac w hc) ?_)
  rintro e a' w' (⟨s', h1, h2⟩ | hx)
  rotate_left
  · obtain ⟨ch, rfl, hx⟩ := hx.panic
    exact Or.inr hx
  cases e with
  | normal =>
    obtain ⟨y, k1, k2⟩ := h2
    exact k y k1 hs.2 B a' w' (h1.le k2)
  | _ => exact Or.inl ⟨s', h1, h2⟩
end

section
variable {P : Program} {tab : Tab} {esc : Nat → Bool} {N : Nat} {a b c : Code} {Q : Exit → St → Prop} {s t : St}
end
end Go.Proofs.YtahdkhklngjmoaaGreatDoor

/-
  The abstract machine: a range over a function whose row is drawn on the way; calls of a loop's body beside other objects. No condition.
-/
namespace Go.Proofs.YtahdkhklngjmoaaGreatDoor
open Go.RowKit

/-- a body's call beside an object -/
theorem RCon.under {P : Program} {l : Nat} {args : List AV} {H : Heap} {Q : AV → Heap → Prop} (p : Nat × AObj) (h : RCon P l args H Q) : RCon P l args (p :: H) fun r H' => ∃ H0, H' = p :: H0 ∧ Q r H0 := by
  intro n M w vs h0 h1 h2
  have hp : (p :: H).Perm (H ++ [p]) := (List.perm_append_comm (l₁ := [p]) (l₂ := H))
  have hsub : ∀ b ∈ H.keys, b ∈ Heap.keys (p :: H) := fun b hb => List.mem_cons_of_mem _ hb
  refine yield_mono (h n M w vs (h0.sub hsub) (h1.sub (List.sublist_cons_self _ _)) h2) ?_
  rintro e w' ⟨v, he, M', r, H', a, b, c, d, q⟩
  have hI : Inv M' (H' ++ [p]) w' := (h1.perm hp).frame b a c
  refine ⟨v, he, M', r, p :: H', a.mono hsub, hI.perm (List.perm_append_comm (l₁ := H') (l₂ := [p])), fun k hk => ?_, d, H', rfl, q⟩
  rcases List.mem_cons.1 hk with rfl | hk
  · exact Or.inl List.mem_cons_self
  · exact (c k hk).imp (hsub k) id
section
variable {P : Program} {tab : Tab} {esc : Nat → Bool} {N : Nat} {a b c : Code} {Q : Exit → St → Prop} {s t : St}
end
end Go.Proofs.YtahdkhklngjmoaaGreatDoor

/-
  The abstract machine: a loop whose round is told of frames and worlds. No condition.
-/
namespace Go.Proofs.YtahdkhklngjmoaaGreatDoor
open Go.RowKit

section
variable {P : Pr} {tab : Tab} {esc : Nat → Bool} {N : Nat} {a b c : Code} {Q : Exit → St → Prop} {s t : St}
end
end Go.Proofs.YtahdkhklngjmoaaGreatDoor

/-
  Contracts with two ends: out of a function's code, which may panic. No condition.
-/
namespace Go.Proofs.YtahdkhklngjmoaaGreatDoor
open Go.RowKit

/-- where a panic may leave a heap: what is not told of may be dropped -/
def dropR (R : Value → Heap → Prop) (v : Value) (_ : Nat → T) (H : Heap) : Prop := ∃ H' : Heap, List.Sublist H' H ∧ R v H'
section
variable {P : Program} {tab : Tab} {esc : Nat → Bool}
/-- a frame's end when it panics: its marks are taken -/
theorem leaves_pan {fn : Func} {B : Base} {N : Nat} {M : Mem} {lm : Nat → Nat} {s : St} {R : Value → Heap → Prop} {X : Value → World → Prop} {v : Value} {ch : List PanicEntry} {H' : Heap} (hp : panV ch v) (hs : List.Sublist H' s.H) (hR : R v H') {a : Act} : ∀ (Ds : List Nat) (w : World), ConcAt B N M lm s { a with defers := [] } w → Ds.Nodup → (∀ D ∈ Ds, w.heap[D]? = some (.deferred (some [])) ∧ B.w.heap.size ≤ D ∧ D ∉ Heap.keys (lheap lm s.L ++ s.H)) →
    LeavesInM Fence.wide 0 P fn a.tmps (fun e w' => (∃ v, e = .returned v ∧ X v w') ∨ ∃ ch v, e = .panicked ch ∧ panV ch v ∧ ∃ M' H', Evo B.K B.M B.w M' w' ∧ Inv M' H' w' ∧ (∀ b ∈ H'.keys, b ∈ B.K ∨ B.w.heap.size ≤ b) ∧ R v H') (Ds.map markOf) (.panicking ch) w
  | [], w, hc, _, _ => by
    refine Or.inr ⟨ch, v, rfl, hp, M, H', hc.evo, hc.right.sub hs, fun b hb => ?_, hR⟩
    exact hc.keys b (by rw [Heap.keys_append]; exact List.mem_append.2 (Or.inr ((hs.map _).subset hb)))
  | D :: Ds, w, hc, hn, hd => by
    rw [List.nodup_cons] at hn
    obtain ⟨h1, h2, h3⟩ := hd D (by simp)
    refine ⟨by simp, .inl ⟨D, _, rfl, run_takeDeferred h1, leaves_pan hp hs hR Ds _ (hc.putObj h3 h2 (by simp) h1 (cell_deferred h1)) hn.2 fun D' hD' => ?_⟩⟩
    obtain ⟨k1, k2, k3⟩ := hd D' (List.mem_cons_of_mem _ hD')
    have hne : D' ≠ D := by rintro rfl; exact hn.1 hD'
    exact ⟨(World.putObj_heap_other hne).trans k1, k2, k3⟩
theorem LeavesInM.mono {F : Fence} {n : Nat} {fn : Func} {tmps : Array Value} {R R' : Ending → World → Prop} (k : ∀ e w, R e w → R' e w) : ∀ {ds : List Deferred} {u : FrameMode} {w : World}, LeavesInM F n P fn tmps R ds u w → LeavesInM F n P fn tmps R' ds u w
  | [], u, w, h => by
    cases u with
    | run => exact h.elim
    | returning => obtain ⟨v, h1, h2⟩ := h; exact ⟨v, h1, k _ _ h2⟩
    | panicking ch => exact k _ _ h
  | d :: ds, u, w, ⟨h1, h2⟩ => by
    refine ⟨h1, ?_⟩
    rcases h2 with ⟨r, w', a, b, c⟩ | ⟨a, fv, cap, f, args, b, c, d', e⟩
    · exact Or.inl ⟨r, w', a, b, LeavesInM.mono k c⟩
    · refine Or.inr ⟨a, fv, cap, f, args, b, c, d', e.mono fun e' u' w' h => ?_⟩
      cases e' with
      | returned v => exact LeavesInM.mono k h
      | panicked ch => exact LeavesInM.mono k h
      | outgrown => exact k _ _ h
/-- A CONTRACT WITH TWO ENDS OUT OF THE CODE -/
theorem conX_of_sem (hP : TabOk P tab) {f : FuncId} {fn : Func} {c : Code} (hf : P.funcs[f]? = some fn) (hb : fn.body = some c) (he : ∀ args w, (callFunc f args).run P w = .ok (.enter f args) w) {args : List AV} {H : Heap} {Q : AV → Heap → Prop} {R : Value → Heap → Prop}
    (hs : (slotsOk fn.ntmps c && Nat.ble args.length fn.ntmps) = true) (h : (∀ x ∈ args, Wf x) → H.keys.Nodup → sem ⟨P, some (dropR R), 0⟩ fn.ntmps c (aEnd tab fn Q) ⟨initEnv 0 args, [], H⟩) : ConX P f args H Q R := by
  intro M w vs hG hI hargs
  rw [Bool.and_eq_true] at hs
  rw [he]
  show Calls P f vs.toArray w _
  have hwf : ∀ x ∈ args, Wf x := fun x hx => Wf.tup.key hargs hx
  have hlen := hargs.length
  have hle := Nat.le_of_ble_eq_true hs.2
  refine (callsIn_wide (n := 0)).1 (callsIn_of_wp_marks hf hb trivial (wpIn_mono (wpIn_wide.2 (h hwf hI.nodup hs.1 ⟨H.keys, M, w, hG, []⟩ _ w ?_)) ?_) rfl)
  · refine ⟨M, fun _ => 0, Evo.refl _ _ _, fun b hb => Or.inl hb, hI, by simp; omega, Marked.nil, init_env 0 _ hargs fun j v hj => ?_⟩
    have hj' := (List.getElem?_eq_some_iff.1 hj).1
    simp [Array.getElem?_append, hj']
    exact (List.getElem?_eq_some_iff.1 hj).2
  · rintro e a' w' (⟨s', ⟨M', lm, hc⟩, hq⟩ | ⟨ch, v, s', rfl, hp, ⟨M', lm, hc⟩, H', k1, k2⟩)
    · have fin : aretL tab s' fn.results.toList (fun xs => ∃ r H', Le (retAV xs) r ∧ H'.Sublist s'.H ∧ Q r H') → LeavesInM Fence.wide 0 P fn a'.tmps (fun e w' => (∃ v, e = .returned v ∧ ∃ M' r H', Evo H.keys M w M' w' ∧ Inv M' H' w' ∧ (∀ b ∈ H'.keys, b ∈ H.keys ∨ w.heap.size ≤ b) ∧ rep M' r v ∧ Q r H') ∨ ∃ ch v, e = .panicked ch ∧ panV ch v ∧ ∃ M' H', Evo H.keys M w M' w' ∧ Inv M' H' w' ∧ (∀ b ∈ H'.keys, b ∈ H.keys ∨ w.heap.size ≤ b) ∧ R v H') a'.defers .returning w' := by
        intro hq
        obtain ⟨Ds, d1, d2, d3⟩ := hc.defers
        rw [show a'.defers = Ds.map markOf from d1.trans (List.append_nil _)]
        exact LeavesInM.mono (fun e w h => Or.inl h) (leaves_end (B := ⟨H.keys, M, w, hG, []⟩) hP hq Ds w' ⟨hc.evo, hc.keys, hc.inv, hc.size, Marked.nil, hc.env⟩ d2 d3)
      cases e with
      | normal => exact fin hq
      | ret => exact fin hq
      | exit id => exact hq.elim
      | goto l => exact hq.elim
      | panic c => exact hq.elim
      | outgrown => exact hq.elim
    · obtain ⟨Ds, d1, d2, d3⟩ := hc.defers
      show LeavesInM _ _ _ _ _ _ a'.defers _ w'
      rw [show a'.defers = Ds.map markOf from d1.trans (List.append_nil _)]
      exact leaves_pan (B := ⟨H.keys, M, w, hG, []⟩) hp k1 k2 Ds w' ⟨hc.evo, hc.keys, hc.inv, hc.size, Marked.nil, hc.env⟩ d2 d3
theorem conX_of_awp (hP : TabOk P tab) (hm : P.follows .mixedOrders = true) {f : FuncId} {fn : Func} {c : Code} (hf : P.funcs[f]? = some fn) (hb : fn.body = some c) (he : ∀ args w, (callFunc f args).run P w = .ok (.enter f args) w) {args : List AV} {H : Heap} {Q : AV → Heap → Prop} {R : Value → Heap → Prop}
    (hs : (slotsOk fn.ntmps c && Nat.ble args.length fn.ntmps) = true) (h : (∀ x ∈ args, Wf x) → H.keys.Nodup → awp ⟨P, some (dropR R), 0⟩ tab esc fn.ntmps c (aEnd tab fn Q) ⟨initEnv 0 args, [], H⟩) : ConX P f args H Q R :=
  conX_of_sem hP hf hb he hs fun h1 h2 => sem_of (P := ⟨P, some (dropR R), 0⟩) hP hm (h h1 h2)
end
end Go.Proofs.YtahdkhklngjmoaaGreatDoor

/-
  Deferred calls: functions that defer one; closures that recover. No condition.
-/
namespace Go.Proofs.YtahdkhklngjmoaaGreatDoor
open Go.RowKit

/-- how a frame is when its deferred call begins: it returns, or it panics -/
def modeOf (u : FrameMode) : Option Value → Prop
  | none => u = .returning
  | some v => ∃ ch, u = .panicking ch ∧ panV ch v
/-- A DEFERRED CALL: the frame returns behind it, or it panics anew -/
def DCon (P : Program) (g : FuncId) (caps : List AV) (H : Heap) (x : Option Value) (Q : Heap → Prop) (R : Value → Heap → Prop) : Prop :=
  ∀ M w vs u, GH w H → Inv M H w → repT M caps vs → modeOf u x → CallsDIn Fence.wide 0 P g vs.toArray u w fun e u' w' =>
    ((∃ r, e = .returned r) ∧ settle u' = .returning ∧ ∃ M' H', Evo H.keys M w M' w' ∧ Inv M' H' w' ∧ (∀ b ∈ H'.keys, b ∈ H.keys ∨ w.heap.size ≤ b) ∧ Q H') ∨
    ∃ ch ch' v, e = .panicked ch ∧ raised u' ch = .panicking ch' ∧ panV ch' v ∧ ∃ M' H', Evo H.keys M w M' w' ∧ Inv M' H' w' ∧ (∀ b ∈ H'.keys, b ∈ H.keys ∨ w.heap.size ≤ b) ∧ R v H'
section
variable {P : Program}
theorem callsDIn_wide_of_wpS {n : Nat} {f : FuncId} {fn : Func} {c : Code} {args : Array Value} {u : FrameMode} {w : World} {R : Ending → FrameMode → World → Prop}
    (hf : P.funcs[f]? = some fn) (hb : fn.body = some c)
    (h : ∀ (c₀ : Frame) (cs : List Frame), c₀.mode = u →
      c.wpS P (bodyPostS P fn c₀ cs R) { tmps := args ++ Array.replicate (fn.ntmps - args.size) undef, defers := [] } (c₀ :: cs) w) :
    CallsDIn Fence.wide n P f args u w R := by
  refine ⟨trivial, fun c₀ cs hu _ => ?_⟩
  let b : Frame := { (default : Frame) with fn := f, kind := .deferred }
  have henter : Frame.enter P f args .deferred =
      b.at { tmps := args ++ Array.replicate (fn.ntmps - args.size) undef, defers := [] } [.code c] := by
    simp [Frame.enter, Frame.at, hf, hb, b]
  obtain ⟨e, a', cs', w', hq, harr⟩ := h c₀ cs hu b [] rfl rfl
  rw [← henter] at harr
  cases e with
  | normal =>
    obtain ⟨hd, u', rfl, v, hr, hR⟩ := hq
    exact ⟨.returned v, u', w', _, hR, comesIn_wide.2 (Steps.trans harr (.one step_end)), rfl, rfl, rfl, hd, fn, hf, hr⟩
  | ret =>
    obtain ⟨hd, u', rfl, v, hr, hR⟩ := hq
    obtain ⟨todo, hs⟩ := harr
    exact ⟨.returned v, u', w', _, hR, comesIn_wide.2 hs, rfl, rfl, rfl, hd, fn, hf, hr⟩
  | panic chain =>
    obtain ⟨hd, u', rfl, hR⟩ := hq
    obtain ⟨todo, hs⟩ := harr
    exact ⟨.panicked chain, u', w', _, hR, comesIn_wide.2 hs, rfl, rfl, rfl, hd, fn, hf⟩
  | exit id => exact hq.elim
  | goto l => exact hq.elim
  | outgrown =>
    obtain ⟨u', hR⟩ := hq
    exact ⟨.outgrown, u', w', b, hR, comesIn_wide.2 (harr.resolve_left (by simp [b])), rfl, rfl, trivial⟩
/-- a region whose first operation recovers -/
theorem wpS_recover {id : Nat} {ops : Array Oper} {Q : Exit → Act → List Frame → World → Prop} {a : Act} {cs : List Frame} {w : World} {o0 : Oper} {args : Array Operand} {ats : Array TypeId} (h0 : ops[0]? = some o0) (hop : o0.op = .call ⟨.builtin .recover, args, ats⟩) (hg : o0.guard = none)
    {v : Value} {cs' : List Frame} (hrec : recoverD cs = some (v, cs') ∨ (recoverD cs = none ∧ v = .nilIface ∧ cs' = cs)) (h : wpOpsIn Fence.wide 0 P ops (fun e a' w' => Q e a' cs' w') (List.range' 1 (ops.size - 1)) (a.put o0.dst v) w) : (Code.region id ops false).wpS P Q a cs w := by
  intro b k hb hro
  have hsz : 0 < ops.size := (Array.getElem?_eq_some_iff.1 h0).1
  have hr : List.range ops.size = 0 :: List.range' 1 (ops.size - 1) := by
    rw [List.range_eq_range', show ops.size = (ops.size - 1) + 1 by omega, List.range'_succ]
    rfl
  have hrun : (execOp a.eval o0).run P w = .ok .recover w := by
    unfold execOp
    rw [hop]
    rfl
  obtain ⟨e, a', w', hq, harr⟩ := wp_opsIn (F := Fence.wide) (n := 0) _ (a.put o0.dst v) w h b k cs' hro trivial (room_wide _)
  have harr := (arrivesIn_iff (fun _ _ => stepsIn_wide) hro).1 harr
  rw [Frame.atR_of_none hro] at harr
  refine ⟨e, a', cs', w', hq, .of_steps (.head step_region ?_) harr⟩
  rw [hr]
  refine .one (step_lone_go ?_)
  have hgo := stepG_op (P := P) (b := b) (a := a) (k := k) (cs := cs) (w := w) (rest := List.range' 1 (ops.size - 1)) h0 (by simp [Region.wanted, hg])
  have hfin : ∀ v, (b.at a (.inRegion ops (0 :: List.range' 1 (ops.size - 1)) :: k)).finish v = b.at (a.put o0.dst v) (.inRegion ops (List.range' 1 (ops.size - 1)) :: k) := by
    intro v; rw [Frame.finish_at, h0]; rfl
  have hk : (b.at a (.inRegion ops (0 :: List.range' 1 (ops.size - 1)) :: k)).kind = .deferred := hb
  have htr := tryRecover_deferred hk cs
  rw [hgo, ← hfin]
  simp only [Frame.at] at htr ⊢
  rcases hrec with hrec | ⟨hrec, rfl, rfl⟩
  · simp [stepG.apply, hrun, htr, hrec]
  · simp [stepG.apply, hrun, htr, hrec]
/-- no deferred call comes of it -/
def noDefer (P : Program) (ρ : Operand → Value) (o : Oper) : Prop := ∀ w d w', (execOp ρ o).run P w ≠ .ok (.defer d) w'
theorem bind_value (s : Sem Value) (w : World) (d : Deferred) (w' : World) : (do pure (Next.value (← s)) : Sem Next).run P w ≠ .ok (.defer d) w' := by
  rw [Sem.run_bind]
  cases s.run P w with
  | ok x w => intro h; cases h
  | halt x w => intro h; cases h
theorem bind_skip (s : Sem Unit) (w : World) (d : Deferred) (w' : World) : (do s; pure Next.skip : Sem Next).run P w ≠ .ok (.defer d) w' := by
  rw [Sem.run_bind]
  cases s.run P w with
  | ok x w => intro h; cases h
  | halt x w => intro h; cases h
/-- is it one of the plain ones? -/
def plainOp : Op → Bool
  | .move _ | .assign _ | .box .. | .alloc _ | .makeFunc .. | .load .. | .store .. | .build .. | .makeInterface .. | .extract .. | .field .. | .fieldAddr .. | .unOp .. | .typeAssert .. => true
  | _ => false
theorem noDefer_plain {ρ : Operand → Value} {o : Oper} (h : plainOp o.op = true) : noDefer P ρ o := by
  intro w d w'
  obtain ⟨dst, op, ty, pos, after, guard⟩ := o
  cases op <;> first | (cases h; done) | skip
  all_goals
    unfold execOp
    first
      | exact bind_value _ w d w'
      | exact bind_skip _ w d w'
      | (intro h; cases h)
theorem noDefer_call {a : Act} {o : Oper} {f : FuncId} {args : Array Operand} {ats : Array TypeId} (hop : o.op = .call ⟨.value (.func f), args, ats⟩) (he : ∀ args w, (callFunc f args).run P w = .ok (.enter f args) w) : noDefer P a.eval o := by
  intro w d w'
  have hfv : a.eval (.func f) = .func (.func f) #[] #[] := rfl
  unfold execOp
  simp only [hop, resolve, hfv, Deferred.ofValue, pure_bind, invoke]
  rw [he]
  intro h
  cases h
/-- operations that defer nothing leave what is deferred -/
theorem Oper_wpIn_keep {F : Fence} {n : Nat} {o : Oper} {a : Act} {w : World} {K : Act → World → Prop} {Q : Exit → Act → World → Prop} (hd : ∀ c, o.op ≠ .defer c) (hnd : noDefer P a.eval o) (hh : o.wpIn F n P a w K Q) : o.wpIn F n P a w (fun a' w' => K a' w' ∧ a'.defers = a.defers) (fun x a' w' => Q x a' w' ∧ (x ≠ .outgrown → a'.defers = a.defers)) := by
  unfold Oper.wpIn at *
  refine ⟨hh.1, ?_⟩
  have hh := hh.2
  have hput : ∀ v, (a.put o.dst v).defers = a.defers := fun v => by cases hdst : o.dst <;> rfl
  have hnd := hnd w
  rw [Oper.semAt_eq _ _ _ hd] at hh ⊢
  generalize (execOp a.eval o).run P w = r at *
  cases r with
  | ok x w' =>
    cases x with
    | value v => exact ⟨hh, hput v⟩
    | skip => exact ⟨hh, hput _⟩
    | defer d => exact absurd rfl (hnd _ _)
    | enter f args => exact ⟨hh.1, CallsIn.mono hh.2 (fun e w'' he => by cases e <;> first | exact ⟨he, hput _⟩ | exact ⟨he, fun _ => rfl⟩ | (obtain ⟨a', w', h'⟩ := he; exact ⟨a', w', h', fun hx => absurd rfl hx⟩))⟩
    | row nm args => exact ⟨hh.1, RowsIn.mono hh.2 (fun _ _ he => ⟨he, hput _⟩)⟩
    | round l f t as' bo => exact ⟨hh.1, RoundIn.mono hh.2 (fun e w'' he => by cases e <;> first | exact ⟨he, hput _⟩ | exact ⟨he, fun _ => rfl⟩ | (obtain ⟨a', w', h'⟩ := he; exact ⟨a', w', h', fun hx => absurd rfl hx⟩))⟩
    | _ => exact hh.elim
  | halt x w' => cases x <;> simp only [Oper.uponIn] at hh ⊢; exact ⟨hh, fun _ => trivial⟩
end
/-- an operation that defers nothing -/
def quietOp (P : Program) (o : Oper) : Prop := plainOp o.op = true ∨ ∃ f args ats, o.op = .call ⟨.value (.func f), args, ats⟩ ∧ ∀ args w, (callFunc f args).run P w = .ok (.enter f args) w
theorem quietOp.no {P : Program} {o : Oper} (h : quietOp P o) : (∀ c, o.op ≠ .defer c) ∧ ∀ a : Act, noDefer P a.eval o := by
  rcases h with h | ⟨f, args, ats, h, he⟩
  · exact ⟨fun c hc => (by rw [hc] at h; cases h), fun a => noDefer_plain h⟩
  · exact ⟨fun c hc => (by rw [hc] at h; cases h), fun a => noDefer_call h he⟩
section
variable {G : Pr} {tab : Tab} {B : Base} {N : Nat} {esc : Nat → Bool}
/-- operations in the order of the text that defer nothing -/
theorem text_keep (hP : TabOk G.p tab) {ops : Array Oper} {Q : Exit → Act → World → Prop} {K : St → Prop} {l2 : List Nat} {D : List Deferred} (hQ : ∀ s a w, Conc B N s a w → a.defers = D → K s → wpOpsIn Fence.wide 0 G.p ops Q l2 a w) (hX : ∀ x a w, PX G B N x a w → a.defers = D → Q x a w) : ∀ (l : List Oper) (k : Nat) (s : St) (a : Act) (w : World), (∀ j, j < l.length → l[j]? = ops[k + j]?) → (∀ o ∈ l, dstOk N o = true) → (∀ o ∈ l, quietOp G.p o) →
    aText G tab esc ops l s K → Conc B N s a w → a.defers = D → wpOpsIn Fence.wide 0 G.p ops Q (List.range' k l.length ++ l2) a w
  | [], k, s, a, w, _, _, _, h, hc, hD => hQ s a w hc hD h
  | o :: r, k, s, a, w, hl, hd, hq, h, hc, hD => by
    have h0 : ops[k]? = some o := by simpa using (hl 0 (by simp)).symm
    have hdo := hd o (by simp)
    have next : ∀ s' a' w', Conc B N s' a' w' → a'.defers = D → aText G tab esc ops r s' K → wpOpsIn Fence.wide 0 G.p ops Q (List.range' (k + 1) r.length ++ l2) a' w' := fun s' a' w' hc' hD' h' =>
      text_keep hP hQ hX r (k + 1) s' a' w' (fun j hj => by have := hl (j + 1) (by simpa using hj); simpa [Nat.add_assoc, Nat.add_comm 1 j] using this) (fun x hx => hd x (by simp [hx])) (fun x hx => hq x (by simp [hx])) h' hc' hD'
    simp only [List.length_cons, List.range'_succ, List.cons_append, wpOpsIn, h0]
    simp only [aText] at h
    have hc' := hc
    obtain ⟨M, lm, hca⟩ := hc
    have hput : (a.put o.dst undef).defers = D := by rw [← hD]; cases o.dst <;> rfl
    rcases wanted_of hca.env h with ⟨hw, h⟩ | ⟨hw, h⟩
    · rw [if_pos hw]
      obtain ⟨n1, n2⟩ := (hq o (by simp)).no
      have hs := Oper_wpIn_keep n1 (n2 a) (show o.wpIn Fence.wide 0 G.p a w _ _ from aop_sound (ρ := none) (n := 0) hP (fun p hp => hp) hdo h hca)
      refine Oper_wpIn_exit (fun a' w' ⟨⟨s', h1, h2⟩, h3⟩ => next s' a' w' h1 (h3.trans hD) h2) (fun x a' w' ⟨h1, h2⟩ => ?_) hs
      obtain ⟨ch, rfl, h1⟩ := h1.panic
      exact hX _ _ _ h1 ((h2 (by simp)).trans hD)
    · rw [if_neg (by rw [hw]; simp)]
      exact ⟨fun _ _ => trivial, next _ _ _ (hc'.skip hdo) hput h⟩
end
section
variable {P : Program} {tab : Tab} {esc : Nat → Bool}
/-- what slots hold, as a state without local variables -/
theorem Conc.only {B : Base} {N : Nat} {s : St} {a : Act} {w : World} (hc : Conc B N s a w) (e0 : Env) (h : Env.le s.e e0) : Conc B N ⟨e0, [], s.H⟩ a w :=
  hc.le ⟨h, by simp [Loc.w], List.Sublist.refl _⟩
/-- A CLOSURE THAT RECOVERS: one region, whose first operation recovers -/
theorem dcon_of_region (hP : TabOk P tab) {g : FuncId} {fn : Func} {id : Nat} {ops : Array Oper} (hf : P.funcs[g]? = some fn) (hb : fn.body = some (.region id ops false)) (hr : fn.results = #[]) {caps : List AV} {H : Heap} {x : Option Value} {Q : Heap → Prop} {R : Value → Heap → Prop}
    {o0 : Oper} {args : Array Operand} {ats : Array TypeId} (h0 : ops[0]? = some o0) (hop : o0.op = .call ⟨.builtin .recover, args, ats⟩) (hg : o0.guard = none) (hs : (slotsOk fn.ntmps (.region id ops false) && Nat.ble caps.length fn.ntmps) = true) (hx : ∀ v, x = some v → v.oneCell' = true) (hq : ∀ o ∈ ops.toList.drop 1, quietOp P o)
    (h : aText ⟨P, none, 0⟩ tab esc ops (ops.toList.drop 1) ⟨Env.put (initEnv 0 caps) o0.dst (.g (.v (x.getD .nilIface))), [], H⟩ fun s => ∃ H' : Heap, List.Sublist H' s.H ∧ Q H') : DCon P g caps H x Q R := by
  intro M w vs u hG hI hargs hu
  rw [Bool.and_eq_true] at hs
  have hlen := hargs.length
  have hle := Nat.le_of_ble_eq_true hs.2
  refine callsDIn_wide_of_wpS hf hb fun c₀ cs hc₀ => ?_
  have hrec : ∃ v cs', (recoverD (c₀ :: cs) = some (v, cs') ∨ (recoverD (c₀ :: cs) = none ∧ v = .nilIface ∧ cs' = c₀ :: cs)) ∧ v = x.getD .nilIface ∧ ∃ u', cs' = { c₀ with mode := u' } :: cs ∧ settle u' = .returning := by
    cases x with
    | none =>
      have hm : c₀.mode = .returning := hc₀.trans hu
      refine ⟨_, _, Or.inr ⟨by simp [recoverD, hm], rfl, rfl⟩, rfl, .returning, ?_, rfl⟩
      cases c₀; simp at hm; simp [hm]
    | some v =>
      obtain ⟨ch, hch, older, rfl, hold⟩ := hu
      have hm : c₀.mode = .panicking ({ v, recovered := false } :: older) := hc₀.trans hch
      refine ⟨v, _, Or.inl (by simp only [recoverD, hm]), rfl, .panicking ({ v, recovered := true } :: older), rfl, ?_⟩
      have hdw : older.dropWhile (!·.goexit) = [] := by
        clear hch hm
        induction older with
        | nil => rfl
        | cons p r ih =>
          rw [List.dropWhile_cons, hold p (by simp)]
          exact ih fun q hq => hold q (by simp [hq])
      simp [settle, hdw]
  obtain ⟨v, cs', hrec, rfl, u', rfl, hset⟩ := hrec
  refine wpS_recover h0 hop hg hrec ?_
  have hsz : 0 < ops.size := (Array.getElem?_eq_some_iff.1 h0).1
  have hv : rep M (.v (x.getD .nilIface)) (x.getD .nilIface) := by
    simp only [rep]
    refine ⟨trivial, ?_⟩
    cases x with
    | none => rfl
    | some v => exact hx v rfl
  have hd : ∀ o ∈ ops.toList, dstOk fn.ntmps o = true := fun o ho => List.all_eq_true.1 hs.1 o ho
  have hd0 := hd o0 (by simpa using Array.mem_of_getElem? h0)
  have hc : ConcAt ⟨H.keys, M, w, hG, []⟩ fn.ntmps M (fun _ => 0) ⟨initEnv 0 caps, [], H⟩ { tmps := vs.toArray ++ Array.replicate (fn.ntmps - vs.toArray.size) undef, defers := [] } w := by
    refine ⟨Evo.refl _ _ _, fun b hb => Or.inl hb, hI, by simp; omega, Marked.nil, init_env 0 _ hargs fun j v hj => ?_⟩
    have hj' := (List.getElem?_eq_some_iff.1 hj).1
    simp [Array.getElem?_append, hj']
    exact (List.getElem?_eq_some_iff.1 hj).2
  have hc1 := hc.next (dst := o0.dst) (Evo.refl _ _ _) hI (fun b hb => Or.inl hb) (dst_ok hd0) (t := .g (.v (x.getD .nilIface))) hv
  have hlist : List.range' 1 (ops.size - 1) = List.range' 1 (ops.toList.drop 1).length ++ [] := by simp
  rw [hlist]
  refine text_keep (G := ⟨P, none, 0⟩) (B := ⟨H.keys, M, w, hG, []⟩) (N := fn.ntmps) (D := []) hP ?_ ?_ (ops.toList.drop 1) 1 _ _ w (fun j hj => ?_) (fun o ho => hd o (List.mem_of_mem_drop ho)) hq h ⟨M, _, hc1⟩ (by cases o0.dst <;> rfl)
  · rintro s a w' ⟨M', lm, hc'⟩ hD ⟨H', k1, k2⟩
    refine ⟨hD, u', rfl, ?_⟩
    refine ⟨.tuple #[], ?_, Or.inl ⟨⟨_, rfl⟩, hset, M', H', hc'.evo, hc'.right.sub k1, fun b hb => ?_, k2⟩⟩
    · simp [results, hr]
    · exact hc'.keys b (by rw [Heap.keys_append]; exact List.mem_append.2 (Or.inr ((k1.map _).subset hb)))
  · rintro y a w' ⟨_, _, _, _, _, _, hx⟩
    exact hx.elim
  · rw [List.getElem?_drop]
    simp
/-- a frame's end: its marks, and then its deferred call -/
theorem leaves_defer (hP : TabOk P tab) {fn : Func} {B : Base} {N : Nat} {M : Mem} {lm : Nat → Nat} {e0 : Env} {H0 : Heap} {a : Act} {g : FuncId} {caps : List AV} {cvs : List Value} {x : Option Value} {u : FrameMode} {Q : AV → Heap → Prop} {R : Value → Heap → Prop}
    (he : ∀ args w, (callFunc g args).run P w = .ok (.enter g args) w) (hcaps : repT M caps cvs) (hu : modeOf u x)
    (hd : DCon P g caps H0 x (fun H' => aretL tab ⟨e0, [], H'⟩ fn.results.toList fun xs => ∃ r H2, Le (retAV xs) r ∧ List.Sublist H2 H' ∧ Q r H2) R) : ∀ (Ds : List Nat) (w : World), ConcAt B N M lm ⟨e0, [], H0⟩ { a with defers := [] } w → B.df = [] → Ds.Nodup → (∀ D ∈ Ds, w.heap[D]? = some (.deferred (some [])) ∧ B.w.heap.size ≤ D ∧ D ∉ Heap.keys (lheap lm ([] : Loc) ++ H0)) →
    LeavesInM Fence.wide 0 P fn a.tmps (fun e w' => (∃ v, e = .returned v ∧ ∃ M' r H', Evo B.K B.M B.w M' w' ∧ Inv M' H' w' ∧ (∀ b ∈ H'.keys, b ∈ B.K ∨ B.w.heap.size ≤ b) ∧ rep M' r v ∧ Q r H') ∨ ∃ ch v, e = .panicked ch ∧ panV ch v ∧ ∃ M' H', Evo B.K B.M B.w M' w' ∧ Inv M' H' w' ∧ (∀ b ∈ H'.keys, b ∈ B.K ∨ B.w.heap.size ≤ b) ∧ R v H') (Ds.map markOf ++ [{ target := .fn (.func g) cvs.toArray, args := #[] }]) u w
  | [], w, hc, hdf, _, _ => by
    have hune : u ≠ .run := by
      cases x with
      | none => rw [show u = .returning from hu]; simp
      | some v => obtain ⟨ch, rfl, _⟩ := hu; simp
    refine ⟨hune, Or.inr ⟨nofun, .func g, cvs.toArray, g, cvs.toArray, rfl, ?_, fun _ _ => trivial, (hd M w cvs u hc.gh hc.right hcaps hu).mono fun e u' w' h => ?_⟩⟩
    · show (invoke (.fn (.func g) cvs.toArray) #[]).run P w = _
      simp only [invoke]
      rw [show #[] ++ cvs.toArray = cvs.toArray by simp]
      exact he _ w
    · rcases h with ⟨⟨r, rfl⟩, hset, M', H', e1, e2, e3, hq⟩ | ⟨ch, ch', v, rfl, hr, hp, M', H', e1, e2, e3, hR⟩
      · have hc2 := hc.next (dst := none) e1 e2 e3 trivial (t := .undef) (u := undef) rfl
        show LeavesInM _ _ _ _ _ _ [] (settle u') w'
        rw [hset]
        exact LeavesInM.mono (fun e w h => Or.inl h) (leaves_end (s := ⟨e0, [], H'⟩) (a := { a with defers := [] }) hP hq [] w' hc2 List.nodup_nil nofun)
      · have hc2 := hc.next (dst := none) e1 e2 e3 trivial (t := .undef) (u := undef) rfl
        show LeavesInM _ _ _ _ _ _ [] (raised u' ch) w'
        rw [hr]
        refine Or.inr ⟨ch', v, rfl, hp, M', H', hc2.evo, hc2.right, fun b hb => ?_, hR⟩
        exact hc2.keys b (by rw [Heap.keys_append]; exact List.mem_append.2 (Or.inr hb))
  | D :: Ds, w, hc, hdf, hn, hD => by
    have hune : u ≠ .run := by
      cases x with
      | none => rw [show u = .returning from hu]; simp
      | some v => obtain ⟨ch, rfl, _⟩ := hu; simp
    rw [List.nodup_cons] at hn
    obtain ⟨h1, h2, h3⟩ := hD D (by simp)
    refine ⟨hune, .inl ⟨D, _, rfl, run_takeDeferred h1, leaves_defer hP he hcaps hu hd Ds _ (hc.putObj h3 h2 (by simp) h1 (cell_deferred h1)) hdf hn.2 fun D' hD' => ?_⟩⟩
    obtain ⟨k1, k2, k3⟩ := hD D' (List.mem_cons_of_mem _ hD')
    have hne : D' ≠ D := by rintro rfl; exact hn.1 hD'
    exact ⟨(World.putObj_heap_other hne).trans k1, k2, k3⟩
theorem T.le_same : ∀ t : T, T.le t t
  | .g x => Le.refl x
  | .lp _ _ => ⟨rfl, rfl⟩
  | .undef => trivial
  | .junk => trivial
theorem T.le_junk : ∀ t : T, T.le t .junk
  | .g _ => trivial
  | .lp _ _ => trivial
  | .undef => trivial
  | .junk => trivial
theorem low_le {e : Env} {lo : Nat} : ∀ {e0 : Env}, (∀ p ∈ e0, e.low lo p.1 = p.2) → Env.le e e0
  | [], _ => trivial
  | (i, t) :: r, h => by
    refine ⟨?_, low_le fun p hp => h p (List.mem_cons_of_mem _ hp)⟩
    have := h (i, t) List.mem_cons_self
    unfold Env.low at this
    cases hb : Nat.blt i lo with
    | true =>
      simp only [hb, cond_true] at this
      rw [this]
      exact T.le_same _
    | false =>
      simp only [hb, cond_false] at this
      rw [← this]
      exact T.le_junk _
/-- A FUNCTION THAT DEFERS A CALL, in its second region's last operation -/
theorem conX_of_defer (hP : TabOk P tab) {f : FuncId} {fn : Func} {id0 id1 : Nat} {ops0 ops1 : Array Oper} {c2 : Code} (hf : P.funcs[f]? = some fn) (hb : fn.body = some (.seq (.region id0 ops0 false) (.seq (.region id1 ops1 false) c2))) (hent : ∀ args w, (callFunc f args).run P w = .ok (.enter f args) w) {args : List AV} {H : Heap} {Q : AV → Heap → Prop} {R : Value → Heap → Prop}
    (hs : (slotsOk fn.ntmps (.seq (.region id0 ops0 false) (.seq (.region id1 ops1 false) c2)) && Nat.ble args.length fn.ntmps) = true) (k : Nat) {od : Oper} {fop : Operand} {ats : Array TypeId} (hk : ops1[k]? = some od) (hlast : ops1.size = k + 1) (hod : od.op = .defer ⟨.value fop, #[], ats⟩) (hdg : od.guard = none) (hq0 : ∀ o ∈ ops0.toList, quietOp P o) (hq1 : ∀ o ∈ ops1.toList.take k, quietOp P o) (lo : Nat)
    (h : (∀ x ∈ args, Wf x) → H.keys.Nodup → aText ⟨P, none, 0⟩ tab esc ops0 ops0.toList ⟨initEnv 0 args, [], H⟩ fun s1 => aText ⟨P, none, 0⟩ tab esc ops1 (ops1.toList.take k) s1 fun s2 => ∃ g caps e0, s2.e.ev fop = .g (.fn (.func g) caps) ∧ (∀ args w, (callFunc g args).run P w = .ok (.enter g args) w) ∧
      sem ⟨P, some fun v lw H3 => (∀ p ∈ e0, lw p.1 = p.2) ∧ DCon P g caps H3 (some v) (fun H' => aretL tab ⟨e0, [], H'⟩ fn.results.toList fun xs => ∃ r H2, Le (retAV xs) r ∧ List.Sublist H2 H' ∧ Q r H2) R, lo⟩ fn.ntmps c2
        (fun x s3 => (x = .normal ∨ x = .ret) ∧ Env.le s3.e e0 ∧ DCon P g caps s3.H none (fun H' => aretL tab ⟨e0, [], H'⟩ fn.results.toList fun xs => ∃ r H2, Le (retAV xs) r ∧ List.Sublist H2 H' ∧ Q r H2) R) ⟨s2.e.put od.dst .undef, s2.L, s2.H⟩) : ConX P f args H Q R := by
  intro M w vs hG hI hargs
  simp only [slotsOk, Bool.and_eq_true] at hs
  rw [hent]
  show Calls P f vs.toArray w _
  have hwf : ∀ x ∈ args, Wf x := fun x hx => Wf.tup.key hargs hx
  have hlen := hargs.length
  have hle := Nat.le_of_ble_eq_true hs.2
  have hd0 : ∀ o ∈ ops0.toList, dstOk fn.ntmps o = true := fun o ho => List.all_eq_true.1 hs.1.1 o ho
  have hd1 : ∀ o ∈ ops1.toList, dstOk fn.ntmps o = true := fun o ho => List.all_eq_true.1 hs.1.2.1 o ho
  have hr0 : List.range ops0.size = List.range' 0 ops0.toList.length ++ [] := by rw [List.append_nil, Array.length_toList, List.range_eq_range']
  have hr1 : List.range ops1.size = List.range' 0 (ops1.toList.take k).length ++ [k] := by
    rw [List.length_take, Array.length_toList, Nat.min_eq_left (by omega), hlast, List.range_eq_range', ← List.range'_append_1]
    simp
  refine (callsIn_wide (n := 0)).1 (callsIn_of_wp_marks hf hb trivial (wpIn_seq (wpIn_region ?_)) rfl)
  rw [hr0]
  refine text_keep (G := ⟨P, none, 0⟩) (B := ⟨H.keys, M, w, hG, []⟩) (N := fn.ntmps) (D := []) hP ?_ ?_ ops0.toList 0 _ _ w (fun j hj => by simp) hd0 hq0 (h hwf hI.nodup) ⟨M, fun _ => 0, ?_⟩ rfl
  rotate_left
  · rintro y a w' ⟨_, _, _, _, _, _, hx⟩
    exact hx.elim
  · refine ⟨Evo.refl _ _ _, fun b hb => Or.inl hb, hI, by simp; omega, Marked.nil, init_env 0 _ hargs fun j v hj => ?_⟩
    have hj' := (List.getElem?_eq_some_iff.1 hj).1
    simp [Array.getElem?_append, hj']
    exact (List.getElem?_eq_some_iff.1 hj).2
  intro s1 a1 w1 hc1 hD1 h1
  refine wpIn_seq (wpIn_region ?_)
  rw [hr1]
  refine text_keep (G := ⟨P, none, 0⟩) (B := ⟨H.keys, M, w, hG, []⟩) (N := fn.ntmps) (D := []) hP ?_ ?_ (ops1.toList.take k) 0 s1 a1 w1 (fun j hj => ?_) (fun o ho => hd1 o (List.mem_of_mem_take ho)) hq1 h1 hc1 hD1
  rotate_left
  · rintro y a w' ⟨_, _, _, _, _, _, hx⟩
    exact hx.elim
  · rw [List.length_take] at hj
    rw [List.getElem?_take, if_pos (by omega)]
    simp
  rintro s2 a2 w2 ⟨M2, lm2, hc2⟩ hD2 ⟨g, caps, e0, hfop, hgent, hsem⟩
  have hfv := hc2.ev fop
  rw [hfop] at hfv
  simp only [repX, rep] at hfv
  obtain ⟨cvs, hfv, hcaps⟩ := hfv
  simp only [wpOpsIn, hk]
  rw [if_pos (by simp [Region.wanted, hdg])]
  have hrun : (od.semAt Fence.wide.round a2.eval).run P w2 = .ok (.defer { target := .fn (.func g) cvs.toArray, args := #[] }) w2 := by
    show (execOp a2.eval od).run P w2 = _
    unfold execOp
    simp only [hod, resolve, hfv, Deferred.ofValue, pure_bind]
    simp
  refine ⟨fun _ _ => trivial, ?_⟩
  rw [hrun]
  show Code.wpIn _ _ _ c2 _ _ w2
  have hgh2 : GW w2 ∧ nG ≤ w2.heap.size ∧ ∀ b ∈ Heap.keys (lheap lm2 s2.L ++ s2.H), nG ≤ b := by
    refine ⟨hc2.gh.1, hc2.gh.2.1, fun b hb => ?_⟩
    rcases hc2.keys b hb with h | h
    · exact hG.2.2 b h
    · exact Nat.le_trans hG.2.1 h
  obtain ⟨d, hdd⟩ : ∃ d : Deferred, d = { target := .fn (.func g) cvs.toArray, args := #[] } := ⟨_, rfl⟩
  rw [← hdd, hD2]
  obtain ⟨p1, p2, p3⟩ := env_put (fun i => hc2.env i) hc2.size (dst_ok (hd1 od (by simpa using Array.mem_of_getElem? hk))) (t := .undef) (u := undef) rfl
  have hput : (Act.put { a2 with defers := [d] } od.dst undef).tmps = (a2.put od.dst undef).tmps := by cases od.dst <;> rfl
  have hc3 : ConcAt ⟨Heap.keys (lheap lm2 s2.L ++ s2.H), M2, w2, hgh2, [d]⟩ fn.ntmps M2 lm2 ⟨s2.e.put od.dst .undef, s2.L, s2.H⟩ (Act.put { a2 with defers := [d] } od.dst undef) w2 := by
    refine ⟨Evo.refl _ _ _, fun b hb => Or.inl hb, hc2.inv, ?_, ⟨[], ?_, List.nodup_nil, nofun⟩, ?_⟩
    · rw [hput]; exact p2
    · cases od.dst <;> rfl
    · intro i
      rw [hput]
      exact p1 i
  have conv : ∀ {M' : Mem} {w' : World}, Evo (Heap.keys (lheap lm2 s2.L ++ s2.H)) M2 w2 M' w' → Evo H.keys M w M' w' := fun e => hc2.evo.trans e fun b hb => hc2.keys b hb
  have convK : ∀ {H' : Heap}, (∀ b ∈ H'.keys, b ∈ Heap.keys (lheap lm2 s2.L ++ s2.H) ∨ w2.heap.size ≤ b) → ∀ b ∈ H'.keys, b ∈ H.keys ∨ w.heap.size ≤ b := fun hk b hb => (hk b hb).elim (hc2.keys b) fun h => Or.inr (Nat.le_trans hc2.evo.size h)
  refine wpIn_mono (wpIn_wide.2 (hsem hs.1.2.2 _ _ w2 ⟨M2, lm2, hc3⟩)) ?_
  have out : ∀ {s3 : St} {a' : Act} {w' : World} {x : Option Value} {u : FrameMode}, Conc ⟨Heap.keys (lheap lm2 s2.L ++ s2.H), M2, w2, hgh2, [d]⟩ fn.ntmps s3 a' w' → Env.le s3.e e0 → modeOf u x → DCon P g caps s3.H x (fun H' => aretL tab ⟨e0, [], H'⟩ fn.results.toList fun xs => ∃ r H2, Le (retAV xs) r ∧ List.Sublist H2 H' ∧ Q r H2) R → LeavesInM Fence.wide 0 P fn a'.tmps (fun e w' => (∃ v, e = .returned v ∧ ∃ M' r H', Evo H.keys M w M' w' ∧ Inv M' H' w' ∧ (∀ b ∈ H'.keys, b ∈ H.keys ∨ w.heap.size ≤ b) ∧ rep M' r v ∧ Q r H') ∨ ∃ ch v, e = .panicked ch ∧ panV ch v ∧ ∃ M' H', Evo H.keys M w M' w' ∧ Inv M' H' w' ∧ (∀ b ∈ H'.keys, b ∈ H.keys ∨ w.heap.size ≤ b) ∧ R v H') a'.defers u w' := by
    intro s3 a' w' x u hc hle hu hd
    obtain ⟨M', lm, hc⟩ := hc.only e0 hle
    obtain ⟨Ds, d1, d2, d3⟩ := hc.defers
    rw [d1, show [d] = [{ target := .fn (.func g) cvs.toArray, args := #[] }] by rw [hdd]]
    refine LeavesInM.mono (fun e w h => ?_) (leaves_defer (B := ⟨Heap.keys (lheap lm2 s2.L ++ s2.H), M2, w2, hgh2, []⟩) hP hgent (repT.mono hc.evo.sub _ _ hcaps) hu hd Ds w' ⟨hc.evo, hc.keys, hc.inv, hc.size, Marked.nil, hc.env⟩ rfl d2 d3)
    rcases h with ⟨v, rfl, M', r, H', a, b, c, d, e⟩ | ⟨ch, v, rfl, hp, M', H', a, b, c, d⟩
    · exact Or.inl ⟨v, rfl, M', r, H', conv a, b, convK c, d, e⟩
    · exact Or.inr ⟨ch, v, rfl, hp, M', H', conv a, b, convK c, d⟩
  rintro e a' w' (⟨s3, hc, hx, hle, hd⟩ | ⟨ch, v, s', rfl, hp, hc, hfix, hd⟩)
  · rcases hx with rfl | rfl
    · exact out (x := none) (u := .returning) hc hle rfl hd
    · exact out (x := none) (u := .returning) hc hle rfl hd
  · exact out (x := some v) (u := .panicking ch) hc (low_le hfix) ⟨ch, rfl, hp⟩ hd
theorem ConX.con {f : FuncId} {args : List AV} {H : Heap} {Q : AV → Heap → Prop} (h : ConX P f args H Q fun _ _ => False) : Con P f args H Q := fun M w vs h0 h1 h2 => by
  have := h M w vs h0 h1 h2
  unfold CallX at this
  unfold CallTo
  split at this
  · exact this
  · exact Calls.mono this fun e w' h => h.elim id fun ⟨_, _, _, _, _, _, _, _, _, h⟩ => h.elim
  · exact this.elim
end
end Go.Proofs.YtahdkhklngjmoaaGreatDoor

/-
  Regions that draw their order, where more than one order must be looked at. No condition.
-/
namespace Go.Proofs.YtahdkhklngjmoaaGreatDoor
open Go.RowKit

/-- may these be taken first, one behind the other? -/
def ordPre (tab : Tab) (esc : Nat → Bool) (ops : Array Oper) : List Nat → Array Bool → Bool
  | [], _ => true
  | i :: r, listed => (Region.ready .any ops listed).contains i && (okM tab esc ops i listed || (Region.ready .any ops listed == [i] || okA esc ops i listed)) && ordPre tab esc ops r (listed.setIfInBounds i true)
def setAll : List Nat → Array Bool → Array Bool
  | [], l => l
  | i :: r, l => setAll r (l.setIfInBounds i true)
section
variable {P : Pr} {tab : Tab} {esc : Nat → Bool} {pins : Heap} {ops : Array Oper} {N : Nat} {Q : Exit → St → Prop} {s : St}
theorem aOrd_pre {K : St → Prop} (hK : ∀ a b, St.Eqv a b → K a → K b) (hlo : loOk P.lo ops = true) (f : Nat) : ∀ {ord : List Nat} {listed : Array Bool} {s : St}, ordPre tab esc ops ord listed = true → Closed .any ops listed → (noLoad ops listed = false → ∀ p ∈ pins, p ∈ s.H) → aOrd P tab esc pins ops ord listed s (aAny P tab esc pins ops K f (setAll ord listed)) → aAny P tab esc pins ops K (ord.length + f) listed s
  | [], listed, s, ho, _, _, h => by
    rw [List.length_nil, Nat.zero_add]
    exact h
  | i :: r, listed, s, ho, hc, hp, h => by
    rw [List.length_cons, Nat.add_right_comm]
    simp only [ordPre, Bool.and_eq_true, List.contains_eq_mem, decide_eq_true_eq, Bool.or_eq_true, beq_iff_eq] at ho
    obtain ⟨⟨hr, hm⟩, ho⟩ := ho
    have hc' := closed_set hc hr
    have up : noLoad ops (listed.setIfInBounds i true) = false → noLoad ops listed = false := fun h0 => by
      cases hh : noLoad ops listed with
      | false => rfl
      | true => rw [noLoad_mono hh] at h0; cases h0
    rcases hm with hm | hm
    · obtain ⟨oi, hi, hmo, hfree⟩ := okM_spec hm
      refine aAny_first hK hi (loOk_at hlo hi) hmo (r.length + f) listed s hp hc hfree hr ?_
      obtain ⟨t, hy, h⟩ := (mobile_iff hi hmo).1 h
      exact (mobile_iff hi hmo).2 ⟨t, hy, aOrd_pre hK hlo f ho hc' (fun h0 => hp (up h0)) h⟩
    rcases hm with hm | hm
    rotate_left
    · obtain ⟨oi, t, d, hi, hop, hg, hd, he, hfree⟩ := okA_spec hm
      refine aAny_alloc hK hi hop hg hd (loOk_at hlo hi d hd) he (r.length + f) listed s hc hfree hr ?_
      obtain ⟨ti, k1, k2, k3, k4, k5, k6⟩ := (alloc_iff hi hop hg hd he).1 h
      exact (alloc_iff hi hop hg hd he).2 ⟨ti, k1, k2, k3, k4, k5, aOrd_pre hK hlo f ho hc' (fun _ => k5) k6⟩
    · refine ⟨fun h0 => (by rw [hm] at h0; cases h0), fun j hj => ?_⟩
      rw [hm] at hj
      obtain rfl : j = i := by simpa using hj
      show aOpAt P tab esc pins ops listed j s _
      unfold aOrd aOpAt at h
      unfold aOpAt
      split at h
      · exact h
      · refine aG_mono h (fun hy => ?_) (fun hn => aOrd_pre hK hlo f ho hc' (fun h0 => hp (up h0)) hn)
        obtain ⟨e, L, H⟩ := s
        exact aop_map (fun x _ => rfl) (fun _ _ h => h) rfl (fun t L' H' _ hH hk => keepP_iff.2 ⟨(keepP_iff.1 hk).1, aOrd_pre hK hlo f ho hc' (fun h0 => pinned hH (fun hmj => (keepP_iff.1 hk).1 (by
          rw [hmj, Bool.false_or]
          unfold lastW; rw [h0, Bool.and_false])) (hp (up h0))) (keepP_iff.1 hk).2⟩) hy
/-- a region whose operations come in whatever order: some first, the rest as they come -/
theorem sem_any {id : Nat} (hP : TabOk P tab) (hm : P.p.follows .mixedOrders = true) (ord : List Nat) (f : Nat) (pins : Heap) (hlen : Nat.beq (ord.length + f) ops.size = true) (hlo : loOk P.lo ops = true) (ho : ordPre tab esc ops ord (Array.replicate ops.size false) = true) (hp : ∀ p ∈ pins, p ∈ s.H)
    (h : ∀ K : St → Prop, (∀ s, Q .normal s → K s) → aOrd P tab esc pins ops ord (Array.replicate ops.size false) s (aAny P tab esc pins ops K f (setAll ord (Array.replicate ops.size false)))) : sem P N (.region id ops true) Q s := by
  intro hs B a w hc
  have hd : ∀ o ∈ ops.toList, dstOk N o = true := fun o ho => List.all_eq_true.1 hs o ho
  refine (wpIn_wide (n := 0)).1 (show (Code.region id ops true).wpIn (Fr none) 0 P _ a w from wpIn_region_any hm ?_)
  have hany := aOrd_pre (P := P) (tab := tab) (esc := esc) (pins := pins) (K := fun s => ∃ s', s'.Eqv s ∧ Q .normal s') (fun a b hab ⟨s', h1, h2⟩ => ⟨s', h1.trans hab, h2⟩) hlo f ho
    (fun j o hj => by exfalso; simp [Array.getElem?_replicate] at hj; split at hj <;> simp at hj) (fun _ => hp) (h _ fun s hs => ⟨s, St.Eqv.refl s, hs⟩)
  rw [beq_true hlen] at hany
  exact any_sound (Q := QC P B N Q) hP (fun s a w hc ⟨s', h1, h2⟩ => Or.inl ⟨s', hc.eqv h1.symm, h2⟩) (fun x a w hx => Or.inr hx) (fun i o ho => hd o (by
    have := Array.mem_of_getElem? ho
    simpa using this)) _ _ s a _ (fun _ => hp) hany hc.drew
end
/-- an end up to the order of the objects -/
theorem Con.permR {P : Program} {f : FuncId} {args : List AV} {H : Heap} {Q : AV → Heap → Prop} (h : Con P f args H fun r H' => ∃ H2 : Heap, H2.Perm H' ∧ Q r H2) : Con P f args H Q :=
  fun M w vs h0 h1 h2 => (h M w vs h0 h1 h2).mono fun _ _ ⟨M', r, _, a, b, c, d, H2, hp, e⟩ => ⟨M', r, H2, a, b.perm hp.symm, fun b hb => c b ((hp.map _).mem_iff.1 hb), d, e⟩
theorem ConX.permR {P : Program} {f : FuncId} {args : List AV} {H : Heap} {Q : AV → Heap → Prop} {R : Value → Heap → Prop} (h : ConX P f args H (fun r H' => ∃ H2 : Heap, H2.Perm H' ∧ Q r H2) (fun v H' => ∃ H2 : Heap, H2.Perm H' ∧ R v H2)) : ConX P f args H Q R :=
  fun M w vs h0 h1 h2 => (h M w vs h0 h1 h2).mono (fun _ _ ⟨M', r, _, a, b, c, d, H2, hp, e⟩ => ⟨M', r, H2, a, b.perm hp.symm, fun b hb => c b ((hp.map _).mem_iff.1 hb), d, e⟩) fun _ _ ⟨M', _, a, b, c, H2, hp, e⟩ => ⟨M', H2, a, b.perm hp.symm, fun b hb => c b ((hp.map _).mem_iff.1 hb), e⟩
/-- what stands at the end of a heap, in another order -/
theorem sub_of_perm {X : Heap} : ∀ {A H : Heap}, H.Perm (A ++ X) → ∃ H2 : Heap, List.Sublist H2 H ∧ X.Perm H2
  | [], H, h => ⟨H, List.Sublist.refl _, h.symm⟩
  | p :: A, H, h => by
    have hm : p ∈ H := h.mem_iff.2 List.mem_cons_self
    obtain ⟨L, R, rfl⟩ := List.append_of_mem hm
    have h2 : (L ++ R).Perm (A ++ X) := (List.perm_middle.symm.trans h).cons_inv
    obtain ⟨H2, k1, k2⟩ := sub_of_perm h2
    exact ⟨H2, k1.trans (List.Sublist.append_left (List.sublist_cons_self _ _) _), k2⟩
theorem fix2 {f : Nat → T} {i j : Nat} {a b : T} (h1 : f i = a) (h2 : f j = b) : ∀ p ∈ [(i, a), (j, b)], f p.1 = p.2 := by
  intro p hp
  rcases List.mem_cons.1 hp with rfl | hp
  · exact h1
  · rcases List.mem_cons.1 hp with rfl | hp
    · exact h2
    · cases hp
theorem quiets {P : Program} {l : List Oper} (h : (l.all fun o => plainOp o.op) = true) : ∀ o ∈ l, quietOp P o := fun o ho => Or.inl (List.all_eq_true.1 h o ho)
/-- objects of cells -/
def boxes (G : List (Nat × List AV)) : Heap := G.map fun p => (p.1, .cells p.2)
theorem inv_ices {w : World} : ∀ (G : List (Nat × List AV)) {M : Mem} {X H : Heap}, Inv M H w → H.Perm (boxes G ++ X) → ∃ M', Evo H.keys M w M' w ∧ Inv M' X w ∧ ∀ p ∈ G, atL M' p.2 p.1 0
  | [], M, X, H, h, hp => ⟨M, (Evo.refl [] M w).mono (by simp), h.perm hp, nofun⟩
  | (b, cs) :: G, M, X, H, h, hp => by
    have h1 := h.perm hp
    obtain ⟨M1, g1, g2, g3⟩ := inv_ice h1 (Heap.Rem.here (H := boxes G ++ X))
    obtain ⟨M2, k1, k2, k3⟩ := inv_ices G g2 (List.Perm.refl _)
    have hk : ∀ k, k ∈ Heap.keys ((b, AObj.cells cs) :: (boxes G ++ X)) → k ∈ H.keys := fun k hk => (hp.map (·.1)).mem_iff.2 hk
    refine ⟨M2, (g1.mono hk).trans k1 fun k hk' => Or.inl (hk k (List.mem_cons_of_mem _ hk')), k2, fun p hp => ?_⟩
    rcases List.mem_cons.1 hp with rfl | hp
    · exact atL.mono k1.sub _ _ _ g3
    · exact k3 p hp
/-- what a call answers: some objects are kept for good, the others stand in whatever order -/
theorem ConX.ices {P : Program} {f : FuncId} {args : List AV} {H : Heap} {Q : AV → Heap → Prop} {R : Value → Heap → Prop} (h : ConX P f args H (fun r H' => ∃ (G : List (Nat × List AV)) (X' : Heap) (r' : AV), H'.Perm (boxes G ++ X') ∧ (∀ M, (∀ p ∈ G, atL M p.2 p.1 0) → LeM M r r') ∧ Q r' X') (fun v H' => ∃ X', H'.Perm X' ∧ R v X')) : ConX P f args H Q R :=
  fun M w vs h0 h1 h2 => (h M w vs h0 h1 h2).mono (fun v w' ⟨M', r, H', a, b, c, d, G, X', r', hp, hl, hq⟩ => by
    obtain ⟨M2, g1, g2, g3⟩ := inv_ices G b hp
    refine ⟨M2, r', X', a.trans g1 c, g2, fun k hk => c k ((hp.map (·.1)).mem_iff.2 ?_), hl M2 g3 v (rep.mono g1.sub _ _ d), hq⟩
    rw [List.map_append]
    exact List.mem_append.2 (Or.inr hk)) fun v w' ⟨M', H', a, b, c, X', hp, hq⟩ => ⟨M', X', a, b.perm hp, fun k hk => c k ((hp.map (·.1)).mem_iff.2 hk), hq⟩
theorem Con.ices {P : Program} {f : FuncId} {args : List AV} {H : Heap} {Q : AV → Heap → Prop} (h : Con P f args H (fun r H' => ∃ (G : List (Nat × List AV)) (X' : Heap) (r' : AV), H'.Perm (boxes G ++ X') ∧ (∀ M, (∀ p ∈ G, atL M p.2 p.1 0) → LeM M r r') ∧ Q r' X')) : Con P f args H Q :=
  (ConX.ices (R := fun _ _ => False) (Con.x h)).con
/-! a local variable is handed on -/
/-- a state's local variable, and the others -/
inductive Loc.Rem (k : Nat) (xs : List AV) : Loc → Loc → Prop where
  | here {L : Loc} : Loc.Rem k xs ((k, xs) :: L) L
  | there {q : Nat × List AV} {L L' : Loc} : Loc.Rem k xs L L' → Loc.Rem k xs (q :: L) (q :: L')
theorem Loc.Rem.perm {k : Nat} {xs : List AV} {L L' : Loc} (lm : Nat → Nat) (h : Loc.Rem k xs L L') : (lheap lm L).Perm ((lm k, .cells xs) :: lheap lm L') := by
  induction h with
  | here => exact List.Perm.refl _
  | there _ ih => exact (ih.cons _).trans (List.Perm.swap _ _ _)
/-- what a frame holds, where a local variable lies at b -/
def Env.leB (b k : Nat) (e : Env) : Env → Prop
  | [] => True
  | (i, t) :: r => (T.le (e.get i) t ∨ ∃ off, e.get i = .lp k off ∧ t = .g (.ptr b off)) ∧ Env.leB b k e r
theorem Env.leB.get {b k : Nat} {e : Env} : ∀ {e' : Env}, Env.leB b k e e' → ∀ i, T.le (e.get i) (e'.get i) ∨ ∃ off, e.get i = .lp k off ∧ e'.get i = .g (.ptr b off)
  | [], _, i => Or.inl (T.le_junk _)
  | (j, t) :: r, h, i => by
    show T.le _ (bif Nat.beq j i then t else Env.get r i) ∨ ∃ off, _ ∧ (bif Nat.beq j i then t else Env.get r i) = _
    cases hb : Nat.beq j i with
    | true => have := beq_true hb; subst this; exact h.1
    | false => exact h.2.get i
theorem Conc.move {B : Base} {N : Nat} {s : St} {a : Act} {w : World} {k : Nat} {xs : List AV} {L' : Loc} (hL : Loc.Rem k xs s.L L') (hc : Conc B N s a w) : ∃ b, b ∉ s.H.keys ∧ ∀ e' : Env, Env.leB b k s.e e' → Conc B N ⟨e', L', (b, .cells xs) :: s.H⟩ a w := by
  obtain ⟨M, lm, hc⟩ := hc
  have hp : (lheap lm s.L ++ s.H).Perm (lheap lm L' ++ (lm k, .cells xs) :: s.H) :=
    ((hL.perm lm).append_right s.H).trans (List.perm_middle (l₁ := lheap lm L')).symm
  have hpk : ∀ b, b ∈ Heap.keys (lheap lm L' ++ (lm k, .cells xs) :: s.H) ↔ b ∈ Heap.keys (lheap lm s.L ++ s.H) := fun b => (hp.map (·.1)).mem_iff.symm
  have hi := hc.inv.perm hp
  have hn : lm k ∉ s.H.keys := by
    have := hi.nodup
    rw [Heap.keys_append, List.nodup_append] at this
    exact (List.nodup_cons.1 this.2.1).1
  refine ⟨lm k, hn, fun e' he => ⟨M, lm, hc.evo, fun b hb => hc.keys b ((hpk b).1 hb), hi, hc.size, hc.defers.sub fun b hb => (hpk b).1 hb, fun i => ?_⟩⟩
  rcases he.get i with h | ⟨off, h1, h2⟩
  · exact h.rep (hc.env i)
  · have := hc.env i
    rw [h1] at this
    rw [h2]
    simpa only [repX, rep] using this
theorem sem_move {P : Pr} {N : Nat} {c : Code} {Q : Exit → St → Prop} {s : St} (k : Nat) {xs : List AV} {L' : Loc} (hL : Loc.Rem k xs s.L L') (e' : Nat → Env) (he : ∀ b, Env.leB b k s.e (e' b)) (h : ∀ b, b ∉ s.H.keys → sem P N c Q ⟨e' b, L', (b, .cells xs) :: s.H⟩) : sem P N c Q s := fun hs B a w hc => by
  obtain ⟨b, hb, hm⟩ := hc.move hL
  exact h b hb hs B a w (hm _ (he b))
end Go.Proofs.YtahdkhklngjmoaaGreatDoor

