/-
  Texts put together: B10, F3, G15, G16. No condition.
-/
import Derived.Test.YtnjnfegafmhgnaaDoorM3
import Derived.Test.YtnjnfegafmhgnaaDoorM8
import Derived.Test.YtnjnfegafmhgnaaDoorM7
import Derived.Test.YtnjnfegafmhgnaaDoorM9
/-
  The abstract machine: a code told of frames and worlds, where a state may be weakened between statements, and ways may join. No condition.
-/
namespace Go.Proofs.YtnjnfegafmhgnaaDoor
open Go.RowKit

section
variable {P : Program} {tab : Tab} {esc : Nat → Bool} {N : Nat} {a b c : Code} {Q : Exit → St → Prop} {s t : St}
/-- a code, from every frame and world that fit a state -/
def sem (P : Program) (N : Nat) (c : Code) (Q : Exit → St → Prop) (s : St) : Prop := slotsOk N c = true → ∀ (B : Base) (a : Act) (w : World), Conc B N s a w → c.wp P (QC B N Q) a w
theorem sem_of (hP : TabOk P tab) (hm : P.follows .mixedOrders = true) (h : awp P tab esc N c Q s) : sem P N c Q s := fun hs _ a w hc => awp_sound hP hm c Q s a w hs h hc
theorem sem_le (t : St) (h : St.le s t) (k : sem P N c Q t) : sem P N c Q s := fun hs B a w hc => k hs B a w (hc.le h)
theorem sem_seq (hP : TabOk P tab) (hm : P.follows .mixedOrders = true) (h : awp P tab esc N a (fun x s' => match x with
    | .normal => sem P N b Q s'
    | x => Q x s') s) : sem P N (.seq a b) Q s := fun hs B ac w hc => by
  simp only [slotsOk, Bool.and_eq_true] at hs
  refine wp_seq (wp_mono (awp_sound hP hm a _ s ac w hs.1 h hc) ?_)
  rintro e a' w' ⟨s', h1, h2⟩
  cases e with
  | normal => exact h2 hs.2 B a' w' h1
  | _ => exact ⟨s', h1, h2⟩
/-- ways that join: behind a the state fits one of these -/
theorem sem_join (hP : TabOk P tab) (hm : P.follows .mixedOrders = true) {X : Type} (st : X → St) (I : X → Prop) (h : awp P tab esc N a (fun x s' => match x with
    | .normal => ∃ y, I y ∧ St.le s' (st y)
    | x => Q x s') s) (k : ∀ y, I y → sem P N b Q (st y)) : sem P N (.seq a b) Q s := fun hs B ac w hc => by
  simp only [slotsOk, Bool.and_eq_true] at hs
  refine wp_seq (wp_mono (awp_sound hP hm a _ s ac w hs.1 h hc) ?_)
  rintro e a' w' ⟨s', h1, h2⟩
  cases e with
  | normal =>
    obtain ⟨y, k1, k2⟩ := h2
    exact k y k1 hs.2 B a' w' (h1.le k2)
  | _ => exact ⟨s', h1, h2⟩

theorem con_of_sem {f : FuncId} {fn : Func} {c : Code} (hP : TabOk P tab) (hf : P.funcs[f]? = some fn) (hb : fn.body = some c) (he : ∀ args w, (callFunc f args).run P w = .ok (.enter f args) w) {args : List AV} {H : Heap} {Q : AV → Heap → Prop}
    (hs : (slotsOk fn.ntmps c && Nat.ble args.length fn.ntmps) = true) (h : (∀ x ∈ args, Wf x) → H.keys.Nodup → sem P fn.ntmps c (aEnd tab fn Q) ⟨initEnv 0 args, [], H⟩) : Con P f args H Q := by
  intro M w vs hI hargs
  rw [Bool.and_eq_true] at hs
  rw [he]
  show Calls P f vs.toArray w _
  have hwf : ∀ x ∈ args, Wf x := fun x hx => Wf.tup.key hargs hx
  have hlen := hargs.length
  have hle := Nat.le_of_ble_eq_true hs.2
  refine calls_of_wp hf hb (wp_mono (h hwf hI.nodup hs.1 ⟨H.keys, M, w⟩ _ w ?_) ?_)
  · refine ⟨M, fun _ => 0, Evo.refl _ _ _, fun b hb => Or.inl hb, hI, by simp; omega, rfl, init_env 0 _ hargs fun j v hj => ?_⟩
    have hj' := (List.getElem?_eq_some_iff.1 hj).1
    simp [Array.getElem?_append, hj', hj]
    exact (List.getElem?_eq_some_iff.1 hj).2
  · rintro e a' w' ⟨s', ⟨M', lm, hc⟩, hq⟩
    have fin : aretL tab s' fn.results.toList (fun xs => ∃ r H', Le (retAV xs) r ∧ H'.Sublist s'.H ∧ Q r H') → a'.defers = [] ∧ ∃ v, (results fn a'.tmps).run P w' = .ok v w' ∧
        (fun e w' => ∃ v, e = Ending.returned v ∧ ∃ M' r H', Evo H.keys M w M' w' ∧ Inv M' H' w' ∧ (∀ b ∈ H'.keys, b ∈ H.keys ∨ w.heap.size ≤ b) ∧ rep M' r v ∧ Q r H') (.returned v) w' := by
      intro hq
      obtain ⟨xs, us, g1, g2, r, H', g3, g4, g5⟩ := results_sound hP hc hq
      refine ⟨hc.defers, _, ?_, _, rfl, M', r, H', hc.evo, hc.right.sub g4, fun b hb => ?_, g3 M' _ (ret_rep g2), g5⟩
      · have er : results fn a'.tmps = (do let vs ← fn.results.mapM (resOne a'); pure (if h : vs.size = 1 then vs[0] else .tuple vs)) := by
          unfold results
          congr 1
        rw [er]
        rw [Sem.run_bind, Array.mapM_eq_mapM_toList, Sem.run_map, g1]
        rfl
      · exact hc.keys b (by rw [Heap.keys_append]; exact List.mem_append.2 (Or.inr ((g4.map _).subset hb)))
    cases e with
    | normal => exact fin hq
    | ret => exact fin hq
    | exit id => exact hq.elim
    | goto l => exact hq.elim
    | panic c => exact hq.elim
    | outgrown => exact hq.elim
end
end Go.Proofs.YtnjnfegafmhgnaaDoor

/-
  Declarations and bytes as a law's arguments. No condition.
-/
namespace Go.Proofs.YtnjnfegafmhgnaaDoor
open Go.ChangeShapes Go.WideShapes Go.ChangeAt Go.RowKit

section
variable {H : Type} {enc : TypeId × Value → H} {W : World}
theorem op_ct : ∀ n, Op enc Tryd.prog W n 77 fun xs => ∃ c : Ct, xs = (ctX c).cells
  | 0 => Op.zero
  | n + 1 => by
    refine (Op.struct (As := [fun xs => ∃ s, xs = [AV.str s], fun xs => ∃ t : Tm, xs = (tmX t).cells]) Tryd.underlying77 (by kernel_rfl) ⟨?_, ?_, trivial⟩).mono fun xs hx => ?_
    · exact (Op.str (by kernel_rfl)).mono fun xs ⟨z, _, h⟩ => ⟨z, h⟩
    · exact op_tm n
    · obtain ⟨_, _, ⟨s, rfl⟩, ⟨_, _, ⟨t, rfl⟩, rfl, rfl⟩, rfl⟩ := hx
      exact ⟨⟨s, t⟩, by simp [ctX, tmX, AV.cells]⟩
theorem op_cts (n : Nat) : Op enc Tryd.prog W n 26 fun xs => ∃ ls : List Ct, xs = [.sl .no 6 (ls.map ctX)] := by
  cases n with
  | zero => exact Op.zero
  | succ n =>
    refine (Op.slice (C := 6) (e := 77) (B := fun y => ∃ l, y = ctX l) (by kernel_rfl) (by kernel_rfl) (by decide) ((op_ct n).mono fun xs hx => ?_)).mono fun xs hx => ?_
    · obtain ⟨l, rfl⟩ := hx
      exact ⟨ctX l, ⟨l, rfl⟩, rfl⟩
    · obtain ⟨ys, hy, rfl⟩ := hx
      obtain ⟨zs, rfl⟩ := map_of hy
      exact ⟨zs, rfl⟩
theorem op_dc : ∀ n, Op enc Tryd.prog W n 28 fun xs => ∃ d : Dc, xs = (dcX d).cells
  | 0 => Op.zero
  | n + 1 => by
    refine (Op.struct (As := [fun xs => ∃ z, xs = [AV.i z], fun xs => ∃ z, xs = [AV.i z], fun xs => ∃ s, xs = [AV.str s], fun xs => ∃ t : Tm, xs = (tmX t).cells, fun xs => ∃ t : Tm, xs = (tmX t).cells, fun xs => ∃ z, xs = [AV.i z], fun xs => ∃ ls : List Ct, xs = [.sl .no 6 (ls.map ctX)]]) Tryd.underlying28 (by kernel_rfl) ⟨?_, ?_, ?_, ?_, ?_, ?_, ?_, trivial⟩).mono fun xs hx => ?_
    · exact (Op.int (k := .i64) (by kernel_rfl)).mono fun xs ⟨z, _, h⟩ => ⟨z, h⟩
    · exact (Op.int (k := .i64) (by kernel_rfl)).mono fun xs ⟨z, _, h⟩ => ⟨z, h⟩
    · exact (Op.str (by kernel_rfl)).mono fun xs ⟨z, _, h⟩ => ⟨z, h⟩
    · exact op_tm n
    · exact op_tm n
    · exact (Op.int (k := .i64) (by kernel_rfl)).mono fun xs ⟨z, _, h⟩ => ⟨z, h⟩
    · exact op_cts n
    · obtain ⟨_, _, ⟨k, rfl⟩, ⟨_, _, ⟨p, rfl⟩, ⟨_, _, ⟨s, rfl⟩, ⟨_, _, ⟨t, rfl⟩, ⟨_, _, ⟨v, rfl⟩, ⟨_, _, ⟨f, rfl⟩, ⟨_, _, ⟨cs, rfl⟩, rfl, rfl⟩, rfl⟩, rfl⟩, rfl⟩, rfl⟩, rfl⟩, rfl⟩ := hx
      exact ⟨⟨k, p, s, t, v, f, cs⟩, by simp [dcX, tmX, AV.cells]⟩
theorem byte_of {z : Int} (h : (Lit.int IntKind.u8 z).wf = true) : ∃ c : UInt8, AV.v (.int .u8 z) = byteV c := by
  have h2 : 0 ≤ z ∧ z < 256 := by
    have h3 : (decide ((0 : Int) ≤ z) && decide (z ≤ 255)) = true := h
    rw [Bool.and_eq_true, decide_eq_true_eq, decide_eq_true_eq] at h3
    omega
  refine ⟨UInt8.ofNat z.toNat, ?_⟩
  unfold byteV
  have : (UInt8.ofNat z.toNat).toNat = z.toNat := by simp; omega
  rw [this]
  congr 2
  omega
theorem op_by (n : Nat) : Op enc Tryd.prog W n 47 fun xs => ∃ bs : List UInt8, xs = [byX bs] := by
  cases n with
  | zero => exact Op.zero
  | succ n =>
    refine (Op.slice (C := 1) (e := 5) (B := fun y => ∃ c, y = byteV c) (by kernel_rfl) (by kernel_rfl) (by decide) ((Op.int (k := .u8) (by kernel_rfl)).mono fun xs hx => ?_)).mono fun xs hx => ?_
    · obtain ⟨z, hw, rfl⟩ := hx
      obtain ⟨c, hc⟩ := byte_of hw
      exact ⟨byteV c, ⟨c, rfl⟩, by rw [← hc]; rfl⟩
    · obtain ⟨ys, hy, rfl⟩ := hx
      obtain ⟨zs, rfl⟩ := map_of hy
      exact ⟨zs, rfl⟩
end
end Go.Proofs.YtnjnfegafmhgnaaDoor

/-
  PackBack: the law's walk. No condition.
-/
namespace Go.Proofs.YtnjnfegafmhgnaaDoor
open Go.RowKit

theorem lvB_ne (t : Lv) : lvB t ≠ [] := fun h => by
  have h1 := enc_pos t.kind.toNat
  have h2 := congrArg List.length h
  rw [lvB_eq] at h2
  simp only [List.length_append, List.length_nil] at h2
  omega
theorem dcB_ne (d : Dc) : dcB d ≠ [] := fun h => by
  have h1 := enc_pos d.kind.toNat
  have h2 := congrArg List.length h
  unfold dcB at h2
  simp only [List.length_append, List.length_nil] at h2
  omega
theorem tmB_ne' (t : Tm) : tmB t ≠ [] := fun h => by
  have h1 := enc_pos t.kind.toNat
  have h2 := congrArg List.length h
  rw [tmB_eq] at h2
  simp only [List.length_append, List.length_nil] at h2
  omega
theorem lvB_small {l : Lv} (h : lvRight 4 l = true) : (lvB l).length ≤ 768 := by
  simp only [lvRight, Bool.and_eq_true, decide_eq_true_eq] at h
  have := lvB_len (n := 4) (by decide) l h.2
  omega
theorem tmB_small' {t : Tm} (h : packOk t = true) : (tmB t).length ≤ 128000 := by
  obtain ⟨h1, h2⟩ := packOk_pok h
  have := tmB_len t h1
  omega
theorem dcB_small {d : Dc} (h : formed d = true) : (dcB d).length ≤ 2000000 := by
  have hf := formed_says h
  have hk := hf.kind
  obtain ⟨t1, t2, t3, t4, _⟩ := closed_pok hf.type
  have e1 := enc_le6 d.kind.toNat (by omega)
  have e2 := enc_le6 d.params.toNat (by omega)
  have hn := name_len hf.name
  have e3 := enc_le6 d.name.length (by omega)
  have e4 := tmB_len _ t1
  have e5 : (dcTail d).length ≤ 1500000 := by
    unfold dcTail
    by_cases hv : 2 ≤ d.kind ∧ d.kind ≤ 4
    · rw [if_pos hv]
      obtain ⟨v1, v2, _⟩ := closed_pok (hf.val hv)
      have := tmB_len _ v1
      omega
    · rw [if_neg hv]
      by_cases h5 : d.kind = 5
      · rw [if_pos h5]
        obtain ⟨f1, f2, f3, f4⟩ := hf.fam h5
        have a1 := enc_le6 d.fixed.toNat (by omega)
        have a2 := enc_le6 d.ctors.length (by omega)
        have a3 := cts_len hf h5 d.ctors.length (Nat.le_refl _)
        rw [List.take_length] at a3
        simp only [List.length_append]
        omega
      · rw [if_neg h5]; simp
  unfold dcB stB
  simp only [List.length_append]
  omega
/-- a copy with bytes behind it -/
def cpX (q : Option Cap) (bs : List UInt8) : AV := match q with | none => .sl .full 1 [] | some c => .sl (.own c) 1 (bs.map byteV)
section
variable {H : Heap} {Q : AV → Heap → Prop}
set_option maxRecDepth 100000 in
theorem copy_at {o : Own} {bs : List UInt8} (hl : bs.length ≤ 1099511627776) (hne : bs ≠ []) (hq : ∀ c : Cap, c.b ∉ H.keys → Q (.sl (.own c) 1 (bs.map byteV)) ((c.b, .cap c) :: H)) : Con Tryd.prog 25 [.sl o 1 (bs.map byteV)] H Q :=
  CopyBytes_con o bs hl H Q fun q h1 h2 => by
    cases q with
    | none => exact absurd (h1 rfl) hne
    | some c => exact hq c (h2 c rfl)
set_option maxRecDepth 100000 in
theorem packTerm_no' {l : Tm} (h : packOk l = false) (hq : Q (.tup [.sl .full 0 [], .b false]) H) : Con Tryd.prog 28 [tmX l] H Q :=
  packTerm_con l H Q (fun _ => hq) fun h0 => by rw [h] at h0; cases h0
set_option maxRecDepth 100000 in
theorem packLevel_no {l : Lv} (h : lvRight 4 l = false) (hq : Q (.tup [.sl .full 0 [], .b false]) H) : Con Tryd.prog 23 [lvX l] H Q :=
  packLevel_con l H Q (fun _ => hq) fun h0 => by rw [h] at h0; cases h0
set_option maxRecDepth 100000 in
theorem packDecl_no {l : Dc} (h : formed l = false) (hq : Q (.tup [.sl .full 0 [], .b false]) H) : Con Tryd.prog 30 [dcX l] H Q :=
  packDecl_con l H Q (fun _ => hq) fun h0 => by rw [h] at h0; cases h0
end
theorem lv_take {l : Lv} (h : lvRight 4 l = true) (r : List UInt8) : tkLevel 2000 ⟨lvB l ++ r, false, 2000⟩ = (l, ⟨r, false, 2000 - l.nodes⟩) := by
  simp only [lvRight, Bool.and_eq_true, decide_eq_true_eq] at h
  exact lv_back (n := 4) (by decide) 2000 l r 2000 (by omega) (by omega) h.2
theorem tm_take {l : Tm} (h : packOk l = true) (r : List UInt8) : tkTerm 2000 ⟨tmB l ++ r, false, 2000⟩ = (l, ⟨r, false, 2000 - l.nodes⟩) := by
  obtain ⟨h1, h2⟩ := packOk_pok h
  unfold packOk tmRight at h
  simp only [Bool.and_eq_true, decide_eq_true_eq] at h
  exact tm_back (n := 4) (by decide) 2000 l _ r 2000 h2 (by omega) h.1.2 h1
end Go.Proofs.YtnjnfegafmhgnaaDoor

/-
  PackBack: the law's walk. No condition.
-/
namespace Go.Proofs.YtnjnfegafmhgnaaDoor
open Go.RowKit

theorem fa {p : Bool → Prop} (h0 : p false) (h1 : p true) : ∀ q, p q
  | false => h0
  | true => h1
set_option maxRecDepth 100000 in
theorem LevelNodes_some (l : Lv) (H : Heap) (Q : AV → Heap → Prop) (hq : ∀ m : Int, Q (.i m) H) : Con Tryd.prog 21 [lvX l, .i (300 : Nat)] H Q := LevelNodes_con 300 (by decide) _ l (Nat.le_refl _) H Q (hq _)
theorem isSome_of {α : Type} {q : Option α} {c : α} (h : q = some c) : q.isSome = true := by rw [h]; rfl
set_option maxRecDepth 100000 in
set_option maxHeartbeats 1000000 in
theorem packBack_con (l : Lv) (t : Tm) (d : Dc) (bh : List UInt8) : Ans Tryd.prog 5 [lvX l, tmX t, dcX d, byX bh] (.b true) := by
  intro H Q hq
  have hsameB : ∀ (o o' : Own) (bs cs : List UInt8), bs = cs → Ans Tryd.prog 27 [.sl o 1 (bs.map byteV), .sl o' 1 (cs.map byteV)] (.b true) := fun o o' bs cs h => (SameBytes_con bs cs).as (decide_eq_true h)
  have hsameL : Ans Tryd.prog 26 [lvX l, lvX l] (.b true) := (SameLevel_con _ l l (Nat.le_refl _)).as ((lvEq_iff l l).2 rfl)
  have hsameT : Ans Tryd.prog 16 [tmX t, tmX t] (.b true) := (SameTerm_con _ t t (Nat.le_refl _)).as ((tmEq_iff t t).2 rfl)
  have hL := fun h => lvB_small (l := l) h
  have hT := fun h => tmB_small' (t := t) h
  have hD := fun h => dcB_small (d := d) h
  have fin : ∃ r H', Le (.b true) r ∧ List.Sublist H' H ∧ Q r H' := ⟨_, H, Le.refl _, List.Sublist.refl _, hq⟩
  refine con_of_sem tab_ok Tryd.func5 rfl (ent Tryd.func5 (by kernel_rfl) rfl) (by kernel_rfl) ?_
  intro hw hn
  clear hw hn
  refine sem_seq (esc := fun _ => false) tab_ok mixed ?_
  refine sem_seq (esc := fun _ => false) tab_ok mixed ?_
  refine ⟨_, LeL.refl _, alive8_con _ _ ?_⟩
  intro hz1 hz2; clear hz1 hz2
  refine sem_seq (esc := fun _ => false) tab_ok mixed ?_
  refine ⟨[lvX l, .i (300 : Nat)], LeL.refl _, LevelNodes_some l _ _ fun m => ?_⟩
  intro hz1 hz2; clear hz1 hz2
  refine aText_cmp ((300 : Int) < m) (fun _ _ h => h) rfl (fun K a b => ifB_dec a b) (fun h1 => ?_) (fun h1 => ?_)
  · exact fin
  refine ⟨_, LeL.refl _, Great4_some t _ _ (fa ?_ ?_)⟩
  rotate_left
  · intro hz1 hz2; clear hz1 hz2
    exact fin
  intro hz1 hz2; clear hz1 hz2
  refine ⟨_, LeL.refl _, Great8_some d _ _ (fa ?_ ?_)⟩
  rotate_left
  · intro hz1 hz2; clear hz1 hz2
    exact fin
  intro hz1 hz2; clear hz1 hz2
  refine ifB_dec (fun h2 => ?_) (fun h2 => ?_)
  · exact fin
  simp only [List.length_map] at h2
  refine sem_join (esc := fun _ => false) tab_ok mixed (X := Option Cap) (fun q => ⟨[(3, .g (byX bh)), (4, .lp 4 0), (5, .lp 5 0), (6, .lp 6 0), (8, .g (.b false)), (9, .g (rowS q 1 ((lvB l).map byteV))), (10, .g (.b q.isSome))], [(6, (dcX d).cells), (5, (tmX t).cells), (4, (lvX l).cells)], bufH q H⟩) (fun q => lvRight 4 l = q.isSome) ?_ (fun q hI => ?_)
  · refine ⟨_, LeL.refl _, packLevel_con l _ _ (fun h => ?_) (fun h c hc => ?_)⟩
    · intro hz1 hz2; clear hz1 hz2
      exact ⟨none, h, ⟨⟨Le.refl _, ⟨rfl, rfl⟩, ⟨rfl, rfl⟩, ⟨rfl, rfl⟩, Le.refl _, Le.refl _, Le.refl _, trivial⟩, ⟨⟨rfl, LeL.refl _⟩, ⟨rfl, LeL.refl _⟩, ⟨rfl, LeL.refl _⟩, trivial⟩, List.Sublist.refl _⟩⟩
    · intro hz1 hz2; clear hz1 hz2
      exact ⟨some c, h, ⟨⟨Le.refl _, ⟨rfl, rfl⟩, ⟨rfl, rfl⟩, ⟨rfl, rfl⟩, Le.refl _, Le.refl _, Le.refl _, trivial⟩, ⟨⟨rfl, LeL.refl _⟩, ⟨rfl, LeL.refl _⟩, ⟨rfl, LeL.refl _⟩, trivial⟩, List.Sublist.refl _⟩⟩
  refine sem_join (esc := fun _ => false) tab_ok mixed (X := Unit) (fun _ => ⟨[(3, .g (byX bh)), (4, .lp 4 0), (5, .lp 5 0), (6, .lp 6 0), (8, .g (.b false))], [(6, (dcX d).cells), (5, (tmX t).cells), (4, (lvX l).cells)], H⟩) (fun _ => True) ?_ (fun _ _ => ?_)
  · cases q with
    | none => exact ⟨(), trivial, ⟨⟨Le.refl _, ⟨rfl, rfl⟩, ⟨rfl, rfl⟩, ⟨rfl, rfl⟩, Le.refl _, trivial⟩, ⟨⟨rfl, LeL.refl _⟩, ⟨rfl, LeL.refl _⟩, ⟨rfl, LeL.refl _⟩, trivial⟩, List.Sublist.refl _⟩⟩
    | some c =>
      have hlen := hL hI
      refine ⟨_, LeL.refl _, copy_at (by omega) (lvB_ne l) fun c2 hc2 => ?_⟩
      intro hz1 hz2; clear hz1 hz2
      refine ⟨?_, ifNil_or (fun h => ?_) (fun h => ⟨_, Heap.Rem.here, fun c3 hc3 => ?_⟩)⟩
      · simp only [List.length_map]
        show _ * (1 + 1) ≤ _
        omega
      · have hb0 : bh = [] := by simpa using h
        refine ⟨[.sl .no 1 ((lvB l ++ bh).map byteV)], ⟨Le.trans (Le.own _ _ _) (le_of_eq (by rw [hb0]; simp)), trivial⟩, takeLevel_yes (by rw [List.length_append]; omega) (lv_take hI bh) hI ?_⟩
        intro hz1 hz2; clear hz1 hz2
        refine ⟨_, LeL.refl _, hsameL _ _ ?_⟩
        intro hz1 hz2; clear hz1 hz2
        refine ⟨[byX bh, byX bh], LeL.refl _, hsameB _ _ bh bh rfl _ _ ?_⟩
        intro hz1 hz2; clear hz1 hz2
        exact ⟨(), trivial, ⟨⟨Le.refl _, ⟨rfl, rfl⟩, ⟨rfl, rfl⟩, ⟨rfl, rfl⟩, Le.refl _, trivial⟩, ⟨⟨rfl, LeL.refl _⟩, ⟨rfl, LeL.refl _⟩, ⟨rfl, LeL.refl _⟩, trivial⟩, .cons _ (.cons _ (List.Sublist.refl _))⟩⟩
      · refine ⟨[.sl .no 1 ((lvB l ++ bh).map byteV)], ⟨Le.trans (Le.own _ _ _) (le_of_eq (by show AV.sl _ _ _ = AV.sl _ _ _; simp)), trivial⟩, takeLevel_yes (by rw [List.length_append]; omega) (lv_take hI bh) hI ?_⟩
        intro hz1 hz2; clear hz1 hz2
        refine ⟨_, LeL.refl _, hsameL _ _ ?_⟩
        intro hz1 hz2; clear hz1 hz2
        refine ⟨[byX bh, byX bh], LeL.refl _, hsameB _ _ bh bh rfl _ _ ?_⟩
        intro hz1 hz2; clear hz1 hz2
        exact ⟨(), trivial, ⟨⟨Le.refl _, ⟨rfl, rfl⟩, ⟨rfl, rfl⟩, ⟨rfl, rfl⟩, Le.refl _, trivial⟩, ⟨⟨rfl, LeL.refl _⟩, ⟨rfl, LeL.refl _⟩, ⟨rfl, LeL.refl _⟩, trivial⟩, .cons _ (.cons _ (List.Sublist.refl _))⟩⟩
  refine sem_join (esc := fun _ => false) tab_ok mixed (X := Option Cap) (fun q => ⟨[(3, .g (byX bh)), (4, .lp 4 0), (5, .lp 5 0), (6, .lp 6 0), (8, .g (.b false)), (14, .g (rowS q 1 ((tmB t).map byteV))), (10, .g (.b q.isSome))], [(6, (dcX d).cells), (5, (tmX t).cells), (4, (lvX l).cells)], bufH q H⟩) (fun q => packOk t = q.isSome) ?_ (fun q hI => ?_)
  · refine ⟨_, LeL.refl _, packTerm_con t _ _ (fun h => ?_) (fun h c hc => ?_)⟩
    · intro hz1 hz2; clear hz1 hz2
      exact ⟨none, h, ⟨⟨Le.refl _, ⟨rfl, rfl⟩, ⟨rfl, rfl⟩, ⟨rfl, rfl⟩, Le.refl _, Le.refl _, Le.refl _, trivial⟩, ⟨⟨rfl, LeL.refl _⟩, ⟨rfl, LeL.refl _⟩, ⟨rfl, LeL.refl _⟩, trivial⟩, List.Sublist.refl _⟩⟩
    · intro hz1 hz2; clear hz1 hz2
      exact ⟨some c, h, ⟨⟨Le.refl _, ⟨rfl, rfl⟩, ⟨rfl, rfl⟩, ⟨rfl, rfl⟩, Le.refl _, Le.refl _, Le.refl _, trivial⟩, ⟨⟨rfl, LeL.refl _⟩, ⟨rfl, LeL.refl _⟩, ⟨rfl, LeL.refl _⟩, trivial⟩, List.Sublist.refl _⟩⟩
  refine sem_join (esc := fun _ => false) tab_ok mixed (X := Unit) (fun _ => ⟨[(3, .g (byX bh)), (4, .lp 4 0), (5, .lp 5 0), (6, .lp 6 0), (8, .g (.b false))], [(6, (dcX d).cells), (5, (tmX t).cells), (4, (lvX l).cells)], H⟩) (fun _ => True) ?_ (fun _ _ => ?_)
  · cases q with
    | none => exact ⟨(), trivial, ⟨⟨Le.refl _, ⟨rfl, rfl⟩, ⟨rfl, rfl⟩, ⟨rfl, rfl⟩, Le.refl _, trivial⟩, ⟨⟨rfl, LeL.refl _⟩, ⟨rfl, LeL.refl _⟩, ⟨rfl, LeL.refl _⟩, trivial⟩, List.Sublist.refl _⟩⟩
    | some c =>
      have hlen := hT hI
      refine ⟨_, LeL.refl _, copy_at (by omega) (tmB_ne' t) fun c2 hc2 => ?_⟩
      intro hz1 hz2; clear hz1 hz2
      refine ⟨?_, ifNil_or (fun h => ?_) (fun h => ⟨_, Heap.Rem.here, fun c3 hc3 => ?_⟩)⟩
      · simp only [List.length_map]
        show _ * (1 + 1) ≤ _
        omega
      · have hb0 : bh = [] := by simpa using h
        refine ⟨[.sl .no 1 ((tmB t ++ bh).map byteV)], ⟨Le.trans (Le.own _ _ _) (le_of_eq (by rw [hb0]; simp)), trivial⟩, takeTerm_yes (by rw [List.length_append]; omega) (tm_take hI bh) hI ?_⟩
        intro hz1 hz2; clear hz1 hz2
        refine ⟨_, LeL.refl _, hsameT _ _ ?_⟩
        intro hz1 hz2; clear hz1 hz2
        refine ⟨[byX bh, byX bh], LeL.refl _, hsameB _ _ bh bh rfl _ _ ?_⟩
        intro hz1 hz2; clear hz1 hz2
        exact ⟨(), trivial, ⟨⟨Le.refl _, ⟨rfl, rfl⟩, ⟨rfl, rfl⟩, ⟨rfl, rfl⟩, Le.refl _, trivial⟩, ⟨⟨rfl, LeL.refl _⟩, ⟨rfl, LeL.refl _⟩, ⟨rfl, LeL.refl _⟩, trivial⟩, .cons _ (.cons _ (List.Sublist.refl _))⟩⟩
      · refine ⟨[.sl .no 1 ((tmB t ++ bh).map byteV)], ⟨Le.trans (Le.own _ _ _) (le_of_eq (by show AV.sl _ _ _ = AV.sl _ _ _; simp)), trivial⟩, takeTerm_yes (by rw [List.length_append]; omega) (tm_take hI bh) hI ?_⟩
        intro hz1 hz2; clear hz1 hz2
        refine ⟨_, LeL.refl _, hsameT _ _ ?_⟩
        intro hz1 hz2; clear hz1 hz2
        refine ⟨[byX bh, byX bh], LeL.refl _, hsameB _ _ bh bh rfl _ _ ?_⟩
        intro hz1 hz2; clear hz1 hz2
        exact ⟨(), trivial, ⟨⟨Le.refl _, ⟨rfl, rfl⟩, ⟨rfl, rfl⟩, ⟨rfl, rfl⟩, Le.refl _, trivial⟩, ⟨⟨rfl, LeL.refl _⟩, ⟨rfl, LeL.refl _⟩, ⟨rfl, LeL.refl _⟩, trivial⟩, .cons _ (.cons _ (List.Sublist.refl _))⟩⟩
  refine sem_join (esc := fun _ => false) tab_ok mixed (X := Option Cap) (fun q => ⟨[(3, .g (byX bh)), (4, .lp 4 0), (5, .lp 5 0), (6, .lp 6 0), (8, .g (.b false)), (18, .g (rowS q 1 ((dcB d).map byteV))), (10, .g (.b q.isSome))], [(6, (dcX d).cells), (5, (tmX t).cells), (4, (lvX l).cells)], bufH q H⟩) (fun q => formed d = q.isSome) ?_ (fun q hI => ?_)
  · refine ⟨_, LeL.refl _, packDecl_con d _ _ (fun h => ?_) (fun h c hc => ?_)⟩
    · intro hz1 hz2; clear hz1 hz2
      exact ⟨none, h, ⟨⟨Le.refl _, ⟨rfl, rfl⟩, ⟨rfl, rfl⟩, ⟨rfl, rfl⟩, Le.refl _, Le.refl _, Le.refl _, trivial⟩, ⟨⟨rfl, LeL.refl _⟩, ⟨rfl, LeL.refl _⟩, ⟨rfl, LeL.refl _⟩, trivial⟩, List.Sublist.refl _⟩⟩
    · intro hz1 hz2; clear hz1 hz2
      exact ⟨some c, h, ⟨⟨Le.refl _, ⟨rfl, rfl⟩, ⟨rfl, rfl⟩, ⟨rfl, rfl⟩, Le.refl _, Le.refl _, Le.refl _, trivial⟩, ⟨⟨rfl, LeL.refl _⟩, ⟨rfl, LeL.refl _⟩, ⟨rfl, LeL.refl _⟩, trivial⟩, List.Sublist.refl _⟩⟩
  cases q with
  | none =>
    refine sem_seq (esc := fun _ => false) tab_ok mixed ?_
    refine ⟨_, LeL.refl _, (formed_con d).as hI _ _ ?_⟩
    intro hz1 hz2; clear hz1 hz2
    refine sem_seq (esc := fun _ => false) tab_ok mixed ?_
    refine sem_of (esc := fun _ => false) tab_ok mixed ?_
    exact fin
  | some c =>
    have hlen := hD hI
    obtain ⟨L', htk⟩ := dc_back hI bh 2000
    refine sem_seq (esc := fun _ => false) tab_ok mixed ?_
    refine ⟨_, LeL.refl _, (formed_con d).as hI _ _ ?_⟩
    intro hz1 hz2; clear hz1 hz2
    refine sem_seq (esc := fun _ => false) tab_ok mixed ?_
    refine ⟨_, LeL.refl _, copy_at (by omega) (dcB_ne d) fun c2 hc2 => ?_⟩
    intro hz1 hz2; clear hz1 hz2
    refine ⟨?_, ifNil_or (fun h => ?_) (fun h => ⟨_, Heap.Rem.here, fun c3 hc3 => ?_⟩)⟩
    · simp only [List.length_map]
      show _ * (1 + 1) ≤ _
      omega
    · have hb0 : bh = [] := by simpa using h
      refine ⟨[.sl .no 1 ((dcB d ++ bh).map byteV)], ⟨Le.trans (Le.own _ _ _) (le_of_eq (by rw [hb0]; simp)), trivial⟩, takeDecl_yes (by rw [List.length_append]; omega) htk hI ?_⟩
      intro hz1 hz2; clear hz1 hz2
      refine ⟨_, LeL.refl _, SameDecl_con d _ _ ?_⟩
      intro hz1 hz2; clear hz1 hz2
      refine ⟨[byX bh, byX bh], LeL.refl _, hsameB _ _ bh bh rfl _ _ ?_⟩
      intro hz1 hz2; clear hz1 hz2
      exact ⟨_, H, Le.refl _, .cons _ (.cons _ (List.Sublist.refl _)), hq⟩
    · refine ⟨[.sl .no 1 ((dcB d ++ bh).map byteV)], ⟨Le.trans (Le.own _ _ _) (le_of_eq (by show AV.sl _ _ _ = AV.sl _ _ _; simp)), trivial⟩, takeDecl_yes (by rw [List.length_append]; omega) htk hI ?_⟩
      intro hz1 hz2; clear hz1 hz2
      refine ⟨_, LeL.refl _, SameDecl_con d _ _ ?_⟩
      intro hz1 hz2; clear hz1 hz2
      refine ⟨[byX bh, byX bh], LeL.refl _, hsameB _ _ bh bh rfl _ _ ?_⟩
      intro hz1 hz2; clear hz1 hz2
      exact ⟨_, H, Le.refl _, .cons _ (.cons _ (List.Sublist.refl _)), hq⟩
end Go.Proofs.YtnjnfegafmhgnaaDoor
