/-
  Texts put together: Q16. No condition.
-/
import Derived.Test.YtaldgcnhmnfocaaGreatDoorM21
/-
  VersCalls: the law's walk. No condition.
-/
namespace Go.Proofs.YtaldgcnhmnfocaaGreatDoor
open Go.RowKit

theorem and15 {m : Nat} (h : m ≤ 1000000) {z : Int} (hz : z = (m : Int)) : IntKind.i64.wrap (BitVec.ofInt 64 z &&& BitVec.ofInt 64 15).toNat = ((m % 16 : Nat) : Int) := by
  subst hz
  have e : (BitVec.ofInt 64 (m : Int) &&& BitVec.ofInt 64 15).toNat = m % 16 := by
    rw [BitVec.toNat_and]
    have e1 : (BitVec.ofInt 64 (m : Int)).toNat = m := by
      rw [BitVec.ofInt_natCast, BitVec.toNat_ofNat]
      exact Nat.mod_eq_of_lt (by omega)
    have e2 : (BitVec.ofInt 64 15).toNat = 2 ^ 4 - 1 := rfl
    rw [e1, e2, Nat.and_two_pow_sub_one_eq_mod]
  rw [e, IntKind.wrap_i64]
  omega
/-- what the law keeps -/
structure CallOk (i : Nat) (bs rb : Nat) (H : Heap) (s : Sto) (r : Rf) (Hk : Heap) : Prop where
  ok : s.Ok
  rk : RfOk s r
  st : HasSt s (r.O ++ H) Hk
  bs : s.bs = bs
  rb : r.rb = rb
  hd : s.head ≤ i
  few : Few s i
  ln : s.vs.length ≤ i + 1
  env : ∀ v ∈ s.vs, v.l.length = v.n % 16
section
variable {i bs rb : Nat} {H : Heap} {s : Sto} {r r' : Rf} {Hk Hk' : Heap}
theorem CallOk.rst (h : CallOk i bs rb H s r Hk) : HasR r (s.H ++ H) Hk := by
  refine List.Perm.trans (show Hk.Perm (s.H ++ (r.O ++ H)) from h.st) ?_
  rw [← List.append_assoc, ← List.append_assoc]
  exact List.Perm.append_right _ List.perm_append_comm
theorem rs_st (h : HasR r (s.H ++ H) Hk) : HasSt s (r.O ++ H) Hk := by
  refine List.Perm.trans (show Hk.Perm (r.O ++ (s.H ++ H)) from h) ?_
  rw [← List.append_assoc, ← List.append_assoc]
  exact List.Perm.append_right _ List.perm_append_comm
theorem st_rs (h : HasSt s (r.O ++ H) Hk) : HasR r (s.H ++ H) Hk := by
  refine List.Perm.trans (show Hk.Perm (s.H ++ (r.O ++ H)) from h) ?_
  rw [← List.append_assoc, ← List.append_assoc]
  exact List.Perm.append_right _ List.perm_append_comm
theorem CallOk.up (h : CallOk i bs rb H s r Hk) : CallOk (i + 1) bs rb H s r Hk := ⟨h.ok, h.rk, h.st, h.bs, h.rb, by have := h.hd; omega, h.few.up, by have := h.ln; omega, h.env⟩
theorem CallOk.push (h : CallOk i bs rb H s r Hk) (hi : i ≤ 80) {b : Nat} {t : Tre} {l : List En} (hl : l.length = (s.head + 1) % 16) (hr : RfOk (s.more b t l) r') (hrb : r'.rb = r.rb) (hst : HasR r' ((s.more b t l).H ++ H) Hk') : CallOk (i + 1) bs rb H (s.more b t l) r' Hk' := by
  have hhd := h.hd
  have hln := h.ln
  refine ⟨h.ok.more (by omega) (by omega) b t l, hr, rs_st hst, h.bs, by rw [hrb]; exact h.rb, by show s.head + 1 ≤ i + 1; omega, fun v hv => ?_, ?_, fun v hv => ?_⟩
  · rcases List.mem_append.1 hv with hv | hv
    · exact h.few.up v hv
    · rw [List.mem_singleton.1 hv]; exact Nat.zero_le _
  · show (s.vs ++ [_]).length ≤ i + 1 + 1
    rw [List.length_append]
    simp only [List.length_cons, List.length_nil]
    omega
  · rcases List.mem_append.1 hv with hv | hv
    · exact h.env v hv
    · rw [List.mem_singleton.1 hv]; exact hl
theorem CallOk.set (h : CallOk i bs rb H s r Hk) (n : Int) {p : Nat} (hp : p ≤ i + 1) (hr : RfOk (s.pins n p) r') (hrb : r'.rb = r.rb) (hst : HasR r' ((s.pins n p).H ++ H) Hk') : CallOk (i + 1) bs rb H (s.pins n p) r' Hk' := by
  have hln := h.ln
  refine ⟨h.ok.pins n p, hr, rs_st hst, h.bs, by rw [hrb]; exact h.rb, by have := h.hd; show s.head ≤ i + 1; omega, h.few.set hp n, by show (setPins n p s.vs).length ≤ _; rw [setPins, List.length_map]; omega, fun v hv => ?_⟩
  obtain ⟨u, hu, rfl⟩ := List.mem_map.1 hv
  have := h.env u hu
  split <;> exact this
theorem CallOk.sweep (h : CallOk i bs rb H s r Hk) (hr : RfOk s.swept r') (hrb : r'.rb = r.rb) (hst : HasR r' (s.swept.H ++ H) Hk') : CallOk (i + 1) bs rb H s.swept r' Hk' := by
  have hln := h.ln
  have hle : s.swept.vs.length ≤ s.vs.length := List.length_filter_le _ _
  exact ⟨h.ok.swept, hr, rs_st hst, h.bs, by rw [hrb]; exact h.rb, by have := h.hd; show s.head ≤ i + 1; omega, fun v hv => h.few.up v (List.mem_filter.1 hv).1, by omega, fun v hv => h.env v (List.mem_filter.1 hv).1⟩
end
set_option maxRecDepth 100000 in
set_option maxHeartbeats 8000000 in
theorem versCalls_con (most last : Int) (calls : List Cl) (n : Int) : Ans Tryz.prog 3 [.i most, .i last, clsX calls, .i n] (.b true) := by
  intro H Q hq
  have fin : ∃ r H', Le (.b true) r ∧ List.Sublist H' H ∧ ∃ H2 H3 : Heap, H'.Perm H2 ∧ H3.Sublist H2 ∧ Q r H3 := ⟨_, H, Le.refl _, List.Sublist.refl _, H, H, List.Perm.refl _, List.Sublist.refl _, hq⟩
  have hcl := cls_len calls
  refine Con.loose ?_
  refine con_of_sem tab_ok Tryz.func3 rfl (ent Tryz.func3 (by kernel_rfl) rfl) (by kernel_rfl) ?_
  intro hw hn
  clear hw hn
  refine sem_seq (esc := fun _ => false) tab_ok mixed ?_
  refine sem_seq (esc := fun _ => false) tab_ok mixed ?_
  refine ⟨_, LeL.refl _, alive22_con _ _ ?_⟩
  intro hz1 hz2; clear hz1 hz2
  refine sem_seq (esc := fun _ => false) tab_ok mixed ?_
  refine ifB_dec (fun g1 => ?_) (fun g1 => ?_)
  · exact fin
  · have hlen : calls.length ≤ 80 := by omega
    clear g1
    refine sem_seq (esc := fun _ => false) tab_ok mixed ?_
    refine ⟨[.i ((0 : Nat) : Int)], LeL.refl _, numbered_con 0 (by omega) _ _ ?_⟩
    intro hz1 hz2; clear hz1 hz2
    by_cases hbad : most < 1 ∨ 64 < most ∨ last < 0 ∨ 1099511627776 < last
    · refine ⟨_, LeL.refl _, verNew_con (tN 0) (lN 0) most last (fun _ => ?_) fun _ _ _ _ _ _ _ _ _ => by omega⟩
      intro hz1 hz2; clear hz1 hz2
      refine sem_seq (esc := fun _ => false) tab_ok mixed ?_
      refine ⟨_, LeL.refl _, rNew_con most last (fun _ => ?_) fun _ _ _ _ _ _ _ _ => by omega⟩
      intro hz1 hz2; clear hz1 hz2
      refine sem_le ⟨[(2, .g (clsX calls)), (3, .g (.i n)), (8, .g (.b false)), (9, .g (.v (.pointer none))), (10, .g (.i 12)), (11, .g (.v (.pointer none))), (12, .g (.i 12))], [], H⟩ ?_ ?_
      · exact ⟨⟨Le.refl _, Le.refl _, Le.refl _, Le.refl _, Le.refl _, Le.refl _, Le.refl _, trivial⟩, trivial, List.Sublist.refl _⟩
      refine sem_seq (esc := fun _ => false) tab_ok mixed ?_
      refine sem_of (esc := fun _ => false) tab_ok mixed ?_
      refine ⟨Unit, fun _ => ⟨[(2, .g (clsX calls)), (3, .g (.i n)), (8, .g (.b false)), (9, .g (.v (.pointer none))), (11, .g (.v (.pointer none))), (13, .g (.i 0))], [], H⟩, fun _ => True, fun _ => 0, ⟨(), trivial, ?_⟩, ?_⟩
      · exact ⟨⟨Le.refl _, Le.refl _, Le.refl _, Le.refl _, Le.refl _, Le.refl _, trivial⟩, trivial, List.Sublist.refl _⟩
      · rintro ⟨⟩ _
        refine ifB_dec (fun g1 => ?_) (fun g1 => ?_)
        · exact fin
        · exact fin
    · refine ⟨_, LeL.refl _, verNew_con (tN 0) (lN 0) most last (fun h => absurd h hbad) fun _ _ _ _ bs bm b H0 hs0 => ?_⟩
      intro hz1 hz2; clear hz1 hz2
      refine sem_seq (esc := fun _ => false) tab_ok mixed ?_
      refine ⟨_, LeL.refl _, rNew_con most last (fun h => absurd h hbad) fun _ _ _ _ rb b2 H1 hr1 => ?_⟩
      intro hz1 hz2; clear hz1 hz2
      refine sem_le ⟨[(2, .g (clsX calls)), (3, .g (.i n)), (8, .g (.b false)), (9, .g (.ptr bs 0)), (10, .g (.i 0)), (11, .g (.ptr rb 0)), (12, .g (.i 0))], [], H1⟩ ?_ ?_
      · exact ⟨⟨Le.refl _, Le.refl _, Le.refl _, Le.refl _, Le.refl _, Le.refl _, Le.refl _, trivial⟩, trivial, List.Sublist.refl _⟩
      refine sem_seq (esc := fun _ => false) tab_ok mixed ?_
      have hN0 : CallOk 0 bs rb H (newS bs bm b most last (tN 0) (lN 0)) (newR rb b2 most last) H1 := by
        have hp : HasR (newR rb b2 most last) ((newS bs bm b most last (tN 0) (lN 0)).H ++ H) H1 := List.Perm.trans hr1 (List.Perm.append_left _ hs0)
        refine ⟨newS_ok _ _ _ _ _ _ _, newR_ok _ _ _ _ _ _ _ _ _, rs_st hp, rfl, rfl, Nat.le_refl _, fun v hv => ?_, Nat.le_refl _, fun v hv => ?_⟩
        · rw [List.mem_singleton.1 hv]; exact Nat.le_refl _
        · rw [List.mem_singleton.1 hv]; rfl
      refine sem_thenJ (fun H' : Heap => ⟨[], [], H'⟩) (fun H' => ∃ H2, H'.Perm (H2 ++ H)) ?_ ?_
      · refine sem_seq (esc := fun _ => false) tab_ok mixed ?_
        refine sem_block ?_
        refine sem_loop (fun x : Nat × Sto × Rf × Heap => ⟨[(2, .g (clsX calls)), (3, .g (.i n)), (8, .g (.b false)), (9, .g (.ptr bs 0)), (11, .g (.ptr rb 0)), (13, .g (.i x.1))], [], x.2.2.2⟩) (fun x => x.1 ≤ calls.length ∧ CallOk x.1 bs rb H x.2.1 x.2.2.1 x.2.2.2) (fun x => calls.length - x.1) ⟨(0, _, _, H1), ⟨Nat.zero_le _, hN0⟩, ?_⟩ ?_
        · exact ⟨⟨Le.refl _, Le.refl _, Le.refl _, Le.refl _, Le.refl _, Le.refl _, trivial⟩, trivial, List.Sublist.refl _⟩
        · rintro ⟨i, s, r, Hk⟩ ⟨hi, hN⟩
          simp only at hi hN
          have hle : Le (.ptr bs 0) (.ptr s.bs 0) := le_of_eq (by rw [hN.bs])
          have hlr : Le (.ptr rb 0) (.ptr r.rb 0) := le_of_eq (by rw [hN.rb])
          have hhd := hN.hd
          have hln := hN.ln
          refine sem_seq (esc := fun _ => false) tab_ok mixed ?_
          refine ifB_dec (fun h1 => ?_) (fun h1 => ?_)
          · have hlt : i < calls.length := by omega
            have hfew := hN.few.at calls[i].n
            refine sem_then ?_
            refine sem_block ?_
            refine sem_seq (esc := fun _ => false) tab_ok mixed ?_
            refine ⟨i, rfl, _, clAt hlt, ?_⟩
            refine sem_join (esc := fun _ => false) tab_ok mixed (fun y : Sto × Rf × Heap => ⟨[(2, .g (clsX calls)), (3, .g (.i n)), (8, .g (.b false)), (9, .g (.ptr bs 0)), (11, .g (.ptr rb 0)), (13, .g (.i i)), (14, .lp 14 0)], [(14, (clX calls[i]).cells)], y.2.2⟩) (fun y => CallOk (i + 1) bs rb H y.1 y.2.1 y.2.2) ?_ ?_
            · refine ifB_dec (fun c0 => ?_) (fun c0 => ?_)
              · refine ⟨[.ptr r.rb 0], ⟨hlr, trivial⟩, rHead_con hN.rst hN.rk hN.ok ?_⟩
                intro hz1 hz2; clear hz1 hz2
                refine ⟨in64_of (by first | omega | (dsimp only; omega)) (by first | omega | (dsimp only; omega)), ?_⟩
                refine ⟨[.i (((s.head + 1) % 16 : Nat) : Int)], ⟨le_of_eq (congrArg AV.i (and15 (m := s.head + 1) (by omega) (by omega))), trivial⟩, numbered_con ((s.head + 1) % 16) (by omega) _ _ ?_⟩
                intro hz1 hz2; clear hz1 hz2
                refine ⟨[.ptr s.bs 0, envX (tN ((s.head + 1) % 16)) (lN ((s.head + 1) % 16))], ⟨hle, Le.refl _, trivial⟩, verPush_con hN.st hN.ok (tN ((s.head + 1) % 16)) (lN ((s.head + 1) % 16)) (fun hr => ?_) fun hr b1 H1 hs1 => ?_⟩
                · intro hz1 hz2; clear hz1 hz2
                  refine ⟨[.ptr r.rb 0], ⟨hlr, trivial⟩, rPush_con hN.rst hN.rk hN.ok 0 .nil [] (fun _ => ?_) fun h => absurd h hr⟩
                  intro hz1 hz2; clear hz1 hz2
                  refine ifB_t rfl ?_
                  refine ⟨(s, r, Hk), hN.up, ?_⟩
                  exact ⟨⟨Le.refl _, Le.refl _, Le.refl _, Le.refl _, Le.refl _, Le.refl _, ⟨rfl, rfl⟩, trivial⟩, ⟨⟨rfl, LeL.refl _⟩, trivial⟩, List.Sublist.refl _⟩
                · intro hz1 hz2; clear hz1 hz2
                  have hold : HasR r ((s.more b1 (tN ((s.head + 1) % 16)) (lN ((s.head + 1) % 16))).H ++ H) H1 := st_rs hs1
                  refine ⟨[.ptr r.rb 0], ⟨hlr, trivial⟩, rPush_con hold hN.rk hN.ok b1 (tN ((s.head + 1) % 16)) (lN ((s.head + 1) % 16)) (fun h => absurd hr h) fun _ => ⟨by omega, by omega, fun r' H2 hrb hrk hrs => ?_⟩⟩
                  intro hz1 hz2; clear hz1 hz2
                  refine ifB_t rfl ?_
                  refine ⟨(s.more b1 (tN ((s.head + 1) % 16)) (lN ((s.head + 1) % 16)), r', H2), hN.push (by omega) (lN_len _) hrk hrb hrs, ?_⟩
                  exact ⟨⟨Le.refl _, Le.refl _, Le.refl _, Le.refl _, Le.refl _, Le.refl _, ⟨rfl, rfl⟩, trivial⟩, ⟨⟨rfl, LeL.refl _⟩, trivial⟩, List.Sublist.refl _⟩
              · refine ifB_dec (fun c1 => ?_) (fun c1 => ?_)
                · refine ⟨[0, 1, 2, 4, 5, 6, 3, 7, 8], [], by kernel_rfl, by simp, ?_⟩
                  by_cases hv : vAt s.vs calls[i].n = none
                  · refine ⟨[.ptr s.bs 0, .i calls[i].n], ⟨hle, Le.refl _, trivial⟩, verPin_con hN.st hN.ok calls[i].n (by omega) (fun _ => ?_) fun h => absurd hv h⟩
                    intro hz1 hz2; clear hz1 hz2
                    refine ⟨[.ptr r.rb 0, .i calls[i].n], ⟨hlr, Le.refl _, trivial⟩, rPin_con hN.rst hN.rk hN.ok calls[i].n (by omega) (fun _ => ?_) fun h => absurd hv h⟩
                    intro hz1 hz2; clear hz1 hz2
                    refine ⟨(s, r, Hk), hN.up, ?_⟩
                    exact ⟨⟨Le.refl _, Le.refl _, Le.refl _, Le.refl _, Le.refl _, Le.refl _, ⟨rfl, rfl⟩, trivial⟩, ⟨⟨rfl, LeL.refl _⟩, trivial⟩, List.Sublist.refl _⟩
                  · refine ⟨[.ptr s.bs 0, .i calls[i].n], ⟨hle, Le.refl _, trivial⟩, verPin_con hN.st hN.ok calls[i].n (by omega) (fun h => absurd h hv) fun _ H1 hs1 => ?_⟩
                    intro hz1 hz2; clear hz1 hz2
                    have hold : HasR r ((s.pins calls[i].n (pinsAt s.vs calls[i].n + 1)).H ++ H) H1 := st_rs hs1
                    refine ⟨[.ptr r.rb 0, .i calls[i].n], ⟨hlr, Le.refl _, trivial⟩, rPin_con hold hN.rk hN.ok calls[i].n (by omega) (fun h => absurd h hv) fun _ r' H2 hrb hrk hrs => ?_⟩
                    intro hz1 hz2; clear hz1 hz2
                    refine ⟨(s.pins calls[i].n (pinsAt s.vs calls[i].n + 1), r', H2), hN.set _ (by omega) hrk hrb hrs, ?_⟩
                    exact ⟨⟨Le.refl _, Le.refl _, Le.refl _, Le.refl _, Le.refl _, Le.refl _, ⟨rfl, rfl⟩, trivial⟩, ⟨⟨rfl, LeL.refl _⟩, trivial⟩, List.Sublist.refl _⟩
                · refine ifB_dec (fun c2 => ?_) (fun c2 => ?_)
                  · refine ⟨[0, 1, 2, 4, 5, 6, 3, 7, 8], [], by kernel_rfl, by simp, ?_⟩
                    by_cases hv : pinsAt s.vs calls[i].n = 0
                    · refine ⟨[.ptr s.bs 0, .i calls[i].n], ⟨hle, Le.refl _, trivial⟩, verUnpin_con hN.st hN.ok calls[i].n (by omega) (fun _ => ?_) fun h => absurd hv h⟩
                      intro hz1 hz2; clear hz1 hz2
                      refine ⟨[.ptr r.rb 0, .i calls[i].n], ⟨hlr, Le.refl _, trivial⟩, rUnpin_con hN.rst hN.rk hN.ok calls[i].n (by omega) (fun _ => ?_) fun h => absurd hv h⟩
                      intro hz1 hz2; clear hz1 hz2
                      refine ⟨(s, r, Hk), hN.up, ?_⟩
                      exact ⟨⟨Le.refl _, Le.refl _, Le.refl _, Le.refl _, Le.refl _, Le.refl _, ⟨rfl, rfl⟩, trivial⟩, ⟨⟨rfl, LeL.refl _⟩, trivial⟩, List.Sublist.refl _⟩
                    · refine ⟨[.ptr s.bs 0, .i calls[i].n], ⟨hle, Le.refl _, trivial⟩, verUnpin_con hN.st hN.ok calls[i].n (by omega) (fun h => absurd h hv) fun _ H1 hs1 => ?_⟩
                      intro hz1 hz2; clear hz1 hz2
                      have hold : HasR r ((s.pins calls[i].n (pinsAt s.vs calls[i].n - 1)).H ++ H) H1 := st_rs hs1
                      refine ⟨[.ptr r.rb 0, .i calls[i].n], ⟨hlr, Le.refl _, trivial⟩, rUnpin_con hold hN.rk hN.ok calls[i].n (by omega) (fun h => absurd h hv) fun _ r' H2 hrb hrk hrs => ?_⟩
                      intro hz1 hz2; clear hz1 hz2
                      refine ⟨(s.pins calls[i].n (pinsAt s.vs calls[i].n - 1), r', H2), hN.set _ (by omega) hrk hrb hrs, ?_⟩
                      exact ⟨⟨Le.refl _, Le.refl _, Le.refl _, Le.refl _, Le.refl _, Le.refl _, ⟨rfl, rfl⟩, trivial⟩, ⟨⟨rfl, LeL.refl _⟩, trivial⟩, List.Sublist.refl _⟩
                  · refine ifB_dec (fun c3 => ?_) (fun c3 => ?_)
                    · refine ⟨[.ptr s.bs 0], ⟨hle, trivial⟩, verSweep_con hN.st hN.ok fun H1 hs1 => ?_⟩
                      intro hz1 hz2; clear hz1 hz2
                      have hold : HasR r (s.swept.H ++ H) H1 := st_rs hs1
                      refine ⟨[.ptr r.rb 0], ⟨hlr, trivial⟩, rSweep_con hold hN.rk hN.ok fun r' H2 hrb hrk hrs => ?_⟩
                      intro hz1 hz2; clear hz1 hz2
                      refine ⟨[.sl .no 1 (s.gone.map .i), .sl .no 1 (s.gone.map .i)], LeL.refl _, (SameInts_con s.gone s.gone).as (decide_eq_true rfl) _ _ ?_⟩
                      intro hz1 hz2; clear hz1 hz2
                      refine ⟨(s.swept, r', H2), hN.sweep hrk hrb hrs, ?_⟩
                      exact ⟨⟨Le.refl _, Le.refl _, Le.refl _, Le.refl _, Le.refl _, Le.refl _, ⟨rfl, rfl⟩, trivial⟩, ⟨⟨rfl, LeL.refl _⟩, trivial⟩, List.Sublist.refl _⟩
                    · refine ⟨(s, r, Hk), hN.up, ?_⟩
                      exact ⟨⟨Le.refl _, Le.refl _, Le.refl _, Le.refl _, Le.refl _, Le.refl _, ⟨rfl, rfl⟩, trivial⟩, ⟨⟨rfl, LeL.refl _⟩, trivial⟩, List.Sublist.refl _⟩
            · rintro ⟨s2, r2, Hk2⟩ hN2
              simp only at hN2
              clear hN hle hlr hhd hfew hln
              have hle : Le (.ptr bs 0) (.ptr s2.bs 0) := le_of_eq (by rw [hN2.bs])
              have hlr : Le (.ptr rb 0) (.ptr r2.rb 0) := le_of_eq (by rw [hN2.rb])
              have hhd := hN2.hd
              have hrs := hN2.rst
              refine sem_seq (esc := fun _ => false) tab_ok mixed ?_
              refine ⟨[0, 2, 1, 3, 4, 5, 6, 8, 7, 9, 10, 11, 12, 13, 15, 14, 16, 17, 18, 19, 20, 21, 22, 23, 25, 26, 27, 24, 28, 29, 30, 31, 32, 33, 35, 36, 34, 37, 38, 39], [], ord_fast (by kernel_rfl), by simp, ?_⟩
              refine ⟨[.ptr s2.bs 0], ⟨hle, trivial⟩, verHead_con hN2.st ?_⟩
              intro hz1 hz2; clear hz1 hz2
              refine ⟨[.ptr r2.rb 0], ⟨hlr, trivial⟩, rHead_con hrs hN2.rk hN2.ok ?_⟩
              intro hz1 hz2; clear hz1 hz2
              refine ifB_t rfl ?_
              refine ⟨[.ptr s2.bs 0], ⟨hle, trivial⟩, verRoom_con hN2.st ?_⟩
              intro hz1 hz2; clear hz1 hz2
              refine ⟨[.ptr r2.rb 0], ⟨hlr, trivial⟩, rRoom_con hrs hN2.rk hN2.ok ?_⟩
              intro hz1 hz2; clear hz1 hz2
              refine ifB_t rfl ?_
              refine ⟨[.ptr s2.bs 0], ⟨hle, trivial⟩, verLives_con hN2.st hN2.ok ?_⟩
              intro hz1 hz2; clear hz1 hz2
              refine ⟨[.ptr r2.rb 0], ⟨hlr, trivial⟩, rLive_con hrs hN2.rk hN2.ok ?_⟩
              intro hz1 hz2; clear hz1 hz2
              refine ⟨[.sl .no 1 ((vNs s2.vs).map .i), .sl .no 1 ((vNs s2.vs).map .i)], LeL.refl _, (SameInts_con (vNs s2.vs) (vNs s2.vs)).as (decide_eq_true rfl) _ _ ?_⟩
              intro hz1 hz2; clear hz1 hz2
              refine ⟨[.ptr s2.bs 0, .i calls[i].n], ⟨hle, Le.refl _, trivial⟩, verPins_con hN2.st calls[i].n ?_⟩
              intro hz1 hz2; clear hz1 hz2
              refine ⟨[.ptr r2.rb 0, .i calls[i].n], ⟨hlr, Le.refl _, trivial⟩, rPins_con hrs hN2.rk hN2.ok calls[i].n ?_⟩
              intro hz1 hz2; clear hz1 hz2
              refine ifB_t rfl ?_
              refine ⟨[.ptr s2.bs 0, .i n], ⟨hle, Le.refl _, trivial⟩, verPins_con hN2.st n ?_⟩
              intro hz1 hz2; clear hz1 hz2
              refine ⟨[.ptr r2.rb 0, .i n], ⟨hlr, Le.refl _, trivial⟩, rPins_con hrs hN2.rk hN2.ok n ?_⟩
              intro hz1 hz2; clear hz1 hz2
              refine ifB_t rfl ?_
              refine sem_le ⟨[(2, .g (clsX calls)), (3, .g (.i n)), (8, .g (.b false)), (9, .g (.ptr bs 0)), (11, .g (.ptr rb 0)), (13, .g (.i i))], [], Hk2⟩ ?_ ?_
              · exact ⟨⟨Le.refl _, Le.refl _, Le.refl _, Le.refl _, Le.refl _, Le.refl _, trivial⟩, trivial, List.Sublist.refl _⟩
              cases hv : vAt s2.vs n with
              | none =>
                refine sem_seq (esc := fun _ => false) tab_ok mixed ?_
                refine ⟨[.ptr s2.bs 0, .i n], ⟨hle, Le.refl _, trivial⟩, verEnv_con hN2.st n (fun _ => ?_) fun v h => absurd (hv.symm.trans h) (by simp)⟩
                intro hz1 hz2; clear hz1 hz2
                refine sem_le ⟨[(2, .g (clsX calls)), (3, .g (.i n)), (8, .g (.b false)), (9, .g (.ptr bs 0)), (11, .g (.ptr rb 0)), (13, .g (.i i)), (19, .g (.v (.pointer none))), (20, .g (.b false))], [], Hk2⟩ ?_ ?_
                · exact ⟨⟨Le.refl _, Le.refl _, Le.refl _, Le.refl _, Le.refl _, Le.refl _, Le.refl _, Le.refl _, trivial⟩, trivial, List.Sublist.refl _⟩
                refine sem_of (esc := fun _ => false) tab_ok mixed ?_
                refine ⟨[.ptr r2.rb 0, .i n], ⟨hlr, Le.refl _, trivial⟩, rHas_con hrs hN2.rk hN2.ok n ?_⟩
                rw [hv]
                intro hz1 hz2; clear hz1 hz2
                refine sem_of (esc := fun _ => false) tab_ok mixed ?_
                refine ⟨in64_of (by first | omega | (dsimp only; omega)) (by first | omega | (dsimp only; omega)), ?_⟩
                refine ⟨(i + 1, s2, r2, Hk2), ⟨by simp only; omega, hN2⟩, by (try dsimp only); omega, ?_⟩
                exact ⟨⟨Le.refl _, Le.refl _, Le.refl _, Le.refl _, Le.refl _, Le.refl _, trivial⟩, trivial, List.Sublist.refl _⟩
              | some v =>
                obtain ⟨hv1, hv2⟩ := vAt_some hv
                have hvl := hN2.env v hv1
                have hvh := hN2.ok.le hv1
                refine sem_seq (esc := fun _ => false) tab_ok mixed ?_
                refine ⟨[.ptr s2.bs 0, .i n], ⟨hle, Le.refl _, trivial⟩, verEnv_con hN2.st n (fun h => absurd (hv.symm.trans h) (by simp)) fun u hu => ?_⟩
                intro hz1 hz2; clear hz1 hz2
                refine sem_le ⟨[(2, .g (clsX calls)), (3, .g (.i n)), (8, .g (.b false)), (9, .g (.ptr bs 0)), (11, .g (.ptr rb 0)), (13, .g (.i i)), (19, .g (envX v.t v.l)), (20, .g (.b true))], [], Hk2⟩ ?_ ?_
                · have e := Option.some.inj (hv.symm.trans hu)
                  exact ⟨⟨Le.refl _, Le.refl _, Le.refl _, Le.refl _, Le.refl _, Le.refl _, le_of_eq (by rw [← e]), Le.refl _, trivial⟩, trivial, List.Sublist.refl _⟩
                clear hu u
                refine sem_of (esc := fun _ => false) tab_ok mixed ?_
                refine ⟨[.ptr r2.rb 0, .i n], ⟨hlr, Le.refl _, trivial⟩, rHas_con hrs hN2.rk hN2.ok n ?_⟩
                rw [hv]
                intro hz1 hz2; clear hz1 hz2
                refine ⟨_, LeL.refl _, envLen_con v.t v.l _ _ ?_⟩
                intro hz1 hz2; clear hz1 hz2
                refine ifB_t (show ((v.l.length : Nat) : Int) = IntKind.i64.wrap (BitVec.ofInt 64 n &&& BitVec.ofInt 64 15).toNat by rw [hvl, and15 (m := v.n) (by omega) hv2]) ?_
                refine sem_of (esc := fun _ => false) tab_ok mixed ?_
                refine ⟨in64_of (by first | omega | (dsimp only; omega)) (by first | omega | (dsimp only; omega)), ?_⟩
                refine ⟨(i + 1, s2, r2, Hk2), ⟨by simp only; omega, hN2⟩, by (try dsimp only); omega, ?_⟩
                exact ⟨⟨Le.refl _, Le.refl _, Le.refl _, Le.refl _, Le.refl _, Le.refl _, trivial⟩, trivial, List.Sublist.refl _⟩
          · refine ⟨Hk, ?_, ?_⟩
            · exact ⟨s.H ++ r.O, by rw [List.append_assoc]; exact hN.st⟩
            · exact ⟨trivial, trivial, List.Sublist.refl _⟩
      · rintro H' ⟨H2, hp⟩
        refine sem_of (esc := fun _ => false) tab_ok mixed ?_
        exact ⟨_, H', Le.refl _, List.Sublist.refl _, H2 ++ H, H, hp, List.sublist_append_right _ _, hq⟩
end Go.Proofs.YtaldgcnhmnfocaaGreatDoor
