/-
  Texts put together: R7, R8, R9, R10, G17, G18, G19. No condition.
-/
import Derived.Test.YtnjnfegafmhgnaaGreatDoorM15
import Derived.Test.YtnjnfegafmhgnaaGreatDoorM13
import Derived.Test.YtnjnfegafmhgnaaGreatDoorM9
/-
  The references' bytes: numbers, texts, levels. No condition.
-/
namespace Go.Proofs.YtnjnfegafmhgnaaGreatDoor
open Go.RowKit

theorem own_of2 {q : Option Cap} {p : Nat × AObj} {H0 HH : Heap} {b : Bool} {R1 : Cap → Prop} {R : Cap → Heap → Prop} (hH : HH = p :: bufH q H0) (hb : b = true) (hR : ∀ c, R c HH → R1 c) (h : ∀ c : Cap, c.b ∉ H0.keys → R c (p :: H0)) :
    (match ownQ q with
      | .no => False
      | .full => ∀ c : Cap, c.b ∉ HH.keys → R1 c
      | .own c0 => bif b then (∃ H0, Heap.Rem (c0.b, .cap c0) HH H0 ∧ ∀ c : Cap, c.b ∉ H0.keys → R c H0) else False) := by
  subst hH
  subst hb
  cases q with
  | none => exact fun c hc => hR c (h c fun hk => hc (List.mem_cons_of_mem _ hk))
  | some c0 => exact ⟨p :: H0, Heap.Rem.there Heap.Rem.here, fun c hc => h c fun hk => hc (List.mem_cons_of_mem _ hk)⟩
theorem enc_ne (n : Nat) : enc n ≠ [] := fun h => by have := enc_pos n; rw [h] at this; simp at this
theorem lvB_ne (l : Lv) : lvB l ≠ [] := fun h => by
  rw [lvB_eq] at h
  simp only [List.append_eq_nil_iff] at h
  exact enc_ne _ h.1.1
theorem tmB_ne (l : Tm) : tmB l ≠ [] := fun h => by
  rw [tmB_eq] at h
  simp only [List.append_eq_nil_iff] at h
  exact enc_ne _ h.1.1.1
theorem stsB_ne {s : List UInt8} : stsB [s] ≠ [] := fun h => by
  unfold stsB stB at h
  simp only [List.map_cons, List.map_nil, List.flatten_cons, List.flatten_nil, List.append_nil, List.append_eq_nil_iff] at h
  exact enc_ne _ h.1
theorem tmod_nat (m : Nat) : (m : Int).tmod 128 = ((m % 128 : Nat) : Int) := by
  rw [Int.tmod_eq_emod_of_nonneg (by omega)]; rfl
theorem tdiv_nat (m : Nat) : (m : Int).tdiv 128 = ((m / 128 : Nat) : Int) := by
  rw [Int.tdiv_eq_ediv_of_nonneg (by omega)]; rfl
theorem u8_hi (m : Nat) : IntKind.u8.wrap ((m : Int).tmod 128 + 128) = ((UInt8.ofNat (m % 128 + 128)).toNat : Int) := by
  rw [tmod_nat]
  unfold IntKind.wrap IntKind.bits IntKind.signed
  simp
  all_goals omega
theorem u8_lo {m : Nat} (h : m < 128) : IntKind.u8.wrap (m : Int) = ((UInt8.ofNat m).toNat : Int) := by
  unfold IntKind.wrap IntKind.bits IntKind.signed
  simp
  all_goals omega
set_option maxRecDepth 100000 in
theorem ref02One_con (n : Nat) (hn : n ≤ 1099511627776) (H : Heap) (Q : AV → Heap → Prop) (hq : ∀ c : Cap, c.b ∉ H.keys → Q (.sl (.own c) 1 ((enc n).map byteV)) ((c.b, .cap c) :: H)) : Con Tryz.prog 92 [.i n] H Q := by
  have hel := enc_le6 n hn
  refine con_of_awp (esc := fun _ => false) tab_ok mixed Tryz.func92 rfl (ent Tryz.func92 (by kernel_rfl) rfl) (by kernel_rfl) ?_
  intro hw hn0
  clear hw hn0
  refine ⟨Option Cap × Nat × List UInt8, fun p => ⟨[(0, .g (.i p.2.1)), (2, .g (.sl .full 0 [])), (3, .g (.sl (ownQ p.1) 1 (p.2.2.map byteV)))], [], bufH p.1 H⟩, fun p => p.2.2 ++ enc p.2.1 = enc n ∧ p.2.1 ≤ n, fun p => p.2.1, ⟨(none, n, []), ⟨rfl, Nat.le_refl _⟩, ?_⟩, ?_⟩
  · exact ⟨⟨Le.refl _, Le.refl _, Le.refl _, trivial⟩, trivial, List.Sublist.refl _⟩
  · rintro ⟨q, m, xs⟩ ⟨he, hm⟩
    simp only at he hm
    have hl := congrArg List.length he
    rw [List.length_append] at hl
    have ht := tmod_nat m
    have hd := tdiv_nat m
    refine ifB_dec (fun h1 => ?_) (fun h1 => ?_)
    · simp only at h1
      have h8 := u8_hi m
      refine ⟨by decide, ?_⟩
      refine ⟨in64_of (by first | omega | (dsimp only; omega)) (by first | omega | (dsimp only; omega)), ?_⟩
      refine ⟨?_, own_of (q := q) (H0 := H) rfl rfl (fun _ h => h) (fun c hc => ?_)⟩
      · simp only [List.length_map, List.length_cons, List.length_nil]
        show _ * (1 + 1) ≤ _
        omega
      have hnext : Le (.sl (.own c) 1 (xs.map byteV ++ [.v (.int .u8 (IntKind.u8.wrap ((m : Int).tmod 128 + 128)))])) (.sl (ownQ (some c)) 1 ((xs ++ [UInt8.ofNat (m % 128 + 128)]).map byteV)) := le_of_eq (by rw [h8, List.map_append]; rfl)
      refine ⟨by decide, ?_⟩
      refine ⟨in64_of (by first | omega | (dsimp only; omega)) (by first | omega | (dsimp only; omega)), ?_⟩
      refine ⟨(some c, m / 128, xs ++ [UInt8.ofNat (m % 128 + 128)]), ⟨?_, by simp only; omega⟩, by (try dsimp only); omega, ⟨⟨ret_i hd, Le.refl _, hnext, trivial⟩, trivial, List.Sublist.refl _⟩⟩
      simp only
      rw [← he, enc_ge (n := m) (by omega), List.append_assoc]
      rfl
    · simp only at h1
      have h8 := u8_lo (m := m) (by omega)
      rw [enc_lt (by omega)] at he
      refine ⟨?_, own_of (q := q) (H0 := H) rfl rfl (fun _ h => h) (fun c hc => ?_)⟩
      · simp only [List.length_map, List.length_cons, List.length_nil]
        show _ * (1 + 1) ≤ _
        omega
      refine ⟨_, _, le_of_eq ?_, List.Sublist.refl _, hq c hc⟩
      show AV.sl _ _ (xs.map byteV ++ [.v (.int .u8 (IntKind.u8.wrap (m : Int)))]) = AV.sl _ _ _
      rw [h8, ← he, List.map_append]
      rfl
set_option maxRecDepth 100000 in
theorem ref02Texts_con (s : List UInt8) (o : Own) (hs : s.length ≤ 1000000) (H : Heap) (Q : AV → Heap → Prop) (hq : ∀ c : Cap, c.b ∉ H.keys → Q (.sl (.own c) 1 ((stB s).map byteV)) ((c.b, .cap c) :: H)) : Con Tryz.prog 93 [.sl o 1 [.str s]] H Q := by
  have he6 := enc_le6 s.length (by omega)
  have one : ∃ z : Int, z = 1 := ⟨_, rfl⟩
  obtain ⟨z, hz⟩ := one
  refine con_of_awp (esc := fun _ => false) tab_ok mixed Tryz.func93 rfl (ent Tryz.func93 (by kernel_rfl) rfl) (by kernel_rfl) ?_
  intro hw hn0
  clear hw hn0
  refine ⟨Option Cap × Int, fun p => ⟨[(0, .g (.sl o 1 [.str s])), (2, .g (.sl .full 0 [])), (3, .g (.sl (ownQ p.1) 1 ((if p.2 = 0 then [] else stB s).map byteV))), (4, .g (.i p.2))], [], bufH p.1 H⟩, fun p => (p.2 = 0 ∧ p.1 = none) ∨ (p.2 = 1 ∧ ∃ c, p.1 = some c ∧ c.b ∉ H.keys), fun p => (1 - p.2).toNat, ⟨(none, 0), Or.inl ⟨rfl, rfl⟩, ?_⟩, ?_⟩
  · exact ⟨⟨Le.refl _, Le.refl _, Le.refl _, Le.refl _, trivial⟩, trivial, List.Sublist.refl _⟩
  · rintro ⟨q, j⟩ hI
    simp only at hI
    have e1 : (([AV.str s] : List AV).length : Int) = 1 := rfl
    refine ifB_dec (fun h1 => ?_) (fun h1 => ?_)
    · have h1' : j < 1 := h1
      rcases hI with ⟨rfl, rfl⟩ | ⟨h, _⟩
      rotate_left
      · omega
      refine ⟨0, rfl, _, rfl, ?_⟩
      refine ⟨[.i (s.length : Nat)], LeL.refl _, ref02One_con s.length (by omega) _ _ fun c1 hc1 => ?_⟩
      intro hz1 hz2; clear hz1 hz2
      refine ⟨?_, ifNil_or (fun h => ?_) (fun _ => fun c hcz => ?_)⟩
      · simp only [List.length_map]
        show (0 + _) * (1 + 1) ≤ _
        omega
      · exact absurd (by simpa using h) (enc_ne s.length)
      have hc : c.b ∉ H.keys := fun hk => hcz (List.mem_cons_of_mem _ hk)
      refine ⟨0, rfl, _, rfl, ?_⟩
      refine ⟨?_, ifNil_or (fun h => ?_) (fun _ => ⟨_, Heap.Rem.here, fun c2 hc2 => ?_⟩)⟩
      · simp only [List.length_map, List.length_append]
        show (0 + _ + _) * (1 + 1) ≤ _
        omega
      · have hs0 : s = [] := by simpa using h
        refine ⟨in64_of (by first | omega | (dsimp only; omega)) (by first | omega | (dsimp only; omega)), ?_⟩
        refine ⟨(some c, 1), Or.inr ⟨rfl, c, rfl, hc⟩, (by show ((1 : Int) - 1).toNat < ((1 : Int) - 0).toNat; decide), ⟨⟨Le.refl _, Le.refl _, le_of_eq ?_, Le.refl _, trivial⟩, trivial, (List.sublist_cons_self _ _).cons_cons _⟩⟩
        show AV.sl (.own c) 1 (([] : List AV) ++ (enc s.length).map byteV) = AV.sl (.own c) 1 ((stB s).map byteV)
        rw [List.nil_append, stB, hs0]; simp
      · refine ⟨in64_of (by first | omega | (dsimp only; omega)) (by first | omega | (dsimp only; omega)), ?_⟩
        refine ⟨(some c2, 1), Or.inr ⟨rfl, c2, rfl, fun hk => hc2 (List.mem_cons_of_mem _ hk)⟩, (by show ((1 : Int) - 1).toNat < ((1 : Int) - 0).toNat; decide), ⟨⟨Le.refl _, Le.refl _, le_of_eq ?_, Le.refl _, trivial⟩, trivial, (List.sublist_cons_self _ _).cons_cons _⟩⟩
        show AV.sl (.own c2) 1 (([] : List AV) ++ (enc s.length).map byteV ++ s.map byteV) = AV.sl (.own c2) 1 ((stB s).map byteV)
        rw [List.nil_append, stB, List.map_append]
    · have h1' : ¬ j < 1 := h1
      rcases hI with ⟨h, _⟩ | ⟨rfl, c, rfl, hc⟩
      · omega
      exact ⟨_, _, Le.refl _, List.Sublist.refl _, hq c hc⟩
set_option maxRecDepth 100000 in
set_option maxHeartbeats 1000000 in
theorem ref08level_con (n : Int) (hn4 : n ≤ 4) : ∀ (N : Nat) (l : Lv), l.nodes ≤ N → N ≤ 1000000 → lvFit n l = true → ∀ (H : Heap) (Q : AV → Heap → Prop), (∀ c : Cap, c.b ∉ H.keys → Q (.sl (.own c) 1 ((lvB l).map byteV)) ((c.b, .cap c) :: H)) → Con Tryz.prog 84 [lvX l] H Q := by
  intro N
  induction N with
  | zero => intro l h; have := l.nodes_pos; omega
  | succ N ih =>
    intro l hN hN1 hfit H Q hq
    have hnd := l.nodes_eq
    have hin := lvFit_in hn4 hfit
    have hlen := lvB_len hn4 l hfit
    obtain ⟨K, hK⟩ : ∃ K : Nat, l.kind = (K : Int) := ⟨l.kind.toNat, by omega⟩
    obtain ⟨M, hM⟩ : ∃ M : Nat, l.n = (M : Int) := ⟨l.n.toNat, by omega⟩
    have eK := enc_le6 K (by omega)
    have eM := enc_le6 M (by omega)
    obtain ⟨hd, hhd⟩ : ∃ hd, hd = enc K ++ (if l.kind = 1 ∨ l.kind = 2 then enc M else []) := ⟨_, rfl⟩
    have hB : lvB l = hd ++ lvBL l.args := by
      rw [lvB_eq, hhd, hK, hM]; simp
    have hBl := congrArg List.length hB
    rw [List.length_append] at hBl
    refine con_of_sem tab_ok Tryz.func84 rfl (ent Tryz.func84 (by kernel_rfl) rfl) (by kernel_rfl) ?_
    intro hw hn0
    clear hw hn0
    refine sem_seq (esc := fun _ => false) tab_ok mixed ?_
    refine sem_seq (esc := fun _ => false) tab_ok mixed ?_
    refine ⟨[.i K], ⟨ret_i hK, trivial⟩, ref02One_con K (by omega) _ _ fun c hc => ?_⟩
    intro hz1 hz2; clear hz1 hz2
    refine sem_join (esc := fun _ => false) tab_ok mixed (X := Cap) (fun c => ⟨[(1, .lp 1 0), (2, .g (.sl .full 0 [])), (3, .g (.sl (.own c) 1 (hd.map byteV)))], [(1, (lvX l).cells)], (c.b, .cap c) :: H⟩) (fun c => c.b ∉ H.keys) ?_ (fun c hc => ?_)
    · have yes : (l.kind = 1 ∨ l.kind = 2) → hd = enc K ++ enc M := fun h => by rw [hhd, if_pos h]
      refine ifB_dec (fun k1 => ?_) (fun k1 => ?_)
      · refine ⟨[.i M], ⟨ret_i hM, trivial⟩, ref02One_con M (by omega) _ _ fun c1 hc1 => ?_⟩
        intro hz1 hz2; clear hz1 hz2
        refine ⟨?_, ifNil_or (fun h => ?_) (fun _ => ⟨_, Heap.Rem.there Heap.Rem.here, fun c2 hc2z => ?_⟩)⟩
        · simp only [List.length_map]
          show _ * (1 + 1) ≤ _
          omega
        · exact absurd (by simpa using h) (enc_ne M)
        have hc2 : c2.b ∉ H.keys := fun hk => hc2z (List.mem_cons_of_mem _ hk)
        refine ⟨c2, hc2, ⟨⟨⟨rfl, rfl⟩, Le.refl _, le_of_eq ?_, trivial⟩, ⟨⟨rfl, LeL.refl _⟩, trivial⟩, (List.sublist_cons_self _ _).cons_cons _⟩⟩
        show AV.sl _ _ _ = AV.sl _ _ _
        rw [yes (by omega), List.map_append]
      · refine ifB_dec (fun k2 => ?_) (fun k2 => ?_)
        · refine ⟨[.i M], ⟨ret_i hM, trivial⟩, ref02One_con M (by omega) _ _ fun c1 hc1 => ?_⟩
          intro hz1 hz2; clear hz1 hz2
          refine ⟨?_, ifNil_or (fun h => ?_) (fun _ => ⟨_, Heap.Rem.there Heap.Rem.here, fun c2 hc2z => ?_⟩)⟩
          · simp only [List.length_map]
            show _ * (1 + 1) ≤ _
            omega
          · exact absurd (by simpa using h) (enc_ne M)
          have hc2 : c2.b ∉ H.keys := fun hk => hc2z (List.mem_cons_of_mem _ hk)
          refine ⟨c2, hc2, ⟨⟨⟨rfl, rfl⟩, Le.refl _, le_of_eq ?_, trivial⟩, ⟨⟨rfl, LeL.refl _⟩, trivial⟩, (List.sublist_cons_self _ _).cons_cons _⟩⟩
          show AV.sl _ _ _ = AV.sl _ _ _
          rw [yes (by omega), List.map_append]
        · refine ⟨c, hc, ⟨⟨⟨rfl, rfl⟩, Le.refl _, le_of_eq ?_, trivial⟩, ⟨⟨rfl, LeL.refl _⟩, trivial⟩, List.Sublist.refl _⟩⟩
          show AV.sl _ _ _ = AV.sl _ _ _
          rw [hhd, if_neg (by omega), List.append_nil]
    refine sem_join (esc := fun _ => false) tab_ok mixed (X := Cap) (fun c => ⟨[(1, .lp 1 0), (2, .g (.sl .full 0 [])), (3, .g (.sl (.own c) 1 ((lvB l).map byteV)))], [(1, (lvX l).cells)], (c.b, .cap c) :: H⟩) (fun c => c.b ∉ H.keys) ?_ (fun c hc => ?_)
    · refine ⟨Cap × Nat, fun p => ⟨[(1, .lp 1 0), (2, .g (.sl .full 0 [])), (3, .g (.sl (.own p.1) 1 ((hd ++ lvBL (l.args.take p.2)).map byteV))), (4, .g (.i p.2))], [(1, (lvX l).cells)], (p.1.b, .cap p.1) :: H⟩, fun p => p.1.b ∉ H.keys ∧ p.2 ≤ l.args.length, fun p => l.args.length - p.2, ⟨(c, 0), ⟨hc, Nat.zero_le _⟩, ?_⟩, ?_⟩
      · refine ⟨⟨⟨rfl, rfl⟩, Le.refl _, le_of_eq ?_, Le.refl _, trivial⟩, ⟨⟨rfl, LeL.refl _⟩, trivial⟩, List.Sublist.refl _⟩
        show AV.sl _ _ _ = AV.sl _ _ _
        simp [lvBL]
      · rintro ⟨c, j⟩ ⟨hc, hj⟩
        simp only at hc hj
        refine ifB_dec (fun h1 => ?_) (fun h1 => ?_)
        · simp only [List.length_map] at h1
          have hlt : j < l.args.length := by omega
          have hmem := Lv.nodesL_mem (List.getElem_mem hlt)
          have hsn := lvBL_snoc hlt
          have hpre := lvBL_pre l.args (j + 1)
          rw [hsn, List.length_append] at hpre
          have hla := lvLen_nodes l.args
          refine ⟨j, rfl, _, lvAt hlt, ?_⟩
          refine ⟨_, LeL.refl _, ih l.args[j] (by omega) (by omega) (lvFit_arg hfit (List.getElem_mem hlt)) _ _ fun c1 hc1 => ?_⟩
          intro hz1 hz2; clear hz1 hz2
          refine ⟨?_, ifNil_or (fun h => ?_) (fun _ => ⟨_, Heap.Rem.there Heap.Rem.here, fun c2 hc2z => ?_⟩)⟩
          · simp only [List.length_map, List.length_append]
            show _ * (1 + 1) ≤ _
            omega
          · exact absurd (by simpa using h) (lvB_ne l.args[j])
          have hc2 : c2.b ∉ H.keys := fun hk => hc2z (List.mem_cons_of_mem _ hk)
          refine ⟨in64_of (by first | omega | (dsimp only; omega)) (by first | omega | (dsimp only; omega)), ?_⟩
          refine ⟨(c2, j + 1), ⟨hc2, by simp only; omega⟩, by (try dsimp only); omega, ⟨⟨⟨rfl, rfl⟩, Le.refl _, le_of_eq ?_, Le.refl _, trivial⟩, ⟨⟨rfl, LeL.refl _⟩, trivial⟩, (List.sublist_cons_self _ _).cons_cons _⟩⟩
          show AV.sl _ _ _ = AV.sl _ _ _
          rw [hsn]
          simp only [List.map_append, List.append_assoc]
        · simp only [List.length_map] at h1
          have hj' : j = l.args.length := by omega
          refine ⟨c, hc, ⟨⟨⟨rfl, rfl⟩, Le.refl _, le_of_eq ?_, trivial⟩, ⟨⟨rfl, LeL.refl _⟩, trivial⟩, List.Sublist.refl _⟩⟩
          show AV.sl _ _ _ = AV.sl _ _ _
          rw [hj', List.take_length, hB]
    refine sem_of (esc := fun _ => false) tab_ok mixed ?_
    exact ⟨_, _, Le.refl _, List.Sublist.refl _, hq c hc⟩
set_option maxRecDepth 100000 in
theorem ref08Level_con (l : Lv) (H : Heap) (Q : AV → Heap → Prop) (hno : lvRight 4 l = false → Q (.tup [.sl .full 0 [], .b false]) H) (hyes : lvRight 4 l = true → ∀ c : Cap, c.b ∉ H.keys → Q (.tup [.sl (.own c) 1 ((lvB l).map byteV), .b true]) ((c.b, .cap c) :: H)) :
    Con Tryz.prog 33 [lvX l] H Q := by
  refine con_of_awp (esc := fun _ => false) tab_ok mixed Tryz.func33 rfl (ent Tryz.func33 (by kernel_rfl) rfl) (by kernel_rfl) ?_
  intro hw hn
  refine ⟨_, LeL.refl _, ref03Right_con _ _ _ _ ?_⟩
  intro hz1 hz2; clear hz1 hz2
  cases hg : lvRight 4 l with
  | false => exact ⟨_, _, Le.refl _, List.Sublist.refl _, hno hg⟩
  | true =>
    obtain ⟨h2, h3⟩ := lvRight_both hg
    refine ⟨_, LeL.refl _, ref08level_con 4 (by decide) _ l (Nat.le_refl _) (by omega) h3 _ _ fun c hc => ?_⟩
    intro hz1 hz2; clear hz1 hz2
    exact ⟨_, _, Le.refl _, List.Sublist.refl _, hyes hg c hc⟩
end Go.Proofs.YtnjnfegafmhgnaaGreatDoor

/-
  The references' bytes: terms. No condition.
-/
namespace Go.Proofs.YtnjnfegafmhgnaaGreatDoor
open Go.RowKit

set_option maxRecDepth 100000 in
set_option maxHeartbeats 1000000 in
theorem ref08variables_con : ∀ (N : Nat) (l : Tm), l.nodes ≤ N → Ans Tryz.prog 143 [tmX l] (.b (tmNear l)) := by
  intro N
  induction N with
  | zero => intro l h; have := l.nodes_pos; omega
  | succ N ih =>
    intro l hN H Q hq
    have hnd := l.nodes_eq
    have heq := tmNear_eq l
    have fin : ∀ q : Bool, q = tmNear l → ∃ r H', Le (.b q) r ∧ List.Sublist H' H ∧ Q r H' := fun q h => ⟨_, H, ret_b h, List.Sublist.refl _, hq⟩
    refine con_of_awp (esc := fun _ => false) tab_ok mixed Tryz.func143 rfl (ent Tryz.func143 (by kernel_rfl) rfl) (by kernel_rfl) ?_
    intro hw hn
    have hlena := (hw (tmX l) (by simp)).targs
    clear hw hn
    refine ifB_dec (fun k1 => ?_) (fun k1 => ?_)
    · refine ifB_dec (fun k2 => ?_) (fun k2 => ?_)
      · exact fin _ (by rw [heq, decide_eq_false (show ¬ l.kind ≠ 1 by omega), decide_eq_false (show ¬ l.n < 1099511627776 by omega)]; rfl)
      · have hok : (decide (l.kind ≠ 1) || decide (l.n < 1099511627776)) = true := by rw [decide_eq_true (show l.n < 1099511627776 by omega), Bool.or_true]
        refine ⟨Nat, fun j => ⟨[(1, .lp 1 0), (2, .g (.b false)), (3, .g (.i j))], [(1, (tmX l).cells)], H⟩, fun j => j ≤ l.args.length ∧ ((l.args.take j).any fun t => !tmNear t) = false, fun j => l.args.length - j, ⟨0, ⟨Nat.zero_le _, rfl⟩, ?_⟩, ?_⟩
        · (constructor <;> repeat' (first | exact trivial | exact ⟨rfl, rfl⟩ | exact ⟨rfl, LeL.refl _⟩ | exact Le.refl _ | exact List.Sublist.refl _ | (show Le (AV.i _) (AV.i _); rw [List.length_map]; exact Le.refl _) | refine And.intro ?_ ?_))
        · rintro j ⟨hj, hall⟩
          refine ifB_dec (fun h1 => ?_) (fun h1 => ?_)
          · simp only [List.length_map] at h1
            have hlt : j < l.args.length := by omega
            have hmem := Tm.nodesL_mem (List.getElem_mem hlt)
            refine ⟨j, rfl, _, tmAt' hlt, ?_⟩
            by_cases m1 : tmNear l.args[j] = true
            rotate_left
            · refine ⟨_, LeL.refl _, (ih l.args[j] (by omega)).no m1 _ _ ?_⟩
              intro hz1 hz2; clear hz1 hz2
              exact fin _ (by rw [heq, any_yes (f := fun t => !tmNear t) hlt (by rw [ntrue m1]; rfl)]; simp)
            refine ⟨_, LeL.refl _, (ih l.args[j] (by omega)).yes m1 _ _ ?_⟩
            intro hz1 hz2; clear hz1 hz2
            refine ⟨in64_of (by first | omega | (dsimp only; omega)) (by first | omega | (dsimp only; omega)), ?_⟩
            refine ⟨j + 1, ⟨by omega, any_take_step hlt hall (by rw [m1]; rfl)⟩, by (try dsimp only); omega, ?_⟩
            (constructor <;> repeat' (first | exact trivial | exact ⟨rfl, rfl⟩ | exact ⟨rfl, LeL.refl _⟩ | exact Le.refl _ | exact List.Sublist.refl _ | (show Le (AV.i _) (AV.i _); rw [List.length_map]; exact Le.refl _) | refine And.intro ?_ ?_))
          · simp only [List.length_map] at h1
            have hj' : j = l.args.length := by omega
            rw [hj', List.take_length] at hall
            exact fin _ (by rw [heq, hall, hok]; rfl)
    · have hok : (decide (l.kind ≠ 1) || decide (l.n < 1099511627776)) = true := by rw [decide_eq_true (show l.kind ≠ 1 from k1), Bool.true_or]
      refine ⟨Nat, fun j => ⟨[(1, .lp 1 0), (2, .g (.b false)), (3, .g (.i j))], [(1, (tmX l).cells)], H⟩, fun j => j ≤ l.args.length ∧ ((l.args.take j).any fun t => !tmNear t) = false, fun j => l.args.length - j, ⟨0, ⟨Nat.zero_le _, rfl⟩, ?_⟩, ?_⟩
      · (constructor <;> repeat' (first | exact trivial | exact ⟨rfl, rfl⟩ | exact ⟨rfl, LeL.refl _⟩ | exact Le.refl _ | exact List.Sublist.refl _ | (show Le (AV.i _) (AV.i _); rw [List.length_map]; exact Le.refl _) | refine And.intro ?_ ?_))
      · rintro j ⟨hj, hall⟩
        refine ifB_dec (fun h1 => ?_) (fun h1 => ?_)
        · simp only [List.length_map] at h1
          have hlt : j < l.args.length := by omega
          have hmem := Tm.nodesL_mem (List.getElem_mem hlt)
          refine ⟨j, rfl, _, tmAt' hlt, ?_⟩
          by_cases m1 : tmNear l.args[j] = true
          rotate_left
          · refine ⟨_, LeL.refl _, (ih l.args[j] (by omega)).no m1 _ _ ?_⟩
            intro hz1 hz2; clear hz1 hz2
            exact fin _ (by rw [heq, any_yes (f := fun t => !tmNear t) hlt (by rw [ntrue m1]; rfl)]; simp)
          refine ⟨_, LeL.refl _, (ih l.args[j] (by omega)).yes m1 _ _ ?_⟩
          intro hz1 hz2; clear hz1 hz2
          refine ⟨in64_of (by first | omega | (dsimp only; omega)) (by first | omega | (dsimp only; omega)), ?_⟩
          refine ⟨j + 1, ⟨by omega, any_take_step hlt hall (by rw [m1]; rfl)⟩, by (try dsimp only); omega, ?_⟩
          (constructor <;> repeat' (first | exact trivial | exact ⟨rfl, rfl⟩ | exact ⟨rfl, LeL.refl _⟩ | exact Le.refl _ | exact List.Sublist.refl _ | (show Le (AV.i _) (AV.i _); rw [List.length_map]; exact Le.refl _) | refine And.intro ?_ ?_))
        · simp only [List.length_map] at h1
          have hj' : j = l.args.length := by omega
          rw [hj', List.take_length] at hall
          exact fin _ (by rw [heq, hall, hok]; rfl)
set_option maxRecDepth 100000 in
theorem ref08Right_con (l : Tm) : Ans Tryz.prog 87 [tmX l] (.b (packOk l)) := by
  intro H Q hq
  have fin : ∀ q : Bool, q = packOk l → ∃ r H', Le (.b q) r ∧ List.Sublist H' H ∧ Q r H' := fun q h => ⟨_, H, ret_b h, List.Sublist.refl _, hq⟩
  refine con_of_awp (esc := fun _ => false) tab_ok mixed Tryz.func87 rfl (ent Tryz.func87 (by kernel_rfl) rfl) (by kernel_rfl) ?_
  intro hw hn
  by_cases h1 : tmRight 4 1099511627776 l = true
  · refine ⟨_, LeL.refl _, (ref04Right_con 4 1099511627776 l).yes h1 _ _ ?_⟩
    intro hz1 hz2; clear hz1 hz2
    by_cases h2 : tmNear l = true
    · refine ⟨_, LeL.refl _, (ref08variables_con _ l (Nat.le_refl _)).yes h2 _ _ ?_⟩
      intro hz1 hz2; clear hz1 hz2
      exact fin _ (by rw [packOk, h1, h2]; rfl)
    · refine ⟨_, LeL.refl _, (ref08variables_con _ l (Nat.le_refl _)).no h2 _ _ ?_⟩
      intro hz1 hz2; clear hz1 hz2
      exact fin _ (by rw [packOk, ntrue h2, Bool.and_false])
  · refine ⟨_, LeL.refl _, (ref04Right_con 4 1099511627776 l).no h1 _ _ ?_⟩
    intro hz1 hz2; clear hz1 hz2
    exact fin _ (by rw [packOk, ntrue h1]; rfl)
theorem fit_argL {n k : Int} : ∀ {ts : List Tm} {i : Nat} {v : Int}, tmFitL n k ts i v = true → ∀ t ∈ ts, ∃ w, tmFit n t w = true
  | [], _, _, _, t, ht => by cases ht
  | a :: ts, i, v, h, t, ht => by
    rw [tmFitL, Bool.and_eq_true] at h
    rcases List.mem_cons.1 ht with rfl | ht
    · exact ⟨_, h.1⟩
    · exact fit_argL h.2 t ht
theorem fit_parts {n v : Int} {t : Tm} (h : tmFit n t v = true) : tmNode v t.kind t.n t.name t.levels.length t.args.length = true ∧ tmFitL n t.kind t.args 0 v = true := by
  rw [tmFit_eq, Bool.and_eq_true, Bool.and_eq_true] at h
  exact ⟨h.1.1, h.2⟩
set_option maxRecDepth 100000 in
set_option maxHeartbeats 2000000 in
theorem ref08term_con (n : Int) (hn4 : n ≤ 4) : ∀ (N : Nat) (l : Tm) (v : Int), l.nodes ≤ N → N ≤ 1000000 → tmFit n l v = true → PokAll l → ∀ (H : Heap) (Q : AV → Heap → Prop), (∀ c : Cap, c.b ∉ H.keys → Q (.sl (.own c) 1 ((tmB l).map byteV)) ((c.b, .cap c) :: H)) → Con Tryz.prog 88 [tmX l] H Q := by
  intro N
  induction N with
  | zero => intro l v h; have := l.nodes_pos; omega
  | succ N ih =>
    intro l v hN hN1 hfit hpok H Q hq
    have hnd := l.nodes_eq
    have hp := hpok.pok
    have hk := hp.kind
    have hlen := tmB_len l hpok
    obtain ⟨hnode, hfl⟩ := fit_parts hfit
    have hcs := tmNode_cases hnode
    have hnm := hp.name
    have hfew := hp.few
    obtain ⟨K, hK⟩ : ∃ K : Nat, l.kind = (K : Int) := ⟨l.kind.toNat, by omega⟩
    have eK := enc_le6 K (by omega)
    have e2 := enc_le6 l.levels.length (by omega)
    have e1 := enc_le6 l.name.length (by omega)
    obtain ⟨hd, hhd⟩ : ∃ hd, hd = enc K ++ tmHd l ++ lvBL l.levels := ⟨_, rfl⟩
    have hB : tmB l = hd ++ tmBL l.args := by
      rw [tmB_eq, hhd, hK]; simp
    have hBl := congrArg List.length hB
    rw [List.length_append] at hBl
    have hhl : (enc K).length + (tmHd l).length + (lvBL l.levels).length = hd.length := by rw [hhd, List.length_append, List.length_append]
    refine con_of_sem tab_ok Tryz.func88 rfl (ent Tryz.func88 (by kernel_rfl) rfl) (by kernel_rfl) ?_
    intro hw hn0
    clear hw hn0
    refine sem_seq (esc := fun _ => false) tab_ok mixed ?_
    refine sem_seq (esc := fun _ => false) tab_ok mixed ?_
    refine ⟨[.i K], ⟨ret_i hK, trivial⟩, ref02One_con K (by omega) _ _ fun c hc => ?_⟩
    intro hz1 hz2; clear hz1 hz2
    refine sem_join (esc := fun _ => false) tab_ok mixed (X := Cap) (fun c => ⟨[(1, .lp 1 0), (2, .g (.sl .full 0 [])), (3, .g (.sl (.own c) 1 (hd.map byteV)))], [(1, (tmX l).cells)], (c.b, .cap c) :: H⟩) (fun c => c.b ∉ H.keys) ?_ (fun c hc => ?_)
    · refine ifB_dec (fun k1 => ?_) (fun k1 => ?_)
      · have hlv : l.levels = [] := List.eq_nil_of_length_eq_zero (by omega)
        obtain ⟨M, hM⟩ : ∃ M : Nat, l.n = (M : Int) := ⟨l.n.toNat, by have := hp.num k1; omega⟩
        have hm40 := hp.num k1
        have eM := enc_le6 M (by omega)
        have hh : hd = enc K ++ enc M := by rw [hhd, hlv, tmHd, if_pos k1, hM]; simp [lvBL]
        refine ⟨[.i M], ⟨ret_i hM, trivial⟩, ref02One_con M (by omega) _ _ fun c1 hc1 => ?_⟩
        intro hz1 hz2; clear hz1 hz2
        refine ⟨?_, ifNil_or (fun h => ?_) (fun _ => ⟨_, Heap.Rem.there Heap.Rem.here, fun c2 hc2z => ?_⟩)⟩
        · simp only [List.length_map, List.length_append]
          show _ * (1 + 1) ≤ _
          omega
        · exact absurd (by simpa using h) (enc_ne M)
        have hc2 : c2.b ∉ Heap.keys (H) := fun hk => hc2z (List.mem_cons_of_mem _ hk)
        refine ⟨c2, hc2, ⟨⟨⟨rfl, rfl⟩, Le.refl _, le_of_eq ?_, trivial⟩, ⟨⟨rfl, LeL.refl _⟩, trivial⟩, (List.sublist_cons_self _ _).cons_cons _⟩⟩
        show AV.sl _ _ _ = AV.sl _ _ _
        rw [hh, List.map_append]
      refine ifB_dec (fun k2 => ?_) (fun k2 => ?_)
      · obtain ⟨x, hx⟩ : ∃ x, l.levels = [x] := List.length_eq_one_iff.1 (by omega)
        have hfx := hp.lv x (by rw [hx]; simp)
        have hmx : x.nodes ≤ N := by
          have := Lv.nodesL_mem (show x ∈ l.levels by rw [hx]; simp)
          omega
        have hxl := lvB_len (by decide) x hfx
        have hh : hd = enc K ++ lvB x := by rw [hhd, hx, tmHd, if_neg k1, if_neg (by omega)]; simp [lvBL]
        refine ⟨0, rfl, lvX x, by rw [hx, List.map_cons, lvA_eq]; rfl, ?_⟩
        refine ⟨_, LeL.refl _, ref08level_con 4 (by decide) _ x (Nat.le_refl _) (by omega) hfx _ _ fun c1 hc1 => ?_⟩
        intro hz1 hz2; clear hz1 hz2
        refine ⟨?_, ifNil_or (fun h => ?_) (fun _ => ⟨_, Heap.Rem.there Heap.Rem.here, fun c2 hc2z => ?_⟩)⟩
        · simp only [List.length_map, List.length_append]
          show _ * (1 + 1) ≤ _
          omega
        · exact absurd (by simpa using h) (lvB_ne x)
        have hc2 : c2.b ∉ Heap.keys (H) := fun hk => hc2z (List.mem_cons_of_mem _ hk)
        refine ⟨c2, hc2, ⟨⟨⟨rfl, rfl⟩, Le.refl _, le_of_eq ?_, trivial⟩, ⟨⟨rfl, LeL.refl _⟩, trivial⟩, (List.sublist_cons_self _ _).cons_cons _⟩⟩
        show AV.sl _ _ _ = AV.sl _ _ _
        rw [hh, List.map_append]
      refine ifB_dec (fun k3 => ?_) (fun k3 => ?_)
      · have hh : hd = enc K ++ stB l.name ++ enc l.levels.length ++ lvBL l.levels := by rw [hhd, tmHd, if_neg k1, if_pos k3]; simp
        have hhl2 := congrArg List.length hh
        simp only [List.length_append] at hhl2
        have hsl : (stB l.name).length ≤ 46 := by unfold stB; rw [List.length_append]; omega
        refine ⟨_, LeL.refl _, ref02Texts_con l.name _ (by omega) _ _ fun c1 hc1 => ?_⟩
        intro hz1 hz2; clear hz1 hz2
        refine ⟨?_, ifNil_or (fun h => ?_) (fun _ => ⟨_, Heap.Rem.there Heap.Rem.here, fun c2 hc2z => ?_⟩)⟩
        · simp only [List.length_map, List.length_append]
          show _ * (1 + 1) ≤ _
          omega
        · exact absurd (by simpa using h) ((fun h => by unfold stB at h; exact enc_ne _ (List.append_eq_nil_iff.1 h).1))
        have hc2 : c2.b ∉ Heap.keys (H) := fun hk => hc2z (List.mem_cons_of_mem _ hk)
        refine ⟨[.i (l.levels.length : Nat)], ⟨ret_i (by rw [List.length_map]), trivial⟩, ref02One_con l.levels.length (by omega) _ _ fun c3 hc3 => ?_⟩
        intro hz1 hz2; clear hz1 hz2
        refine ⟨?_, ifNil_or (fun h => ?_) (fun _ => ⟨_, Heap.Rem.there Heap.Rem.here, fun c4 hc4z => ?_⟩)⟩
        · simp only [List.length_map, List.length_append]
          show _ * (1 + 1) ≤ _
          omega
        · exact absurd (by simpa using h) (enc_ne _)
        have hc4 : c4.b ∉ Heap.keys (((c1.b, AObj.cap c1) :: H)) := fun hk => hc4z (List.mem_cons_of_mem _ hk)
        refine ⟨Cap × Nat, fun p => ⟨[(1, .lp 1 0), (2, .g (.sl .full 0 [])), (3, .g (.sl (.own p.1) 1 ((enc K ++ stB l.name ++ enc l.levels.length ++ lvBL (l.levels.take p.2)).map byteV))), (4, .g (.i p.2))], [(1, (tmX l).cells)], (p.1.b, .cap p.1) :: H⟩, fun p => p.1.b ∉ H.keys ∧ p.2 ≤ l.levels.length, fun p => l.levels.length - p.2, ⟨(c4, 0), ⟨fun h => hc4 (List.mem_cons_of_mem _ h), Nat.zero_le _⟩, ?_⟩, ?_⟩
        · refine ⟨⟨⟨rfl, rfl⟩, Le.refl _, le_of_eq ?_, Le.refl _, trivial⟩, ⟨⟨rfl, LeL.refl _⟩, trivial⟩, ((List.sublist_cons_self _ _).cons _).cons_cons _⟩
          show AV.sl _ _ _ = AV.sl _ _ _
          simp [lvBL]
        · rintro ⟨c, j⟩ ⟨hc, hj⟩
          simp only at hc hj
          refine ifB_dec (fun h1 => ?_) (fun h1 => ?_)
          · simp only [List.length_map] at h1
            have hlt : j < l.levels.length := by omega
            have hmem := Lv.nodesL_mem (List.getElem_mem hlt)
            have hsn := lvBL_snoc hlt
            have hpre := lvBL_pre l.levels (j + 1)
            rw [hsn, List.length_append] at hpre
            refine ⟨j, rfl, _, lvAt hlt, ?_⟩
            refine ⟨_, LeL.refl _, ref08level_con 4 (by decide) _ l.levels[j] (Nat.le_refl _) (by omega) (hp.lv _ (List.getElem_mem hlt)) _ _ fun c1 hc1 => ?_⟩
            intro hz1 hz2; clear hz1 hz2
            refine ⟨?_, ifNil_or (fun h => ?_) (fun _ => ⟨_, Heap.Rem.there Heap.Rem.here, fun c2 hc2z => ?_⟩)⟩
            · simp only [List.length_map, List.length_append]
              show _ * (1 + 1) ≤ _
              omega
            · exact absurd (by simpa using h) (lvB_ne l.levels[j])
            have hc2 : c2.b ∉ Heap.keys (H) := fun hk => hc2z (List.mem_cons_of_mem _ hk)
            refine ⟨in64_of (by first | omega | (dsimp only; omega)) (by first | omega | (dsimp only; omega)), ?_⟩
            refine ⟨(c2, j + 1), ⟨hc2, by simp only; omega⟩, by (try dsimp only); omega, ⟨⟨⟨rfl, rfl⟩, Le.refl _, le_of_eq ?_, Le.refl _, trivial⟩, ⟨⟨rfl, LeL.refl _⟩, trivial⟩, (List.sublist_cons_self _ _).cons_cons _⟩⟩
            show AV.sl _ _ _ = AV.sl _ _ _
            rw [hsn]
            simp only [List.map_append, List.append_assoc]
          · simp only [List.length_map] at h1
            have hj' : j = l.levels.length := by omega
            refine ⟨c, hc, ⟨⟨⟨rfl, rfl⟩, Le.refl _, le_of_eq ?_, trivial⟩, ⟨⟨rfl, LeL.refl _⟩, trivial⟩, List.Sublist.refl _⟩⟩
            show AV.sl _ _ _ = AV.sl _ _ _
            rw [hj', List.take_length, hh]
      · have hlv : l.levels = [] := List.eq_nil_of_length_eq_zero (by omega)
        refine ⟨c, hc, ⟨⟨⟨rfl, rfl⟩, Le.refl _, le_of_eq ?_, trivial⟩, ⟨⟨rfl, LeL.refl _⟩, trivial⟩, List.Sublist.refl _⟩⟩
        show AV.sl _ _ _ = AV.sl _ _ _
        rw [hhd, hlv, tmHd, if_neg k1, if_neg k3]; simp [lvBL]
    refine sem_join (esc := fun _ => false) tab_ok mixed (X := Cap) (fun c => ⟨[(1, .lp 1 0), (2, .g (.sl .full 0 [])), (3, .g (.sl (.own c) 1 ((tmB l).map byteV)))], [(1, (tmX l).cells)], (c.b, .cap c) :: H⟩) (fun c => c.b ∉ H.keys) ?_ (fun c hc => ?_)
    · refine ⟨Cap × Nat, fun p => ⟨[(1, .lp 1 0), (2, .g (.sl .full 0 [])), (3, .g (.sl (.own p.1) 1 ((hd ++ tmBL (l.args.take p.2)).map byteV))), (5, .g (.i p.2))], [(1, (tmX l).cells)], (p.1.b, .cap p.1) :: H⟩, fun p => p.1.b ∉ H.keys ∧ p.2 ≤ l.args.length, fun p => l.args.length - p.2, ⟨(c, 0), ⟨hc, Nat.zero_le _⟩, ?_⟩, ?_⟩
      · refine ⟨⟨⟨rfl, rfl⟩, Le.refl _, le_of_eq ?_, Le.refl _, trivial⟩, ⟨⟨rfl, LeL.refl _⟩, trivial⟩, List.Sublist.refl _⟩
        show AV.sl _ _ _ = AV.sl _ _ _
        simp [tmBL]
      · rintro ⟨c, j⟩ ⟨hc, hj⟩
        simp only at hc hj
        refine ifB_dec (fun h1 => ?_) (fun h1 => ?_)
        · simp only [List.length_map] at h1
          have hlt : j < l.args.length := by omega
          have hmem := Tm.nodesL_mem (List.getElem_mem hlt)
          have hsn := tmBL_snoc hlt
          have hpre := tmBL_pre l.args (j + 1)
          rw [hsn, List.length_append] at hpre
          have hta := tmLen_nodes l.args
          obtain ⟨w, hfw⟩ := fit_argL hfl _ (List.getElem_mem hlt)
          refine ⟨j, rfl, _, tmAt' hlt, ?_⟩
          refine ⟨_, LeL.refl _, ih l.args[j] w (by omega) (by omega) hfw (hpok.arg (List.getElem_mem hlt)) _ _ fun c1 hc1 => ?_⟩
          intro hz1 hz2; clear hz1 hz2
          refine ⟨?_, ifNil_or (fun h => ?_) (fun _ => ⟨_, Heap.Rem.there Heap.Rem.here, fun c2 hc2z => ?_⟩)⟩
          · simp only [List.length_map, List.length_append]
            show _ * (1 + 1) ≤ _
            omega
          · exact absurd (by simpa using h) (tmB_ne l.args[j])
          have hc2 : c2.b ∉ Heap.keys (H) := fun hk => hc2z (List.mem_cons_of_mem _ hk)
          refine ⟨in64_of (by first | omega | (dsimp only; omega)) (by first | omega | (dsimp only; omega)), ?_⟩
          refine ⟨(c2, j + 1), ⟨hc2, by simp only; omega⟩, by (try dsimp only); omega, ⟨⟨⟨rfl, rfl⟩, Le.refl _, le_of_eq ?_, Le.refl _, trivial⟩, ⟨⟨rfl, LeL.refl _⟩, trivial⟩, (List.sublist_cons_self _ _).cons_cons _⟩⟩
          show AV.sl _ _ _ = AV.sl _ _ _
          rw [hsn]
          simp only [List.map_append, List.append_assoc]
        · simp only [List.length_map] at h1
          have hj' : j = l.args.length := by omega
          refine ⟨c, hc, ⟨⟨⟨rfl, rfl⟩, Le.refl _, le_of_eq ?_, trivial⟩, ⟨⟨rfl, LeL.refl _⟩, trivial⟩, List.Sublist.refl _⟩⟩
          show AV.sl _ _ _ = AV.sl _ _ _
          rw [hj', List.take_length, hB]
    refine sem_of (esc := fun _ => false) tab_ok mixed ?_
    exact ⟨_, _, Le.refl _, List.Sublist.refl _, hq c hc⟩
theorem packOk_fit {t : Tm} (h : packOk t = true) : PokAll t ∧ t.nodes ≤ 2000 ∧ ∃ v, tmFit 4 t v = true := by
  obtain ⟨h1, h2⟩ := packOk_pok h
  refine ⟨h1, h2, ?_⟩
  unfold packOk tmRight at h
  simp only [Bool.and_eq_true, decide_eq_true_eq] at h
  exact ⟨_, h.1.2⟩
set_option maxRecDepth 100000 in
theorem ref08Term_con (l : Tm) (H : Heap) (Q : AV → Heap → Prop) (hno : packOk l = false → Q (.tup [.sl .full 0 [], .b false]) H) (hyes : packOk l = true → ∀ c : Cap, c.b ∉ H.keys → Q (.tup [.sl (.own c) 1 ((tmB l).map byteV), .b true]) ((c.b, .cap c) :: H)) :
    Con Tryz.prog 35 [tmX l] H Q := by
  refine con_of_awp (esc := fun _ => false) tab_ok mixed Tryz.func35 rfl (ent Tryz.func35 (by kernel_rfl) rfl) (by kernel_rfl) ?_
  intro hw hn
  refine ⟨_, LeL.refl _, ref08Right_con _ _ _ ?_⟩
  intro hz1 hz2; clear hz1 hz2
  cases hg : packOk l with
  | false => exact ⟨_, _, Le.refl _, List.Sublist.refl _, hno hg⟩
  | true =>
    obtain ⟨h1, h2, w, h3⟩ := packOk_fit hg
    refine ⟨_, LeL.refl _, ref08term_con 4 (by decide) _ l w (Nat.le_refl _) (by omega) h3 h1 _ _ fun c hc => ?_⟩
    intro hz1 hz2; clear hz1 hz2
    exact ⟨_, _, Le.refl _, List.Sublist.refl _, hyes hg c hc⟩
end Go.Proofs.YtnjnfegafmhgnaaGreatDoor

/-
  The references' bytes: declarations, their hash; a declaration's copy. No condition.
-/
namespace Go.Proofs.YtnjnfegafmhgnaaGreatDoor
open Go.RowKit

theorem closed_fit {n : Int} {t : Tm} (h : tmRight n 0 t = true) : PokAll t ∧ t.nodes ≤ 2000 ∧ n ≤ 4 ∧ tmFit n t 0 = true := by
  obtain ⟨h1, h2, _, h4, h5⟩ := closed_pok h
  exact ⟨h1, h2, h4, h5⟩
theorem stB_ne (s : List UInt8) : stB s ≠ [] := fun h => by unfold stB at h; exact enc_ne _ (List.append_eq_nil_iff.1 h).1
theorem stB_len {s : List UInt8} (h : s.length ≤ 40) : (stB s).length ≤ 46 := by
  have := enc_le6 s.length (by omega)
  unfold stB
  rw [List.length_append]
  omega
set_option maxRecDepth 100000 in
set_option maxHeartbeats 2000000 in
theorem ref08Decl_con (d : Dc) (H : Heap) (Q : AV → Heap → Prop) (hno : formed d = false → Q (.tup [.sl .full 0 [], .b false]) H) (hyes : formed d = true → ∀ c : Cap, c.b ∉ H.keys → Q (.tup [.sl (.own c) 1 ((dcB d).map byteV), .b true]) ((c.b, .cap c) :: H)) :
    Con Tryz.prog 37 [dcX d] H Q := by
  by_cases hg : formed d = true
  rotate_left
  · refine con_of_awp (esc := fun _ => false) tab_ok mixed Tryz.func37 rfl (ent Tryz.func37 (by kernel_rfl) rfl) (by kernel_rfl) ?_
    intro hw hn
    refine ⟨_, LeL.refl _, (ref08Formed_con d).no hg _ _ ?_⟩
    intro hz1 hz2; clear hz1 hz2
    exact ⟨_, _, Le.refl _, List.Sublist.refl _, hno (ntrue hg)⟩
  have hf := formed_says hg
  have hk := hf.kind
  obtain ⟨ht1, ht2, ht3, ht4⟩ := closed_fit hf.type
  have hp := tmRight_params hf.type
  have hnm := name_len hf.name
  obtain ⟨K, hK⟩ : ∃ K : Nat, d.kind = (K : Int) := ⟨d.kind.toNat, by omega⟩
  obtain ⟨P, hP⟩ : ∃ P : Nat, d.params = (P : Int) := ⟨d.params.toNat, by omega⟩
  have eK := enc_le6 K (by omega)
  have eP := enc_le6 P (by omega)
  have eS := stB_len hnm
  have eT := tmB_len _ ht1
  obtain ⟨hd, hhd⟩ : ∃ hd, hd = enc K ++ stB d.name ++ enc P ++ tmB d.type := ⟨_, rfl⟩
  have hdl := congrArg List.length hhd
  simp only [List.length_append] at hdl
  have hB : dcB d = hd ++ dcTail d := by
    unfold dcB
    rw [hhd, hK, hP]
    simp only [List.append_assoc, Int.toNat_natCast]
  refine con_of_sem tab_ok Tryz.func37 rfl (ent Tryz.func37 (by kernel_rfl) rfl) (by kernel_rfl) ?_
  intro hw hn0
  clear hw hn0
  refine sem_seq (esc := fun _ => false) tab_ok mixed ?_
  refine sem_seq (esc := fun _ => false) tab_ok mixed ?_
  refine ⟨_, LeL.refl _, (ref08Formed_con d).yes hg _ _ ?_⟩
  intro hz1 hz2; clear hz1 hz2
  refine sem_join (esc := fun _ => false) tab_ok mixed (X := Cap) (fun c => ⟨[(1, .lp 1 0), (2, .g (.sl .full 0 [])), (3, .g (.b false)), (4, .g (.sl (.own c) 1 ((enc K).map byteV)))], [(1, (dcX d).cells)], (c.b, .cap c) :: H⟩) (fun c => c.b ∉ H.keys) ?_ (fun c hc => ?_)
  · refine ⟨[.i K], ⟨ret_i hK, trivial⟩, ref02One_con K (by omega) _ _ fun c hc => ?_⟩
    intro hz1 hz2; clear hz1 hz2
    refine ⟨c, hc, ⟨⟨⟨rfl, rfl⟩, Le.refl _, Le.refl _, Le.refl _, trivial⟩, ⟨⟨rfl, LeL.refl _⟩, trivial⟩, List.Sublist.refl _⟩⟩
  refine sem_join (esc := fun _ => false) tab_ok mixed (X := Cap) (fun c => ⟨[(1, .lp 1 0), (2, .g (.sl .full 0 [])), (3, .g (.b false)), (4, .g (.sl (.own c) 1 ((enc K ++ stB d.name).map byteV)))], [(1, (dcX d).cells)], (c.b, .cap c) :: H⟩) (fun c => c.b ∉ H.keys) ?_ (fun c hc => ?_)
  · refine ⟨_, LeL.refl _, ref02Texts_con d.name _ (by omega) _ _ fun c1 hc1 => ?_⟩
    intro hz1 hz2; clear hz1 hz2
    refine ⟨?_, ifNil_or (fun h => ?_) (fun _ => ⟨_, Heap.Rem.there Heap.Rem.here, fun c2 hc2z => ?_⟩)⟩
    · simp only [List.length_map, List.length_append]
      show _ * (1 + 1) ≤ _
      omega
    · exact absurd (by simpa using h) (stB_ne _)
    have hc2 : c2.b ∉ Heap.keys (H) := fun hk => hc2z (List.mem_cons_of_mem _ hk)
    refine ⟨c2, hc2, ⟨⟨⟨rfl, rfl⟩, Le.refl _, Le.refl _, le_of_eq ?_, trivial⟩, ⟨⟨rfl, LeL.refl _⟩, trivial⟩, (List.sublist_cons_self _ _).cons_cons _⟩⟩
    show AV.sl _ _ _ = AV.sl _ _ _
    simp only [List.map_append, List.append_assoc]
  refine sem_join (esc := fun _ => false) tab_ok mixed (X := Cap) (fun c => ⟨[(1, .lp 1 0), (2, .g (.sl .full 0 [])), (3, .g (.b false)), (4, .g (.sl (.own c) 1 ((enc K ++ stB d.name ++ enc P).map byteV)))], [(1, (dcX d).cells)], (c.b, .cap c) :: H⟩) (fun c => c.b ∉ H.keys) ?_ (fun c hc => ?_)
  · refine ⟨[.i P], ⟨ret_i hP, trivial⟩, ref02One_con P (by omega) _ _ fun c1 hc1 => ?_⟩
    intro hz1 hz2; clear hz1 hz2
    refine ⟨?_, ifNil_or (fun h => ?_) (fun _ => ⟨_, Heap.Rem.there Heap.Rem.here, fun c2 hc2z => ?_⟩)⟩
    · simp only [List.length_map, List.length_append]
      show _ * (1 + 1) ≤ _
      omega
    · exact absurd (by simpa using h) (enc_ne _)
    have hc2 : c2.b ∉ Heap.keys (H) := fun hk => hc2z (List.mem_cons_of_mem _ hk)
    refine ⟨c2, hc2, ⟨⟨⟨rfl, rfl⟩, Le.refl _, Le.refl _, le_of_eq ?_, trivial⟩, ⟨⟨rfl, LeL.refl _⟩, trivial⟩, (List.sublist_cons_self _ _).cons_cons _⟩⟩
    show AV.sl _ _ _ = AV.sl _ _ _
    simp only [List.map_append, List.append_assoc]
  refine sem_join (esc := fun _ => false) tab_ok mixed (X := Cap) (fun c => ⟨[(1, .lp 1 0), (2, .g (.sl .full 0 [])), (3, .g (.b false)), (4, .g (.sl (.own c) 1 ((hd).map byteV)))], [(1, (dcX d).cells)], (c.b, .cap c) :: H⟩) (fun c => c.b ∉ H.keys) ?_ (fun c hc => ?_)
  · refine ⟨_, LeL.refl _, ref08term_con d.params ht3 _ d.type 0 (Nat.le_refl _) (by omega) ht4 ht1 _ _ fun c1 hc1 => ?_⟩
    intro hz1 hz2; clear hz1 hz2
    refine ⟨?_, ifNil_or (fun h => ?_) (fun _ => ⟨_, Heap.Rem.there Heap.Rem.here, fun c2 hc2z => ?_⟩)⟩
    · simp only [List.length_map, List.length_append]
      show _ * (1 + 1) ≤ _
      omega
    · exact absurd (by simpa using h) (tmB_ne _)
    have hc2 : c2.b ∉ Heap.keys (H) := fun hk => hc2z (List.mem_cons_of_mem _ hk)
    refine ⟨c2, hc2, ⟨⟨⟨rfl, rfl⟩, Le.refl _, Le.refl _, le_of_eq ?_, trivial⟩, ⟨⟨rfl, LeL.refl _⟩, trivial⟩, (List.sublist_cons_self _ _).cons_cons _⟩⟩
    show AV.sl _ _ _ = AV.sl _ _ _
    rw [hhd]
    simp only [List.map_append, List.append_assoc]
  refine sem_join (esc := fun _ => false) tab_ok mixed (X := Cap) (fun c => ⟨[(1, .lp 1 0), (2, .g (.sl .full 0 [])), (3, .g (.b false)), (4, .g (.sl (.own c) 1 ((dcB d).map byteV)))], [(1, (dcX d).cells)], (c.b, .cap c) :: H⟩) (fun c => c.b ∉ H.keys) ?_ (fun c hc => ?_)
  · refine ifB_dec (fun k5 => ?_) (fun k5 => ?_)
    · obtain ⟨f1, f2, f3, f4⟩ := hf.fam k5
      obtain ⟨F, hF⟩ : ∃ F : Nat, d.fixed = (F : Int) := ⟨d.fixed.toNat, by omega⟩
      have eF := enc_le6 F (by omega)
      have eC := enc_le6 d.ctors.length (by omega)
      have htail : dcTail d = enc F ++ (enc d.ctors.length ++ (d.ctors.map ctB).flatten) := by
        unfold dcTail
        rw [if_neg (by omega), if_pos k5, hF]; rfl
      refine ⟨[.i F], ⟨ret_i hF, trivial⟩, ref02One_con F (by omega) _ _ fun c1 hc1 => ?_⟩
      intro hz1 hz2; clear hz1 hz2
      refine ⟨?_, ifNil_or (fun h => ?_) (fun _ => ⟨_, Heap.Rem.there Heap.Rem.here, fun c2 hc2z => ?_⟩)⟩
      · simp only [List.length_map, List.length_append]
        show _ * (1 + 1) ≤ _
        omega
      · exact absurd (by simpa using h) (enc_ne _)
      have hc2 : c2.b ∉ Heap.keys (H) := fun hk => hc2z (List.mem_cons_of_mem _ hk)
      refine ⟨[.i (d.ctors.length : Nat)], ⟨ret_i (by rw [List.length_map]), trivial⟩, ref02One_con d.ctors.length (by omega) _ _ fun c3 hc3 => ?_⟩
      intro hz1 hz2; clear hz1 hz2
      refine ⟨?_, ifNil_or (fun h => ?_) (fun _ => ⟨_, Heap.Rem.there Heap.Rem.here, fun c4 hc4z => ?_⟩)⟩
      · simp only [List.length_map, List.length_append]
        show _ * (1 + 1) ≤ _
        omega
      · exact absurd (by simpa using h) (enc_ne _)
      have hc4 : c4.b ∉ Heap.keys (((c1.b, AObj.cap c1) :: H)) := fun hk => hc4z (List.mem_cons_of_mem _ hk)
      refine ⟨Cap × Nat, fun p => ⟨[(1, .lp 1 0), (2, .g (.sl .full 0 [])), (3, .g (.b false)), (4, .g (.sl (.own p.1) 1 ((hd ++ (enc F ++ (enc d.ctors.length ++ ((d.ctors.take p.2).map ctB).flatten))).map byteV))), (5, .g (.i p.2))], [(1, (dcX d).cells)], (p.1.b, .cap p.1) :: H⟩, fun p => p.1.b ∉ H.keys ∧ p.2 ≤ d.ctors.length, fun p => d.ctors.length - p.2, ⟨(c4, 0), ⟨fun h => hc4 (List.mem_cons_of_mem _ h), Nat.zero_le _⟩, ?_⟩, ?_⟩
      · refine ⟨⟨⟨rfl, rfl⟩, Le.refl _, Le.refl _, le_of_eq ?_, Le.refl _, trivial⟩, ⟨⟨rfl, LeL.refl _⟩, trivial⟩, ((List.sublist_cons_self _ _).cons _).cons_cons _⟩
        show AV.sl _ _ _ = AV.sl _ _ _
        simp
      · rintro ⟨c, j⟩ ⟨hc, hj⟩
        simp only at hc hj
        refine ifB_dec (fun h1 => ?_) (fun h1 => ?_)
        · simp only [List.length_map] at h1
          have hlt : j < d.ctors.length := by omega
          obtain ⟨g1, g2⟩ := f4 _ (List.getElem_mem hlt)
          obtain ⟨q1, q2, q3, q4⟩ := closed_fit g2
          have gl := name_len g1
          have gs := stB_len gl
          have gt := tmB_len _ q1
          have hcl := cts_len hf k5 j hj
          have hsn := cts_snoc hlt
          refine ⟨j, rfl, _, ctAt hlt, ?_⟩
          refine ⟨_, LeL.refl _, ref02Texts_con d.ctors[j].name _ (by omega) _ _ fun c1 hc1 => ?_⟩
          intro hz1 hz2; clear hz1 hz2
          refine ⟨?_, ifNil_or (fun h => ?_) (fun _ => ⟨_, Heap.Rem.there Heap.Rem.here, fun c2 hc2z => ?_⟩)⟩
          · simp only [List.length_map, List.length_append]
            show _ * (1 + 1) ≤ _
            omega
          · exact absurd (by simpa using h) (stB_ne _)
          have hc2 : c2.b ∉ Heap.keys (H) := fun hk => hc2z (List.mem_cons_of_mem _ hk)
          refine ⟨j, rfl, _, ctAt hlt, ?_⟩
          refine ⟨[tmX d.ctors[j].type], LeL.refl _, ref08term_con d.params q3 _ d.ctors[j].type 0 (Nat.le_refl _) (by omega) q4 q1 _ _ fun c3 hc3 => ?_⟩
          intro hz1 hz2; clear hz1 hz2
          refine ⟨?_, ifNil_or (fun h => ?_) (fun _ => ⟨_, Heap.Rem.there Heap.Rem.here, fun c4 hc4z => ?_⟩)⟩
          · simp only [List.length_map, List.length_append]
            show _ * (1 + 1) ≤ _
            omega
          · exact absurd (by simpa using h) (tmB_ne _)
          have hc4 : c4.b ∉ Heap.keys (((c1.b, AObj.cap c1) :: H)) := fun hk => hc4z (List.mem_cons_of_mem _ hk)
          refine ⟨in64_of (by first | omega | (dsimp only; omega)) (by first | omega | (dsimp only; omega)), ?_⟩
          refine ⟨(c4, j + 1), ⟨fun h => hc4 (List.mem_cons_of_mem _ h), by simp only; omega⟩, by (try dsimp only); omega, ⟨⟨⟨rfl, rfl⟩, Le.refl _, Le.refl _, le_of_eq ?_, Le.refl _, trivial⟩, ⟨⟨rfl, LeL.refl _⟩, trivial⟩, ((List.sublist_cons_self _ _).cons _).cons_cons _⟩⟩
          show AV.sl _ _ _ = AV.sl _ _ _
          rw [hsn]
          unfold ctB
          simp only [List.map_append, List.append_assoc]
        · simp only [List.length_map] at h1
          have hj' : j = d.ctors.length := by omega
          refine ⟨c, hc, ⟨⟨⟨rfl, rfl⟩, Le.refl _, Le.refl _, le_of_eq ?_, trivial⟩, ⟨⟨rfl, LeL.refl _⟩, trivial⟩, List.Sublist.refl _⟩⟩
          show AV.sl _ _ _ = AV.sl _ _ _
          rw [hj', List.take_length, hB, htail]
    · refine ifB_dec (fun k1 => ?_) (fun k1 => ?_)
      · have htail : dcTail d = [] := by unfold dcTail; rw [if_neg (by omega), if_neg k5]
        refine ⟨c, hc, ⟨⟨⟨rfl, rfl⟩, Le.refl _, Le.refl _, le_of_eq ?_, trivial⟩, ⟨⟨rfl, LeL.refl _⟩, trivial⟩, List.Sublist.refl _⟩⟩
        show AV.sl _ _ _ = AV.sl _ _ _
        rw [hB, htail, List.append_nil]
      · have htail : dcTail d = tmB d.value := by unfold dcTail; rw [if_pos (by omega)]
        obtain ⟨q1, q2, q3, q4⟩ := closed_fit (hf.val (by omega))
        have gt := tmB_len _ q1
        refine ⟨_, LeL.refl _, ref08term_con d.params q3 _ d.value 0 (Nat.le_refl _) (by omega) q4 q1 _ _ fun c1 hc1 => ?_⟩
        intro hz1 hz2; clear hz1 hz2
        refine ⟨?_, ifNil_or (fun h => ?_) (fun _ => ⟨_, Heap.Rem.there Heap.Rem.here, fun c2 hc2z => ?_⟩)⟩
        · simp only [List.length_map, List.length_append]
          show _ * (1 + 1) ≤ _
          omega
        · exact absurd (by simpa using h) (tmB_ne _)
        have hc2 : c2.b ∉ Heap.keys (H) := fun hk => hc2z (List.mem_cons_of_mem _ hk)
        refine ⟨c2, hc2, ⟨⟨⟨rfl, rfl⟩, Le.refl _, Le.refl _, le_of_eq ?_, trivial⟩, ⟨⟨rfl, LeL.refl _⟩, trivial⟩, (List.sublist_cons_self _ _).cons_cons _⟩⟩
        show AV.sl _ _ _ = AV.sl _ _ _
        rw [hB, htail, List.map_append]
  refine sem_of (esc := fun _ => false) tab_ok mixed ?_
  exact ⟨_, _, Le.refl _, List.Sublist.refl _, hyes hg c hc⟩

/-! the hash -/
theorem xor_split (h c : Nat) (hc : c < 256) : h - h % 256 + ((h % 256) ^^^ c) = h ^^^ c := by
  have e1 : (h ^^^ c) % 256 = (h % 256) ^^^ c := by
    have := Nat.xor_mod_two_pow (a := h) (b := c) (n := 8)
    rw [show (2 : Nat) ^ 8 = 256 from rfl] at this
    rw [this, Nat.mod_eq_of_lt hc]
  have e2 : (h ^^^ c) / 256 = h / 256 := by
    have := Nat.xor_div_two_pow (a := h) (b := c) (n := 8)
    rw [show (2 : Nat) ^ 8 = 256 from rfl] at this
    rw [this, Nat.div_eq_of_lt hc, Nat.xor_zero]
  have e3 := Nat.div_add_mod (h ^^^ c) 256
  have e4 := Nat.div_add_mod h 256
  rw [e1, e2] at e3
  omega
end Go.Proofs.YtnjnfegafmhgnaaGreatDoor

/-
  The reference's hash; a declaration's copy; how great a declaration is. No condition.
-/
namespace Go.Proofs.YtnjnfegafmhgnaaGreatDoor
open Go.RowKit

theorem u64_of {n : Int} (h0 : 0 ≤ n) (h1 : n < 18446744073709551616) : IntKind.u64.wrap n = n := by
  unfold IntKind.wrap IntKind.bits IntKind.signed
  simp
  omega
theorem u8_of {n : Int} (h0 : 0 ≤ n) (h1 : n < 256) : IntKind.u8.wrap n = n := by
  unfold IntKind.wrap IntKind.bits IntKind.signed
  simp
  omega
theorem xor_lt8 {a b : Nat} (ha : a < 256) (hb : b < 256) : a ^^^ b < 256 := Nat.xor_lt_two_pow (n := 8) ha hb
theorem xor_lt64 {a b : Nat} (ha : a < 18446744073709551616) (hb : b < 18446744073709551616) : a ^^^ b < 18446744073709551616 := Nat.xor_lt_two_pow (n := 64) ha hb
theorem u64_bounds (n : Int) : 0 ≤ IntKind.u64.wrap n ∧ IntKind.u64.wrap n < 18446744073709551616 := by
  unfold IntKind.wrap IntKind.bits IntKind.signed
  simp
  omega
theorem ofInt_nat (w n : Nat) (h : n < 2 ^ w) : (BitVec.ofInt w (n : Int)).toNat = n := by
  rw [BitVec.ofInt_natCast, BitVec.toNat_ofNat, Nat.mod_eq_of_lt h]
theorem tmod256 (m : Nat) : (m : Int).tmod 256 = ((m % 256 : Nat) : Int) := by
  rw [Int.tmod_eq_emod_of_nonneg (by omega)]; omega
theorem ref_xor {h : Nat} (hh : h < 18446744073709551616) (c : UInt8) : IntKind.u64.wrap (IntKind.u64.wrap ((h : Int) - (h : Int).tmod 256) + IntKind.u64.wrap (IntKind.u8.wrap (((BitVec.ofInt IntKind.u8.bits (IntKind.u8.wrap ((h : Int).tmod 256)) ^^^ BitVec.ofInt IntKind.u8.bits ((c.toNat : Nat) : Int)).toNat : Nat) : Int))) = ((h ^^^ c.toNat : Nat) : Int) := by
  have hc : c.toNat < 256 := c.toNat_lt
  have hs := xor_split h c.toNat hc
  have hx := xor_lt8 (Nat.mod_lt h (by decide : 256 > 0)) hc
  rw [tmod256, u8_of (n := ((h % 256 : Nat) : Int)) (by omega) (by omega), BitVec.toNat_xor]
  rw [show (BitVec.ofInt IntKind.u8.bits ((h % 256 : Nat) : Int)).toNat = h % 256 from ofInt_nat 8 _ (by omega), show (BitVec.ofInt IntKind.u8.bits ((c.toNat : Nat) : Int)).toNat = c.toNat from ofInt_nat 8 _ hc]
  rw [u8_of (by omega) (by omega), u64_of (n := (((h % 256) ^^^ c.toNat : Nat) : Int)) (by omega) (by omega), u64_of (n := (h : Int) - ((h % 256 : Nat) : Int)) (by omega) (by omega)]
  have hlt := xor_lt64 hh (show c.toNat < 18446744073709551616 by omega)
  rw [u64_of (by omega) (by omega)]
  omega
theorem hstep_xor {h : Nat} (hh : h < 18446744073709551616) (c : UInt8) : hstep (h : Int) c = IntKind.u64.wrap (((h ^^^ c.toNat : Nat) : Int) * 1099511628211) := by
  have hc : c.toNat < 256 := c.toNat_lt
  unfold hstep
  have hlt := xor_lt64 hh (show c.toNat < 18446744073709551616 by omega)
  rw [u64_of (n := ((c.toNat : Nat) : Int)) (by omega) (by omega), BitVec.toNat_xor]
  rw [show (BitVec.ofInt IntKind.u64.bits (h : Int)).toNat = h from ofInt_nat 64 _ hh, show (BitVec.ofInt IntKind.u64.bits ((c.toNat : Nat) : Int)).toNat = c.toNat from ofInt_nat 64 _ (by omega)]
  rw [u64_of (n := ((h ^^^ c.toNat : Nat) : Int)) (by omega) (by omega)]
theorem hash_nat (bs : List UInt8) : ∃ m : Nat, m < 18446744073709551616 ∧ hashB bs = (m : Int) := by
  have key2 : ∀ y : Int, ∃ m : Nat, m < 18446744073709551616 ∧ IntKind.u64.wrap y = (m : Int) := fun y => by
    obtain ⟨h0, h1⟩ := u64_bounds y
    exact ⟨(IntKind.u64.wrap y).toNat, by omega, by omega⟩
  have key : ∀ (l : List UInt8) (x : Int), (∃ m : Nat, m < 18446744073709551616 ∧ x = (m : Int)) → ∃ m : Nat, m < 18446744073709551616 ∧ l.foldl hstep x = (m : Int) := fun l => by
    induction l with
    | nil => exact fun x h => h
    | cons c l ih =>
      intro x _
      refine ih _ ?_
      unfold hstep
      exact key2 _
  exact key bs _ ⟨14695981039346656037, by decide, rfl⟩
set_option maxRecDepth 100000 in
theorem xor_con {h : Nat} (hh : h < 18446744073709551616) (c : UInt8) : Ans Tryz.prog 98 [.v (.int .u64 (h : Int)), byteV c] (.v (.int .u64 ((h ^^^ c.toNat : Nat) : Int))) := by
  intro H Q hq
  refine con_of_awp (esc := fun _ => false) tab_ok mixed Tryz.func98 rfl (ent Tryz.func98 (by kernel_rfl) rfl) (by kernel_rfl) ?_
  intro hw hn
  refine ⟨by decide, ?_⟩
  refine ⟨by decide, ?_⟩
  refine ⟨_, H, le_of_eq ?_, List.Sublist.refl _, hq⟩
  rw [← ref_xor hh c]
  rfl
set_option maxRecDepth 100000 in
theorem ref08Hash_con (d : Dc) : Ans Tryz.prog 42 [dcX d] (.v (.int .u64 (dcHash d))) := by
  intro H Q hq
  refine con_of_awp (esc := fun _ => false) tab_ok mixed Tryz.func42 rfl (ent Tryz.func42 (by kernel_rfl) rfl) (by kernel_rfl) ?_
  intro hw hn
  refine ⟨_, LeL.refl _, ?_⟩
  refine ref08Decl_con d _ _ (fun h => ?_) (fun h c hc => ?_)
  · intro hz1 hz2; clear hz1 hz2
    refine ⟨_, H, le_of_eq ?_, List.Sublist.refl _, hq⟩
    unfold dcHash; rw [h]; rfl
  · intro hwf _
    have hl : (dcB d).length ≤ 9223372036854775807 := by
      have := Wf.len (hwf.tup (x := .sl (.own c) 1 ((dcB d).map byteV)) (by simp))
      simpa using this
    clear hwf
    refine ⟨Nat, fun k => ⟨[(2, .g (.v (.int .u64 0))), (3, .g (byX (dcB d))), (5, .g (.v (.int .u64 (hashB ((dcB d).take k))))), (6, .g (.i k))], [], H⟩, fun k => k ≤ (dcB d).length, fun k => (dcB d).length - k, ⟨0, Nat.zero_le _, ?_⟩, ?_⟩
    · exact ⟨⟨Le.refl _, Le.own _ _ _, Le.refl _, Le.refl _, trivial⟩, trivial, List.sublist_cons_self _ _⟩
    · intro k hk
      obtain ⟨m, hm, he⟩ := hash_nat ((dcB d).take k)
      refine ifB_dec (fun h1 => ?_) (fun h1 => ?_)
      · simp only [List.length_map] at h1
        have hlt : k < (dcB d).length := by omega
        refine ⟨k, rfl, _, byAt hlt, ?_⟩
        refine ⟨[.v (.int .u64 (m : Int)), byteV (dcB d)[k]], ⟨le_of_eq (by rw [he]), Le.refl _, trivial⟩, xor_con hm _ _ _ ?_⟩
        intro hz1 hz2; clear hz1 hz2
        refine ⟨in64_of (by first | omega | (dsimp only; omega)) (by first | omega | (dsimp only; omega)), ?_⟩
        refine ⟨k + 1, (by omega), by (try dsimp only); omega, ⟨⟨Le.refl _, Le.refl _, le_of_eq ?_, Le.refl _, trivial⟩, trivial, List.Sublist.refl _⟩⟩
        rw [hash_snoc hlt, he, hstep_xor hm]
      · simp only [List.length_map] at h1
        have hk' : k = (dcB d).length := by omega
        refine ⟨_, H, le_of_eq ?_, List.Sublist.refl _, hq⟩
        rw [hk', List.take_length]
        unfold dcHash; rw [if_pos h]; rfl

/-! how great a declaration is -/
set_option maxRecDepth 100000 in
set_option maxHeartbeats 1000000 in
theorem DeclNodes_or (d : Dc) (most : Nat) (hm : most ≤ 1099511627776) (H : Heap) (Q : AV → Heap → Prop) (hq : ∀ n : Int, (n ≤ most → d.type.big ≤ most ∧ d.value.big ≤ most ∧ ∀ c ∈ d.ctors, c.type.big ≤ most) → Q (.i n) H) : Con Tryz.prog 64 [dcX d, .i most] H Q := by
  refine con_of_awp (esc := fun _ => false) tab_ok mixed Tryz.func64 rfl (ent Tryz.func64 (by kernel_rfl) rfl) (by kernel_rfl) ?_
  intro hw hn
  have hd := hw (dcX d) (by simp)
  have hname := (hd.cell (x := .str d.name) (by simp)).str
  have hcn := fun c hc => ctor_name hd (c := c) hc
  have hlen : d.ctors.length ≤ 9223372036854775807 := by
    have := Wf.len (hd.cell (x := .sl .no 6 (d.ctors.map ctX)) (by simp))
    simpa using this
  clear hd hw hn
  have e16 : Int.tdiv (d.name.length : Int) 16 = ((d.name.length / 16 : Nat) : Int) := rfl
  refine ifB_dec (fun h0 => ?_) (fun h0 => ?_)
  · refine ⟨in64_of (by first | omega | (dsimp only; omega)) (by first | omega | (dsimp only; omega)), ?_⟩
    exact ⟨_, H, Le.refl _, List.Sublist.refl _, hq _ fun h => by omega⟩
  · simp only [List.length_map] at h0
    refine ⟨[0, 1, 2, 4, 5, 6, 9, 10, 11, 12, 3, 7, 8, 13, 14], [], by kernel_rfl, by simp, ?_⟩
    refine ⟨by decide, in64_of (by omega) (by omega), ?_⟩
    have hb1 : min d.type.big (most + 1) ≤ most + 1 := Nat.min_le_right _ _
    have hb2 : min d.value.big (most + 1) ≤ most + 1 := Nat.min_le_right _ _
    refine ⟨_, LeL.refl _, tmBig_con most hm _ d.type (Nat.le_refl _) _ _ ?_⟩
    intro hz1 hz2; clear hz1 hz2
    refine ⟨_, LeL.refl _, tmBig_con most hm _ d.value (Nat.le_refl _) _ _ ?_⟩
    intro hz1 hz2; clear hz1 hz2
    refine ⟨in64_of (by omega) (by omega), in64_of (by omega) (by omega), ?_⟩
    refine ⟨Nat × Int, fun p => ⟨[(1, .g (.i most)), (2, .lp 2 0), (4, .g (.i 0)), (5, .g (.i p.2)), (6, .g (.i p.1))], [(2, (dcX d).cells)], H⟩,
      fun p => p.1 ≤ d.ctors.length ∧ 0 ≤ p.2 ∧ p.2 ≤ 4503599627370496 ∧ ((min d.type.big (most + 1) : Nat) : Int) ≤ p.2 ∧ ((min d.value.big (most + 1) : Nat) : Int) ≤ p.2 ∧ ∀ c ∈ d.ctors.take p.1, ((min c.type.big (most + 1) : Nat) : Int) ≤ p.2, fun p => d.ctors.length - p.1, ⟨(0, ((min d.type.big (most + 1) : Nat) : Int) + ((min d.value.big (most + 1) : Nat) : Int) + Int.tdiv (d.name.length : Int) 16), ⟨Nat.zero_le _, by simp only; omega, by simp only; omega, by simp only; omega, by simp only; omega, by simp⟩, ?_⟩, ?_⟩
    · exact ⟨⟨Le.refl _, ⟨rfl, rfl⟩, Le.refl _, Le.refl _, Le.refl _, trivial⟩, ⟨⟨rfl, LeL.refl _⟩, trivial⟩, List.Sublist.refl _⟩
    · rintro ⟨k, m⟩ ⟨hk, hm0, hm1, ht, hv, hall⟩
      simp only at hk hm0 hm1 ht hv hall
      refine ifB_dec (fun h1 => ?_) (fun h1 => ?_)
      · simp only [List.length_map] at h1
        have hlt : k < d.ctors.length := by omega
        refine ifB_dec (fun h2 => ?_) (fun h2 => ?_)
        · simp only at h2
          refine ⟨[0, 1, 2, 3, 4, 5, 6, 7, 9, 10, 11, 12, 13, 14, 15, 16, 8, 17, 18, 19], [], by kernel_rfl, by simp, ?_⟩
          have hcl := hcn _ (List.getElem_mem hlt)
          have e17 : Int.tdiv (d.ctors[k].name.length : Int) 16 = ((d.ctors[k].name.length / 16 : Nat) : Int) := rfl
          have hb3 : min d.ctors[k].type.big (most + 1) ≤ most + 1 := Nat.min_le_right _ _
          refine ⟨k, rfl, _, ctAt hlt, k, rfl, _, ctAt hlt, by decide, in64_of (by omega) (by omega), ?_⟩
          refine ⟨_, LeL.refl _, tmBig_con most hm _ d.ctors[k].type (Nat.le_refl _) _ _ ?_⟩
          intro hz1 hz2; clear hz1 hz2
          refine ⟨in64_of (by omega) (by omega), in64_of (by simp only; omega) (by simp only; omega), in64_of (by simp only; omega) (by simp only; omega), ?_⟩
          refine ⟨(k + 1, m + (((min d.ctors[k].type.big (most + 1) : Nat) : Int) + Int.tdiv (d.ctors[k].name.length : Int) 16)), ⟨by simp only; omega, by simp only; omega, by simp only; omega, by simp only; omega, by simp only; omega, fun c hc => ?_⟩, by (try dsimp only); omega, ⟨⟨Le.refl _, ⟨rfl, rfl⟩, Le.refl _, Le.refl _, Le.refl _, trivial⟩, ⟨⟨rfl, LeL.refl _⟩, trivial⟩, List.Sublist.refl _⟩⟩
          simp only at hc ⊢
          rw [List.take_succ_eq_append_getElem hlt, List.mem_append, List.mem_singleton] at hc
          rcases hc with hc | rfl
          · have := hall c hc
            omega
          · omega
        · simp only at h2
          refine ⟨in64_of (by first | omega | (dsimp only; omega)) (by first | omega | (dsimp only; omega)), ?_⟩
          exact ⟨_, H, Le.refl _, List.Sublist.refl _, hq _ fun h => by omega⟩
      · simp only [List.length_map] at h1
        have hk' : d.ctors.length = k := by omega
        rw [← hk', List.take_length] at hall
        refine ⟨in64_of (by first | omega | (dsimp only; omega)) (by first | omega | (dsimp only; omega)), ?_⟩
        exact ⟨_, H, Le.refl _, List.Sublist.refl _, hq _ fun h => ⟨by omega, by omega, fun c hc => by have := hall c hc; omega⟩⟩
set_option maxRecDepth 100000 in
theorem Great8_or (d : Dc) (H : Heap) (Q : AV → Heap → Prop) (h1 : Q (.b true) H) (h0 : d.ctors.length ≤ 20 → d.type.big ≤ 4000 → d.value.big ≤ 4000 → (∀ c ∈ d.ctors, c.type.big ≤ 4000) → Q (.b false) H) : Con Tryz.prog 12 [dcX d] H Q := by
  refine con_of_awp (esc := fun _ => false) tab_ok mixed Tryz.func12 rfl (ent Tryz.func12 (by kernel_rfl) rfl) (by kernel_rfl) ?_
  intro hw hn
  refine ifB_dec (fun k1 => ?_) (fun k1 => ?_)
  · exact ⟨_, H, Le.refl _, List.Sublist.refl _, h1⟩
  · simp only [List.length_map] at k1
    refine ⟨_, LeL.refl _, DeclNodes_or d 4000 (by decide) _ _ fun n hn4 => ?_⟩
    intro hz1 hz2; clear hz1 hz2
    refine ifB_dec (fun h2 => ?_) (fun h2 => ?_)
    · exact ⟨_, H, Le.refl _, List.Sublist.refl _, h1⟩
    · have := hn4 (by omega)
      exact ⟨_, H, Le.refl _, List.Sublist.refl _, h0 (by omega) this.1 this.2.1 this.2.2⟩
theorem ctX_cells (c : Ct) : ctX c = .agg [.str c.name, .i c.type.kind, .i c.type.n, .str c.type.name, .sl .no 3 (c.type.levels.map lvA), .sl .no 5 (c.type.args.map tmA)] := rfl
set_option maxRecDepth 100000 in
set_option maxHeartbeats 1000000 in
theorem CopyDecl_con (d : Dc) (h1 : d.type.nodes ≤ 1000000) (h2 : d.value.nodes ≤ 1000000) (h3 : d.ctors.length ≤ 1000000) (h4 : ∀ c ∈ d.ctors, c.type.nodes ≤ 1000000) : Ans Tryz.prog 31 [dcX d] (dcX d) := by
  intro H Q hq
  refine con_of_awp (esc := fun _ => false) tab_ok mixed Tryz.func31 rfl (ent Tryz.func31 (by kernel_rfl) rfl) (by kernel_rfl) ?_
  intro hw hn
  clear hw hn
  refine ⟨_, LeL.refl _, CopyTerm_con _ d.type (Nat.le_refl _) h1 _ _ ?_⟩
  intro hz1 hz2; clear hz1 hz2
  refine ⟨_, LeL.refl _, CopyTerm_con _ d.value (Nat.le_refl _) h2 _ _ ?_⟩
  intro hz1 hz2; clear hz1 hz2
  refine ⟨Option Cap × Nat, fun p => ⟨[(1, .lp 1 0), (2, .lp 2 0), (3, .lp 3 0), (4, .g (.i p.2))], [(3, [.i d.kind, .i d.params, .str d.name, .i d.type.kind, .i d.type.n, .str d.type.name, .sl .no 3 (d.type.levels.map lvA), .sl .no 5 (d.type.args.map tmA), .i d.value.kind, .i d.value.n, .str d.value.name, .sl .no 3 (d.value.levels.map lvA), .sl .no 5 (d.value.args.map tmA), .i d.fixed, .sl (ownQ p.1) 6 ((d.ctors.take p.2).map ctX)]), (2, [.i 0, .i 0, .str [], .i 0, .i 0, .str [], .sl .full 0 [], .sl .full 0 [], .i 0, .i 0, .str [], .sl .full 0 [], .sl .full 0 [], .i 0, .sl .full 0 []]), (1, (dcX d).cells)], bufH p.1 H⟩,
    fun p => p.2 ≤ d.ctors.length, fun p => d.ctors.length - p.2, ⟨(none, 0), Nat.zero_le _, ?_⟩, ?_⟩
  · exact ⟨⟨⟨rfl, rfl⟩, ⟨rfl, rfl⟩, ⟨rfl, rfl⟩, Le.refl _, trivial⟩, ⟨⟨rfl, ⟨Le.refl _, Le.refl _, Le.refl _, Le.refl _, Le.refl _, Le.refl _, Le.refl _, Le.refl _, Le.refl _, Le.refl _, Le.refl _, Le.refl _, Le.refl _, Le.refl _, Le.nil' _, trivial⟩⟩, ⟨rfl, LeL.refl _⟩, ⟨rfl, LeL.refl _⟩, trivial⟩, List.Sublist.refl _⟩
  · rintro ⟨q, j⟩ hj
    simp only at hj
    refine ifB_dec (fun k1 => ?_) (fun k1 => ?_)
    · simp only [List.length_map] at k1
      have hlt : j < d.ctors.length := by omega
      refine ⟨[0, 1, 2, 3, 4, 5, 6, 7, 8, 9, 10, 11, 12, 13, 14, 15, 16, 17, 18, 19], [], ord_fast (by kernel_rfl), by simp, ?_⟩
      refine ⟨j, rfl, _, ctAt hlt, ?_⟩
      refine ⟨j, rfl, _, ctAt hlt, ?_⟩
      refine ⟨[tmX d.ctors[j].type], LeL.refl _, CopyTerm_con _ d.ctors[j].type (Nat.le_refl _) (h4 _ (List.getElem_mem hlt)) _ _ ?_⟩
      intro hz1 hz2; clear hz1 hz2
      refine ⟨?_, ?_⟩
      · simp only [List.length_map, List.length_cons, List.length_nil]
        try simp only [List.length_take]
        show _ * (96 + 1) ≤ _
        omega
      refine own_of (q := q) (H0 := H) ?_ ?_ ?_ (fun c hc => ?_)
      · exact rfl
      · exact rfl
      · exact fun _ h => h
      have hsn : (d.ctors.take j).map ctX ++ [ctX d.ctors[j]] = (d.ctors.take (j + 1)).map ctX := by rw [List.take_succ_eq_append_getElem hlt, List.map_append]; rfl
      have hnext : Le (.sl (.own c) 6 ((d.ctors.take j).map ctX ++ [ctX d.ctors[j]])) (.sl (ownQ (some c)) 6 ((d.ctors.take (j + 1)).map ctX)) := by rw [hsn]; exact Le.refl _
      refine ⟨in64_of (by first | omega | (dsimp only; omega)) (by first | omega | (dsimp only; omega)), ?_⟩
      exact ⟨(some c, j + 1), (by simp only; omega), by (try dsimp only); omega, ⟨⟨⟨rfl, rfl⟩, ⟨rfl, rfl⟩, ⟨rfl, rfl⟩, Le.refl _, trivial⟩, ⟨⟨rfl, ⟨Le.refl _, Le.refl _, Le.refl _, Le.refl _, Le.refl _, Le.refl _, Le.refl _, Le.refl _, Le.refl _, Le.refl _, Le.refl _, Le.refl _, Le.refl _, Le.refl _, hnext, trivial⟩⟩, ⟨rfl, LeL.refl _⟩, ⟨rfl, LeL.refl _⟩, trivial⟩, List.Sublist.refl _⟩⟩
    · simp only [List.length_map] at k1
      have hj' : d.ctors.length = j := by omega
      subst hj'
      have hfin : Le (.agg [.i d.kind, .i d.params, .str d.name, .i d.type.kind, .i d.type.n, .str d.type.name, .sl .no 3 (d.type.levels.map lvA), .sl .no 5 (d.type.args.map tmA), .i d.value.kind, .i d.value.n, .str d.value.name, .sl .no 3 (d.value.levels.map lvA), .sl .no 5 (d.value.args.map tmA), .i d.fixed, .sl (ownQ q) 6 ((d.ctors.take d.ctors.length).map ctX)]) (dcX d) := Le.agg ⟨Le.refl _, Le.refl _, Le.refl _, Le.refl _, Le.refl _, Le.refl _, Le.refl _, Le.refl _, Le.refl _, Le.refl _, Le.refl _, Le.refl _, Le.refl _, Le.refl _, Le.trans (ownQ_le _ _ _) (le_of_eq (by rw [List.take_length])), trivial⟩
      exact ⟨_, _, hfin, bufH_sub q _, hq⟩
end Go.Proofs.YtnjnfegafmhgnaaGreatDoor

/-
  What is taken from bytes is written so, in plain lists. No condition.
-/
namespace Go.Proofs.YtnjnfegafmhgnaaGreatDoor
open Go.RowKit

theorem num_one {most : Nat} {s : Tk} (h : (tkNum most s).2.lost = false) : s.lost = false ∧ s.rest = enc (tkNum most s).1 ++ (tkNum most s).2.rest := by
  unfold tkNum at h ⊢
  split
  · rename_i hc
    rw [if_pos hc] at h
    simp only at h ⊢
    exact ⟨h, by rw [dec_enc hc.1, List.take_append_drop]⟩
  · rename_i hc
    rw [if_neg hc] at h
    cases h
theorem by_one {n : Nat} {s : Tk} (h : (tkBy n s).2.lost = false) : s.lost = false ∧ s.rest = (tkBy n s).1 ++ (tkBy n s).2.rest ∧ (tkBy n s).1.length = n := by
  unfold tkBy at h ⊢
  split
  · rename_i hc
    rw [if_pos hc] at h
    cases h
  · rename_i hc
    rw [if_neg hc] at h
    simp only at h ⊢
    refine ⟨h, (List.take_append_drop _ _).symm, ?_⟩
    rw [List.length_take]
    have : ¬ s.rest.length < n := fun k => hc (Or.inr k)
    omega
theorem text_one {s : Tk} (h : (tkText s).2.lost = false) : s.lost = false ∧ s.rest = stB (tkText s).1 ++ (tkText s).2.rest := by
  unfold tkText at h ⊢
  obtain ⟨h1, h2, h3⟩ := by_one h
  obtain ⟨h4, h5⟩ := num_one h1
  refine ⟨h4, ?_⟩
  unfold stB
  rw [h3, List.append_assoc, ← h2]
  exact h5
theorem node_one {s : Tk} (h : (tkNode s).lost = false) : s.lost = false ∧ (tkNode s).rest = s.rest ∧ 1 ≤ s.left ∧ (tkNode s).left = s.left - 1 := by
  unfold tkNode at h ⊢
  simp only [Bool.or_eq_false_iff, decide_eq_false_iff_not] at h
  exact ⟨h.1, rfl, by omega, rfl⟩
theorem rpt_one {α : Type} {N : Int} {f : Tk → α × Tk} {B : α → List UInt8} (hl : ∀ s : Tk, (f s).2.left ≤ s.left) (hf : ∀ s : Tk, s.left ≤ N → (f s).2.lost = false → s.lost = false ∧ s.rest = B (f s).1 ++ (f s).2.rest) (n : Nat) (s : Tk) (hs : s.left ≤ N) (h : (rpt f n s).2.lost = false) :
    s.lost = false ∧ s.rest = ((rpt f n s).1.map B).flatten ++ (rpt f n s).2.rest ∧ (rpt f n s).2.left ≤ N := by
  induction n with
  | zero => exact ⟨h, rfl, hs⟩
  | succ n ih =>
    have hleft : (rpt f n s).2.left ≤ N := by
      have key : ∀ m, (rpt f m s).2.left ≤ s.left := fun m => by
        induction m with
        | zero => exact Int.le_refl _
        | succ m im => exact Int.le_trans (hl _) im
      have := key n
      omega
    obtain ⟨h1, h2⟩ := hf _ hleft h
    obtain ⟨h3, h4, h5⟩ := ih h1
    refine ⟨h3, ?_, Int.le_trans (hl _) h5⟩
    simp only [rpt, List.map_append, List.flatten_append, List.map_cons, List.map_nil, List.flatten_cons, List.flatten_nil, List.append_nil, List.append_assoc]
    rw [← h2]
    exact h4
theorem level_one : ∀ (N : Nat) (s : Tk), s.left ≤ N → (tkLevel N s).2.lost = false → s.lost = false ∧ s.rest = lvB (tkLevel N s).1 ++ (tkLevel N s).2.rest
  | 0, s, hs, h => by
    simp only [tkLevel] at h
    obtain ⟨_, _, h3, _⟩ := node_one h
    omega
  | N + 1, s, hs, h => by
    simp only [tkLevel] at h ⊢
    split
    · rename_i hq
      rw [if_pos hq] at h
      rw [hq] at h
      cases h
    · rename_i hq
      rw [if_neg hq] at h
      simp only at h ⊢
      obtain ⟨_, hrest, _, hleft⟩ := node_one (by simpa using hq)
      have hl2 : (lvNumT (tkNum 5 (tkNode s))).2.left ≤ N := by rw [lvNumT_left, tkNum_left, hleft]; omega
      obtain ⟨h1, h2, _⟩ := rpt_one (stp_level N).left (level_one N) _ _ hl2 h
      have h3 : (tkNum 5 (tkNode s)).2.lost = false ∧ (tkNum 5 (tkNode s)).2.rest = (if (tkNum 5 (tkNode s)).1 = 1 ∨ (tkNum 5 (tkNode s)).1 = 2 then enc (lvNumT (tkNum 5 (tkNode s))).1 else []) ++ (lvNumT (tkNum 5 (tkNode s))).2.rest := by
        unfold lvNumT at h1 ⊢
        by_cases hk : (tkNum 5 (tkNode s)).1 = 1 ∨ (tkNum 5 (tkNode s)).1 = 2
        · rw [if_pos hk] at h1
          rw [if_pos hk, if_pos hk]
          exact num_one h1
        · rw [if_neg hk] at h1
          rw [if_neg hk, if_neg hk]
          exact ⟨h1, rfl⟩
      obtain ⟨h4, h5⟩ := num_one h3.1
      obtain ⟨h6, _⟩ := node_one h4
      refine ⟨h6, ?_⟩
      have hc : (if ((tkNum 5 (tkNode s)).1 : Int) = 1 ∨ ((tkNum 5 (tkNode s)).1 : Int) = 2 then enc ((lvNumT (tkNum 5 (tkNode s))).1 : Int).toNat else []) = (if (tkNum 5 (tkNode s)).1 = 1 ∨ (tkNum 5 (tkNode s)).1 = 2 then enc (lvNumT (tkNum 5 (tkNode s))).1 else []) := by
        by_cases hk : (tkNum 5 (tkNode s)).1 = 1 ∨ (tkNum 5 (tkNode s)).1 = 2
        · rw [if_pos hk, if_pos (by omega)]; simp
        · rw [if_neg hk, if_neg (by omega)]
      rw [lvB, hc, lvBL_flat]
      simp only [Int.toNat_natCast, List.append_assoc]
      rw [← h2, ← h3.2, ← h5, hrest]
theorem hd_one {s : Tk} (h : (tkHd s).s.lost = false) : s.lost = false ∧ s.rest = enc (tkHd s).kind ++ ((if (tkHd s).kind = 1 then enc (tkHd s).n else if (tkHd s).kind = 3 then stB (tkHd s).name ++ enc (tkHd s).lvs else []) ++ (tkHd s).s.rest) := by
  unfold tkHd at h ⊢
  by_cases h1 : (tkNum 7 s).1 = 1
  · rw [if_pos h1] at h
    rw [if_pos h1]
    simp only at h ⊢
    obtain ⟨a1, a2⟩ := num_one h
    obtain ⟨b1, b2⟩ := num_one a1
    refine ⟨b1, ?_⟩
    rw [if_pos trivial, ← a2, ← h1, ← b2]
  · rw [if_neg h1] at h
    rw [if_neg h1]
    by_cases h2 : (tkNum 7 s).1 = 2
    · rw [if_pos h2] at h
      rw [if_pos h2]
      simp only at h ⊢
      obtain ⟨b1, b2⟩ := num_one h
      refine ⟨b1, ?_⟩
      rw [if_neg (by decide), if_neg (by decide), List.nil_append, ← h2, ← b2]
    · rw [if_neg h2] at h
      rw [if_neg h2]
      by_cases h3 : (tkNum 7 s).1 = 3
      · rw [if_pos h3] at h
        rw [if_pos h3]
        simp only at h ⊢
        obtain ⟨a1, a2⟩ := num_one h
        obtain ⟨b1, b2⟩ := text_one a1
        obtain ⟨c1, c2⟩ := num_one b1
        refine ⟨c1, ?_⟩
        rw [if_neg (by decide), if_pos trivial, List.append_assoc, ← a2, ← b2, ← h3, ← c2]
      · rw [if_neg h3] at h
        rw [if_neg h3]
        simp only at h ⊢
        obtain ⟨b1, b2⟩ := num_one h
        refine ⟨b1, ?_⟩
        rw [if_neg h1, if_neg h3, List.nil_append, ← b2]
theorem term_one : ∀ (N : Nat) (s : Tk), s.left ≤ N → (tkTerm N s).2.lost = false → s.lost = false ∧ s.rest = tmB (tkTerm N s).1 ++ (tkTerm N s).2.rest
  | 0, s, hs, h => by
    simp only [tkTerm] at h
    obtain ⟨_, _, h3, _⟩ := node_one h
    omega
  | N + 1, s, hs, h => by
    simp only [tkTerm] at h ⊢
    split
    · rename_i hq
      rw [if_pos hq] at h
      rw [hq] at h
      cases h
    · rename_i hq
      rw [if_neg hq] at h
      simp only at h ⊢
      obtain ⟨_, hrest, _, hleft⟩ := node_one (by simpa using hq)
      have hl2 : (tkHd (tkNode s)).s.left ≤ N := by rw [tkHd_left, hleft]; omega
      have hl3 : (rpt (tkLevel N) (tkHd (tkNode s)).lvs (tkHd (tkNode s)).s).2.left ≤ N := Int.le_trans (rpt_pot (stp_level N) _ _).1 hl2
      obtain ⟨h1, h2, _⟩ := rpt_one (stp_term N).left (term_one N) _ _ hl3 h
      obtain ⟨h3, h4, _⟩ := rpt_one (stp_level N).left (level_one N) _ _ hl2 h1
      obtain ⟨h5, h6⟩ := hd_one h3
      obtain ⟨h7, _⟩ := node_one h5
      refine ⟨h7, ?_⟩
      have hc : (if ((tkHd (tkNode s)).kind : Int) = 1 then enc ((tkHd (tkNode s)).n : Int).toNat else if ((tkHd (tkNode s)).kind : Int) = 3 then stB (tkHd (tkNode s)).name ++ enc (rpt (tkLevel N) (tkHd (tkNode s)).lvs (tkHd (tkNode s)).s).1.length else []) = (if (tkHd (tkNode s)).kind = 1 then enc (tkHd (tkNode s)).n else if (tkHd (tkNode s)).kind = 3 then stB (tkHd (tkNode s)).name ++ enc (tkHd (tkNode s)).lvs else []) := by
        rw [rpt_len]
        by_cases k1 : (tkHd (tkNode s)).kind = 1
        · rw [if_pos k1, if_pos (by omega)]; simp
        · rw [if_neg k1, if_neg (by omega)]
          by_cases k3 : (tkHd (tkNode s)).kind = 3
          · rw [if_pos k3, if_pos (by omega)]
          · rw [if_neg k3, if_neg (by omega)]
      rw [tmB, hc, lvBL_flat, tmBL_flat]
      simp only [Int.toNat_natCast, List.append_assoc]
      rw [← h2, ← h4, ← h6, hrest]
theorem whole_one {s : Tk} (h : (tkWhole s).2.lost = false) : s.lost = false ∧ s.rest = tmB (tkWhole s).1 ++ (tkWhole s).2.rest := term_one 2000 ⟨s.rest, s.lost, 2000⟩ (Int.le_refl _) h
theorem ctor_one {s : Tk} (h : (tkCtor s).2.lost = false) : s.lost = false ∧ s.rest = ctB (tkCtor s).1 ++ (tkCtor s).2.rest := by
  unfold tkCtor at h ⊢
  simp only at h ⊢
  obtain ⟨h1, h2⟩ := whole_one h
  obtain ⟨h3, h4⟩ := text_one h1
  refine ⟨h3, ?_⟩
  unfold ctB
  simp only [List.append_assoc]
  rw [← h2, ← h4]
theorem rpt_one' {α : Type} {f : Tk → α × Tk} {B : α → List UInt8} (hf : ∀ s : Tk, (f s).2.lost = false → s.lost = false ∧ s.rest = B (f s).1 ++ (f s).2.rest) (n : Nat) (s : Tk) (h : (rpt f n s).2.lost = false) :
    s.lost = false ∧ s.rest = ((rpt f n s).1.map B).flatten ++ (rpt f n s).2.rest := by
  induction n with
  | zero => exact ⟨h, rfl⟩
  | succ n ih =>
    obtain ⟨h1, h2⟩ := hf _ h
    obtain ⟨h3, h4⟩ := ih h1
    refine ⟨h3, ?_⟩
    simp only [rpt, List.map_append, List.flatten_append, List.map_cons, List.map_nil, List.flatten_cons, List.flatten_nil, List.append_nil, List.append_assoc]
    rw [← h2]
    exact h4
/-- the tail's bytes -/
def vlB (k : Nat) (v : Vl) : List UInt8 := if 2 ≤ k ∧ k ≤ 4 then tmB v.value else if k = 5 then enc v.fixed ++ (enc v.ctors.length ++ (v.ctors.map ctB).flatten) else []
theorem val_one {k : Nat} {s : Tk} (h : (tkVal k s).s.lost = false) : s.lost = false ∧ s.rest = vlB k (tkVal k s) ++ (tkVal k s).s.rest := by
  unfold tkVal vlB at *
  by_cases h1 : 2 ≤ k ∧ k ≤ 4
  · rw [if_pos h1] at h
    rw [if_pos h1, if_pos h1]
    exact whole_one h
  · rw [if_neg h1] at h
    rw [if_neg h1, if_neg h1]
    by_cases h2 : k = 5
    · rw [if_pos h2] at h
      rw [if_pos h2, if_pos h2]
      simp only at h ⊢
      obtain ⟨a1, a2⟩ := rpt_one' (fun s => ctor_one) _ _ h
      obtain ⟨b1, b2⟩ := num_one a1
      obtain ⟨c1, c2⟩ := num_one b1
      refine ⟨c1, ?_⟩
      rw [rpt_len]
      simp only [List.append_assoc]
      rw [← a2, ← b2, ← c2]
    · rw [if_neg h2] at h
      rw [if_neg h2, if_neg h2]
      exact ⟨h, rfl⟩
theorem decl_one {s : Tk} (h : (tkDecl s).2.lost = false) : s.rest = dcB (tkDecl s).1 ++ (tkDecl s).2.rest := by
  unfold tkDecl at h ⊢
  simp only at h ⊢
  obtain ⟨a1, a2⟩ := val_one h
  obtain ⟨b1, b2⟩ := whole_one a1
  obtain ⟨c1, c2⟩ := num_one b1
  obtain ⟨d1, d2⟩ := text_one c1
  obtain ⟨_, e2⟩ := num_one d1
  have hc : dcTail ⟨((tkNum 5 s).1 : Nat), ((tkNum 4 (tkText (tkNum 5 s).2).2).1 : Nat), (tkText (tkNum 5 s).2).1, (tkWhole (tkNum 4 (tkText (tkNum 5 s).2).2).2).1, (tkVal (tkNum 5 s).1 (tkWhole (tkNum 4 (tkText (tkNum 5 s).2).2).2).2).value, ((tkVal (tkNum 5 s).1 (tkWhole (tkNum 4 (tkText (tkNum 5 s).2).2).2).2).fixed : Nat), (tkVal (tkNum 5 s).1 (tkWhole (tkNum 4 (tkText (tkNum 5 s).2).2).2).2).ctors⟩ = vlB (tkNum 5 s).1 (tkVal (tkNum 5 s).1 (tkWhole (tkNum 4 (tkText (tkNum 5 s).2).2).2).2) := by
    unfold dcTail vlB
    simp only [Int.toNat_natCast]
    by_cases k1 : 2 ≤ (tkNum 5 s).1 ∧ (tkNum 5 s).1 ≤ 4
    · rw [if_pos (by omega), if_pos k1]
    · rw [if_neg (by omega), if_neg k1]
      by_cases k2 : (tkNum 5 s).1 = 5
      · rw [if_pos (by omega), if_pos k2]
      · rw [if_neg (by omega), if_neg k2]
  unfold dcB
  rw [hc]
  simp only [Int.toNat_natCast, List.append_assoc]
  rw [← a2, ← b2, ← c2, ← d2, ← e2]
end Go.Proofs.YtnjnfegafmhgnaaGreatDoor

/-
  PackOne: the law's walk. No condition.
-/
namespace Go.Proofs.YtnjnfegafmhgnaaGreatDoor
open Go.RowKit

set_option maxRecDepth 100000 in
theorem sameB {o o' : Own} {a b : List UInt8} (h : a = b) : Ans Tryz.prog 38 [.sl o 1 (a.map byteV), .sl o' 1 (b.map byteV)] (.b true) := (SameBytes_con a b).as (decide_eq_true h)

set_option maxRecDepth 100000 in
set_option maxHeartbeats 2000000 in
theorem packOne_con (b : List UInt8) : Ans Tryz.prog 6 [byX b] (.b true) := by
  intro H Q hq
  have fin : ∃ r H', Le (.b true) r ∧ List.Sublist H' H ∧ Q r H' := ⟨_, H, Le.refl _, List.Sublist.refl _, hq⟩
  refine con_of_sem tab_ok Tryz.func6 rfl (ent Tryz.func6 (by kernel_rfl) rfl) (by kernel_rfl) ?_
  intro hw hn
  clear hw hn
  refine sem_seq (esc := fun _ => false) tab_ok mixed ?_
  refine sem_seq (esc := fun _ => false) tab_ok mixed ?_
  refine ⟨_, LeL.refl _, alive8_con _ _ ?_⟩
  intro hz1 hz2; clear hz1 hz2
  refine sem_seq (esc := fun _ => false) tab_ok mixed ?_
  refine ifB_dec (fun h1 => ?_) (fun h1 => ?_)
  · exact fin
  simp only [List.length_map] at h1
  have hbl : b.length ≤ 5000 := by omega
  clear h1
  -- the level
  refine sem_join (esc := fun _ => false) tab_ok mixed (X := Lv × List UInt8 × Bool) (fun x => ⟨[(0, .g (byX b)), (2, .g (.b false)), (3, .lp 3 0), (4, .g (byX x.2.1)), (5, .g (.b x.2.2))], [(3, (lvX x.1).cells)], H⟩) (fun x => x.2.2 = true → lvRight 4 x.1 = true ∧ b = lvB x.1 ++ x.2.1) ?_ (fun x hI => ?_)
  · refine ⟨_, LeL.refl _, takeLevel_con .no b (by omega) _ _ (fun _ => ?_) (fun hz hr => ?_)⟩
    · intro hz1 hz2; clear hz1 hz2
      refine ⟨(lv0, [], false), nofun, ⟨⟨Le.refl _, Le.refl _, ⟨rfl, rfl⟩, Le.nil _ _, Le.refl _, trivial⟩, ⟨⟨rfl, LeL.refl _⟩, trivial⟩, List.Sublist.refl _⟩⟩
    · intro hz1 hz2; clear hz1 hz2
      refine ⟨(_, _, true), fun _ => ⟨hr, (level_one 2000 ⟨b, false, 2000⟩ (Int.le_refl _) hz).2⟩, ⟨⟨Le.refl _, Le.refl _, ⟨rfl, rfl⟩, Le.refl _, Le.refl _, trivial⟩, ⟨⟨rfl, LeL.refl _⟩, trivial⟩, List.Sublist.refl _⟩⟩
  obtain ⟨l, r, ok⟩ := x
  simp only at hI
  refine sem_join (esc := fun _ => false) tab_ok mixed (X := Unit) (fun _ => ⟨[(0, .g (byX b)), (2, .g (.b false)), (3, .lp 3 0)], [(3, (lvX l).cells)], H⟩) (fun _ => True) ?_ (fun _ _ => ?_)
  · cases ok with
    | false =>
      refine ⟨(), trivial, ?_⟩
      (constructor <;> repeat' (first | exact trivial | exact ⟨rfl, rfl⟩ | exact ⟨rfl, LeL.refl _⟩ | exact Le.refl _ | exact List.Sublist.refl _ | (show Le (AV.i _) (AV.i _); rw [List.length_map]; exact Le.refl _) | refine And.intro ?_ ?_))
    | true =>
      replace hI := hI rfl
      have hln := congrArg List.length hI.2
      rw [List.length_append] at hln
      refine ⟨_, LeL.refl _, ref08Level_con l _ _ (fun h => by rw [hI.1] at h; cases h) (fun _ c hc => ?_)⟩
      intro hz1 hz2; clear hz1 hz2
      refine ⟨?_, ifNil_or (fun h => ?_) (fun _ => ⟨_, Heap.Rem.here, fun c2 hc2 => ?_⟩)⟩
      · simp only [List.length_map]
        show _ * (1 + 1) ≤ _
        omega
      · have hr0 : r = [] := by simpa using h
        have he : lvB l = b := by rw [hI.2, hr0, List.append_nil]
        refine ⟨[.sl (.own c) 1 ((lvB l).map byteV), byX b], LeL.refl _, sameB he _ _ ?_⟩
        intro hz1 hz2; clear hz1 hz2
        exact ⟨(), trivial, ⟨⟨Le.refl _, Le.refl _, ⟨rfl, rfl⟩, trivial⟩, ⟨⟨rfl, LeL.refl _⟩, trivial⟩, List.sublist_cons_self _ _⟩⟩
      · have he : lvB l ++ r = b := hI.2.symm
        refine ⟨[.sl (.own c2) 1 ((lvB l ++ r).map byteV), byX b], ⟨le_of_eq (by show AV.sl _ _ _ = AV.sl _ _ _; rw [List.map_append]), Le.refl _, trivial⟩, sameB he _ _ ?_⟩
        intro hz1 hz2; clear hz1 hz2
        exact ⟨(), trivial, ⟨⟨Le.refl _, Le.refl _, ⟨rfl, rfl⟩, trivial⟩, ⟨⟨rfl, LeL.refl _⟩, trivial⟩, List.sublist_cons_self _ _⟩⟩
  clear hI
  -- the term
  refine sem_join (esc := fun _ => false) tab_ok mixed (X := Tm × List UInt8 × Bool) (fun x => ⟨[(0, .g (byX b)), (2, .g (.b false)), (8, .lp 8 0), (4, .g (byX x.2.1)), (5, .g (.b x.2.2))], [(8, (tmX x.1).cells), (3, (lvX l).cells)], H⟩) (fun x => x.2.2 = true → packOk x.1 = true ∧ b = tmB x.1 ++ x.2.1) ?_ (fun x hI => ?_)
  · refine ⟨_, LeL.refl _, takeTerm_con .no b (by omega) _ _ (fun _ => ?_) (fun hz hr => ?_)⟩
    · intro hz1 hz2; clear hz1 hz2
      refine ⟨(tm0, [], false), nofun, ⟨⟨Le.refl _, Le.refl _, ⟨rfl, rfl⟩, Le.nil _ _, Le.refl _, trivial⟩, ⟨⟨rfl, LeL.refl _⟩, ⟨rfl, LeL.refl _⟩, trivial⟩, List.Sublist.refl _⟩⟩
    · intro hz1 hz2; clear hz1 hz2
      refine ⟨(_, _, true), fun _ => ⟨hr, (term_one 2000 ⟨b, false, 2000⟩ (Int.le_refl _) hz).2⟩, ⟨⟨Le.refl _, Le.refl _, ⟨rfl, rfl⟩, Le.refl _, Le.refl _, trivial⟩, ⟨⟨rfl, LeL.refl _⟩, ⟨rfl, LeL.refl _⟩, trivial⟩, List.Sublist.refl _⟩⟩
  clear r ok
  obtain ⟨t, r, ok⟩ := x
  simp only at hI
  refine sem_join (esc := fun _ => false) tab_ok mixed (X := Unit) (fun _ => ⟨[(0, .g (byX b)), (2, .g (.b false)), (8, .lp 8 0)], [(8, (tmX t).cells), (3, (lvX l).cells)], H⟩) (fun _ => True) ?_ (fun _ _ => ?_)
  · cases ok with
    | false =>
      refine ⟨(), trivial, ?_⟩
      (constructor <;> repeat' (first | exact trivial | exact ⟨rfl, rfl⟩ | exact ⟨rfl, LeL.refl _⟩ | exact Le.refl _ | exact List.Sublist.refl _ | (show Le (AV.i _) (AV.i _); rw [List.length_map]; exact Le.refl _) | refine And.intro ?_ ?_))
    | true =>
      replace hI := hI rfl
      have hln := congrArg List.length hI.2
      rw [List.length_append] at hln
      refine ⟨_, LeL.refl _, ref08Term_con t _ _ (fun h => by rw [hI.1] at h; cases h) (fun _ c hc => ?_)⟩
      intro hz1 hz2; clear hz1 hz2
      refine ⟨?_, ifNil_or (fun h => ?_) (fun _ => ⟨_, Heap.Rem.here, fun c2 hc2 => ?_⟩)⟩
      · simp only [List.length_map]
        show _ * (1 + 1) ≤ _
        omega
      · have hr0 : r = [] := by simpa using h
        have he : tmB t = b := by rw [hI.2, hr0, List.append_nil]
        refine ⟨[.sl (.own c) 1 ((tmB t).map byteV), byX b], LeL.refl _, sameB he _ _ ?_⟩
        intro hz1 hz2; clear hz1 hz2
        exact ⟨(), trivial, ⟨⟨Le.refl _, Le.refl _, ⟨rfl, rfl⟩, trivial⟩, ⟨⟨rfl, LeL.refl _⟩, ⟨rfl, LeL.refl _⟩, trivial⟩, List.sublist_cons_self _ _⟩⟩
      · have he : tmB t ++ r = b := hI.2.symm
        refine ⟨[.sl (.own c2) 1 ((tmB t ++ r).map byteV), byX b], ⟨le_of_eq (by show AV.sl _ _ _ = AV.sl _ _ _; rw [List.map_append]), Le.refl _, trivial⟩, sameB he _ _ ?_⟩
        intro hz1 hz2; clear hz1 hz2
        exact ⟨(), trivial, ⟨⟨Le.refl _, Le.refl _, ⟨rfl, rfl⟩, trivial⟩, ⟨⟨rfl, LeL.refl _⟩, ⟨rfl, LeL.refl _⟩, trivial⟩, List.sublist_cons_self _ _⟩⟩
  clear hI
  -- the declaration
  refine sem_join (esc := fun _ => false) tab_ok mixed (X := Dc × List UInt8 × Bool) (fun x => ⟨[(0, .g (byX b)), (2, .g (.b false)), (11, .lp 11 0), (4, .g (byX x.2.1)), (5, .g (.b x.2.2))], [(11, (dcX x.1).cells), (8, (tmX t).cells), (3, (lvX l).cells)], H⟩) (fun x => (x.2.2 = true → formed x.1 = true ∧ b = dcB x.1 ++ x.2.1) ∧ (x.2.2 = false → x.1 = dc0 ∧ x.2.1 = [])) ?_ (fun x hI => ?_)
  · refine ⟨_, LeL.refl _, takeDecl_con .no b (by omega) _ _ (fun _ => ?_) (fun hz hr => ?_)⟩
    · intro hz1 hz2; clear hz1 hz2
      refine ⟨(dc0, [], false), ⟨nofun, fun _ => ⟨rfl, rfl⟩⟩, ⟨⟨Le.refl _, Le.refl _, ⟨rfl, rfl⟩, Le.nil _ _, Le.refl _, trivial⟩, ⟨⟨rfl, LeL.refl _⟩, ⟨rfl, LeL.refl _⟩, ⟨rfl, LeL.refl _⟩, trivial⟩, List.Sublist.refl _⟩⟩
    · intro hz1 hz2; clear hz1 hz2
      refine ⟨(_, _, true), ⟨fun _ => ⟨hr, decl_one hz⟩, nofun⟩, ⟨⟨Le.refl _, Le.refl _, ⟨rfl, rfl⟩, Le.refl _, Le.refl _, trivial⟩, ⟨⟨rfl, LeL.refl _⟩, ⟨rfl, LeL.refl _⟩, ⟨rfl, LeL.refl _⟩, trivial⟩, List.Sublist.refl _⟩⟩
  clear r ok
  obtain ⟨d, r, ok⟩ := x
  obtain ⟨hI, hI0⟩ := hI
  simp only at hI hI0
  cases ok with
  | false =>
    obtain ⟨rfl, rfl⟩ := hI0 rfl
    refine sem_seq (esc := fun _ => false) tab_ok mixed ?_
    refine ⟨[dcX dc0, dcX dc0], ⟨Le.refl _, le_dc0, trivial⟩, SameDecl_con dc0 _ _ ?_⟩
    intro hz1 hz2; clear hz1 hz2
    exact fin
  | true =>
    replace hI := hI rfl
    have hln := congrArg List.length hI.2
    rw [List.length_append] at hln
    refine sem_seq (esc := fun _ => false) tab_ok mixed ?_
    refine sem_seq (esc := fun _ => false) tab_ok mixed ?_
    refine ⟨_, LeL.refl _, ref08Decl_con d _ _ (fun h => by rw [hI.1] at h; cases h) (fun _ c hc => ?_)⟩
    intro hz1 hz2; clear hz1 hz2
    refine sem_of (esc := fun _ => false) tab_ok mixed ?_
    refine ⟨?_, ifNil_or (fun h => ?_) (fun _ => ⟨_, Heap.Rem.here, fun c2 hc2 => ?_⟩)⟩
    · simp only [List.length_map]
      show _ * (1 + 1) ≤ _
      omega
    · have hr0 : r = [] := by simpa using h
      have he : dcB d = b := by rw [hI.2, hr0, List.append_nil]
      refine ⟨[.sl (.own c) 1 ((dcB d).map byteV), byX b], LeL.refl _, sameB he _ _ ?_⟩
      intro hz1 hz2; clear hz1 hz2
      exact ⟨_, H, Le.refl _, List.sublist_cons_self _ _, hq⟩
    · have he : dcB d ++ r = b := hI.2.symm
      refine ⟨[.sl (.own c2) 1 ((dcB d ++ r).map byteV), byX b], ⟨le_of_eq (by show AV.sl _ _ _ = AV.sl _ _ _; rw [List.map_append]), Le.refl _, trivial⟩, sameB he _ _ ?_⟩
      intro hz1 hz2; clear hz1 hz2
      exact ⟨_, H, Le.refl _, List.sublist_cons_self _ _, hq⟩
end Go.Proofs.YtnjnfegafmhgnaaGreatDoor

/-
  PackAnswers: the law's walk. No condition.
-/
namespace Go.Proofs.YtnjnfegafmhgnaaGreatDoor
open Go.RowKit

theorem Con.weak {P : Program} {f : FuncId} {args : List AV} {H : Heap} {Q Q' : AV → Heap → Prop} (h : Con P f args H Q') (k : ∀ r H', Q' r H' → ∃ r2 H2, Le r r2 ∧ List.Sublist H2 H' ∧ Q r2 H2) : Con P f args H Q := fun M w vs h1 h2 => (h M w vs h1 h2).mono fun v w' ⟨M', r, H', a, b, c, d, e⟩ => by
  obtain ⟨r2, H2, e1, e2, e3⟩ := k r H' e
  exact ⟨M', r2, H2, a, b.sub e2, fun b hb => c b ((e2.map _).subset hb), e1 M' v d, e3⟩
theorem ifB_same {q : Bool} {A B : Prop} (h : A) : ifB (q == q) A B := by cases q <;> exact h
set_option maxRecDepth 100000 in
theorem LevelNodes300 (l : Lv) (H : Heap) (Q : AV → Heap → Prop) (hq : ∀ m : Int, Q (.i m) H) : Con Tryz.prog 29 [lvX l, .i (300 : Nat)] H Q := LevelNodes_con 300 (by decide) _ l (Nat.le_refl _) H Q (hq _)
set_option maxRecDepth 100000 in
theorem packLevel_ans (l : Lv) {q : Bool} {bs : List UInt8} (hg : lvRight 4 l = q) (hb : bs = if q = true then lvB l else []) : Ans Tryz.prog 32 [lvX l] (.tup [byX bs, .b q]) := by
  intro H Q hq
  subst hb
  refine Con.weak (Q' := fun r H' => ∃ r2 H2, Le r r2 ∧ List.Sublist H2 H' ∧ Q r2 H2) (packLevel_con l _ _ (fun h => ?_) (fun h c hc => ?_)) fun _ _ h => h
  · rw [h] at hg
    subst hg
    exact ⟨.tup [byX [], .b false], H, Le.tup ⟨Le.nil _ _, Le.refl _, trivial⟩, List.Sublist.refl _, hq⟩
  · rw [h] at hg
    subst hg
    exact ⟨.tup [byX (lvB l), .b true], H, Le.tup ⟨Le.own _ _ _, Le.refl _, trivial⟩, List.sublist_cons_self _ _, hq⟩
set_option maxRecDepth 100000 in
theorem ref08Level_ans (l : Lv) {q : Bool} {bs : List UInt8} (hg : lvRight 4 l = q) (hb : bs = if q = true then lvB l else []) : Ans Tryz.prog 33 [lvX l] (.tup [byX bs, .b q]) := by
  intro H Q hq
  subst hb
  refine Con.weak (Q' := fun r H' => ∃ r2 H2, Le r r2 ∧ List.Sublist H2 H' ∧ Q r2 H2) (ref08Level_con l _ _ (fun h => ?_) (fun h c hc => ?_)) fun _ _ h => h
  · rw [h] at hg
    subst hg
    exact ⟨.tup [byX [], .b false], H, Le.tup ⟨Le.nil _ _, Le.refl _, trivial⟩, List.Sublist.refl _, hq⟩
  · rw [h] at hg
    subst hg
    exact ⟨.tup [byX (lvB l), .b true], H, Le.tup ⟨Le.own _ _ _, Le.refl _, trivial⟩, List.sublist_cons_self _ _, hq⟩
set_option maxRecDepth 100000 in
theorem packTerm_ans (l : Tm) {q : Bool} {bs : List UInt8} (hg : packOk l = q) (hb : bs = if q = true then tmB l else []) : Ans Tryz.prog 34 [tmX l] (.tup [byX bs, .b q]) := by
  intro H Q hq
  subst hb
  refine Con.weak (Q' := fun r H' => ∃ r2 H2, Le r r2 ∧ List.Sublist H2 H' ∧ Q r2 H2) (packTerm_con l _ _ (fun h => ?_) (fun h c hc => ?_)) fun _ _ h => h
  · rw [h] at hg
    subst hg
    exact ⟨.tup [byX [], .b false], H, Le.tup ⟨Le.nil _ _, Le.refl _, trivial⟩, List.Sublist.refl _, hq⟩
  · rw [h] at hg
    subst hg
    exact ⟨.tup [byX (tmB l), .b true], H, Le.tup ⟨Le.own _ _ _, Le.refl _, trivial⟩, List.sublist_cons_self _ _, hq⟩
set_option maxRecDepth 100000 in
theorem ref08Term_ans (l : Tm) {q : Bool} {bs : List UInt8} (hg : packOk l = q) (hb : bs = if q = true then tmB l else []) : Ans Tryz.prog 35 [tmX l] (.tup [byX bs, .b q]) := by
  intro H Q hq
  subst hb
  refine Con.weak (Q' := fun r H' => ∃ r2 H2, Le r r2 ∧ List.Sublist H2 H' ∧ Q r2 H2) (ref08Term_con l _ _ (fun h => ?_) (fun h c hc => ?_)) fun _ _ h => h
  · rw [h] at hg
    subst hg
    exact ⟨.tup [byX [], .b false], H, Le.tup ⟨Le.nil _ _, Le.refl _, trivial⟩, List.Sublist.refl _, hq⟩
  · rw [h] at hg
    subst hg
    exact ⟨.tup [byX (tmB l), .b true], H, Le.tup ⟨Le.own _ _ _, Le.refl _, trivial⟩, List.sublist_cons_self _ _, hq⟩
set_option maxRecDepth 100000 in
theorem packDecl_ans (l : Dc) {q : Bool} {bs : List UInt8} (hg : formed l = q) (hb : bs = if q = true then dcB l else []) : Ans Tryz.prog 36 [dcX l] (.tup [byX bs, .b q]) := by
  intro H Q hq
  subst hb
  refine Con.weak (Q' := fun r H' => ∃ r2 H2, Le r r2 ∧ List.Sublist H2 H' ∧ Q r2 H2) (packDecl_con l _ _ (fun h => ?_) (fun h c hc => ?_)) fun _ _ h => h
  · rw [h] at hg
    subst hg
    exact ⟨.tup [byX [], .b false], H, Le.tup ⟨Le.nil _ _, Le.refl _, trivial⟩, List.Sublist.refl _, hq⟩
  · rw [h] at hg
    subst hg
    exact ⟨.tup [byX (dcB l), .b true], H, Le.tup ⟨Le.own _ _ _, Le.refl _, trivial⟩, List.sublist_cons_self _ _, hq⟩
set_option maxRecDepth 100000 in
theorem ref08Decl_ans (l : Dc) {q : Bool} {bs : List UInt8} (hg : formed l = q) (hb : bs = if q = true then dcB l else []) : Ans Tryz.prog 37 [dcX l] (.tup [byX bs, .b q]) := by
  intro H Q hq
  subst hb
  refine Con.weak (Q' := fun r H' => ∃ r2 H2, Le r r2 ∧ List.Sublist H2 H' ∧ Q r2 H2) (ref08Decl_con l _ _ (fun h => ?_) (fun h c hc => ?_)) fun _ _ h => h
  · rw [h] at hg
    subst hg
    exact ⟨.tup [byX [], .b false], H, Le.tup ⟨Le.nil _ _, Le.refl _, trivial⟩, List.Sublist.refl _, hq⟩
  · rw [h] at hg
    subst hg
    exact ⟨.tup [byX (dcB l), .b true], H, Le.tup ⟨Le.own _ _ _, Le.refl _, trivial⟩, List.sublist_cons_self _ _, hq⟩
set_option maxRecDepth 100000 in
set_option maxHeartbeats 2000000 in
theorem packAnswers_con (l : Lv) (t : Tm) (d : Dc) : Ans Tryz.prog 5 [lvX l, tmX t, dcX d] (.b true) := by
  intro H Q hq
  have fin : ∃ r H', Le (.b true) r ∧ List.Sublist H' H ∧ Q r H' := ⟨_, H, Le.refl _, List.Sublist.refl _, hq⟩
  obtain ⟨ql, hql⟩ : ∃ q, lvRight 4 l = q := ⟨_, rfl⟩
  obtain ⟨qt, hqt⟩ : ∃ q, packOk t = q := ⟨_, rfl⟩
  obtain ⟨qd, hqd⟩ : ∃ q, formed d = q := ⟨_, rfl⟩
  obtain ⟨bl, hbl⟩ : ∃ bs, bs = if ql = true then lvB l else [] := ⟨_, rfl⟩
  obtain ⟨bt, hbt⟩ : ∃ bs, bs = if qt = true then tmB t else [] := ⟨_, rfl⟩
  obtain ⟨bd, hbd⟩ : ∃ bs, bs = if qd = true then dcB d else [] := ⟨_, rfl⟩
  have hnt := big_nodes d.type
  have hnv := big_nodes d.value
  refine con_of_sem tab_ok Tryz.func5 rfl (ent Tryz.func5 (by kernel_rfl) rfl) (by kernel_rfl) ?_
  intro hw hn
  clear hw hn
  refine sem_seq (esc := fun _ => false) tab_ok mixed ?_
  refine sem_seq (esc := fun _ => false) tab_ok mixed ?_
  refine ⟨_, LeL.refl _, alive8_con _ _ ?_⟩
  intro hz1 hz2; clear hz1 hz2
  refine sem_seq (esc := fun _ => false) tab_ok mixed ?_
  refine ⟨_, LeL.refl _, LevelNodes300 l _ _ fun m => ?_⟩
  intro hz1 hz2; clear hz1 hz2
  refine ifB_dec (fun h1 => ?_) (fun h1 => ?_)
  · exact fin
  refine ⟨_, LeL.refl _, Great4_some t _ _ (fa' ?_ ?_)⟩
  rotate_left
  · intro hz1 hz2; clear hz1 hz2
    exact fin
  intro hz1 hz2; clear hz1 hz2
  refine ⟨_, LeL.refl _, Great8_or d _ _ ?_ (fun b1 b2 b3 b4 => ?_)⟩
  · intro hz1 hz2; clear hz1 hz2
    exact fin
  intro hz1 hz2; clear hz1 hz2
  refine sem_le ⟨[(3, .lp 3 0), (4, .lp 4 0), (5, .lp 5 0), (6, .g (.b false))], [(5, (dcX d).cells), (4, (tmX t).cells), (3, (lvX l).cells)], H⟩ ?_ ?_
  · (constructor <;> repeat' (first | exact trivial | exact ⟨rfl, rfl⟩ | exact ⟨rfl, LeL.refl _⟩ | exact Le.refl _ | exact List.Sublist.refl _ | (show Le (AV.i _) (AV.i _); rw [List.length_map]; exact Le.refl _) | refine And.intro ?_ ?_))
  refine sem_seq (esc := fun _ => false) tab_ok mixed ?_
  refine ⟨_, LeL.refl _, CopyDecl_con d (by omega) (by omega) (by omega) (fun c hc => by have := big_nodes c.type; have := b4 c hc; omega) _ _ ?_⟩
  intro hz1 hz2; clear hz1 hz2
  refine sem_seq (esc := fun _ => false) tab_ok mixed ?_
  refine ⟨_, LeL.refl _, packLevel_ans l hql hbl _ _ ?_⟩
  intro hz1 hz2; clear hz1 hz2
  refine sem_seq (esc := fun _ => false) tab_ok mixed ?_
  refine ⟨_, LeL.refl _, ref08Level_ans l hql hbl _ _ ?_⟩
  intro hz1 hz2; clear hz1 hz2
  refine sem_seq (esc := fun _ => false) tab_ok mixed ?_
  refine ⟨_, LeL.refl _, packTerm_ans t hqt hbt _ _ ?_⟩
  intro hz1 hz2; clear hz1 hz2
  refine sem_seq (esc := fun _ => false) tab_ok mixed ?_
  refine ⟨_, LeL.refl _, ref08Term_ans t hqt hbt _ _ ?_⟩
  intro hz1 hz2; clear hz1 hz2
  refine sem_seq (esc := fun _ => false) tab_ok mixed ?_
  refine ⟨[dcX d], LeL.refl _, packDecl_ans d hqd hbd _ _ ?_⟩
  intro hz1 hz2; clear hz1 hz2
  refine sem_seq (esc := fun _ => false) tab_ok mixed ?_
  refine ⟨[dcX d], LeL.refl _, ref08Decl_ans d hqd hbd _ _ ?_⟩
  intro hz1 hz2; clear hz1 hz2
  refine sem_le ⟨[(5, .lp 5 0), (6, .g (.b false)), (7, .lp 7 0), (8, .g (byX bl)), (9, .g (.b ql)), (10, .g (byX bl)), (11, .g (.b ql)), (12, .g (byX bt)), (13, .g (.b qt)), (14, .g (byX bt)), (15, .g (.b qt)), (16, .g (byX bd)), (17, .g (.b qd)), (18, .g (byX bd)), (19, .g (.b qd))], [(7, (dcX d).cells), (5, (dcX d).cells), (4, (tmX t).cells), (3, (lvX l).cells)], H⟩ ?_ ?_
  · (constructor <;> repeat' (first | exact trivial | exact ⟨rfl, rfl⟩ | exact ⟨rfl, LeL.refl _⟩ | exact Le.refl _ | exact List.Sublist.refl _ | (show Le (AV.i _) (AV.i _); rw [List.length_map]; exact Le.refl _) | refine And.intro ?_ ?_))
  refine sem_of (esc := fun _ => false) tab_ok mixed ?_
  refine ⟨[0, 1, 2, 3, 4, 5, 6, 7, 8, 9, 10, 11, 12, 13, 14, 15, 16, 17, 18, 19, 20, 21, 22, 23, 24, 25, 26, 27, 28, 29, 31, 30, 32, 33, 34, 35, 36, 38, 37, 39, 40, 41, 42, 43, 44, 45, 46, 47], [], ord_fast (by kernel_rfl), by simp, ?_⟩
  refine ⟨[byX bl, byX bl], LeL.refl _, sameB rfl _ _ ?_⟩
  intro hz1 hz2; clear hz1 hz2
  refine ifB_same ?_
  refine ⟨[byX bt, byX bt], LeL.refl _, sameB rfl _ _ ?_⟩
  intro hz1 hz2; clear hz1 hz2
  refine ifB_same ?_
  refine ⟨[byX bd, byX bd], LeL.refl _, sameB rfl _ _ ?_⟩
  intro hz1 hz2; clear hz1 hz2
  refine ifB_same ?_
  refine ⟨[dcX d], LeL.refl _, (formed_con d).as hqd _ _ ?_⟩
  intro hz1 hz2; clear hz1 hz2
  refine ⟨[dcX d], LeL.refl _, (ref08Formed_con d).as hqd _ _ ?_⟩
  intro hz1 hz2; clear hz1 hz2
  refine ifB_same ?_
  refine ⟨[dcX d], LeL.refl _, packHash_con d _ _ ?_⟩
  intro hz1 hz2; clear hz1 hz2
  refine ⟨[dcX d], LeL.refl _, ref08Hash_con d _ _ ?_⟩
  intro hz1 hz2; clear hz1 hz2
  refine ifB_t (show dcHash d = dcHash d from rfl) ?_
  refine ⟨[dcX d, dcX d], LeL.refl _, SameDecl_con d _ _ ?_⟩
  intro hz1 hz2; clear hz1 hz2
  exact fin
end Go.Proofs.YtnjnfegafmhgnaaGreatDoor
