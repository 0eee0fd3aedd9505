/-
  Texts put together: V6, V7, V8, V9. No condition.
-/
import Derived.Test.YtjmmacbblnjogaaGreatDoorM18
import Derived.Test.YtjmmacbblnjogaaGreatDoorM9
/-
  deps.First. No condition.
-/
namespace Go.Proofs.YtjmmacbblnjogaaGreatDoor
open Go.RowKit

theorem tal_yes {l : List (List UInt8)} {s : List UInt8} (h : s ∈ l) : mpFind (.str s) (talE .str l) = some (idxN s (firsts l), .i ((cntN s l : Nat) : Int)) := by rw [tal_find key_str, if_pos h]
theorem tal_no {l : List (List UInt8)} {s : List UInt8} (h : s ∉ l) : mpFind (.str s) (talE .str l) = none := by rw [tal_find key_str, if_neg h]
theorem tal_keys (l : List (List UInt8)) (s : List UInt8) : KeysOk .string (.str s) (talE .str l) := keys_str s
theorem tal_new {l : List (List UInt8)} {s : List UInt8} (h : s ∉ l) : mpPut (.str s) (.i (0 + 1)) (talE .str l) (firsts l).length = (talE .str (l ++ [s]), (firsts (l ++ [s])).length) := by
  have := tal_put key_str l s
  rw [cntN_zero h] at this
  exact this
theorem len_strs (ss : List (List UInt8)) : (ss.map AV.str).length = ss.length := List.length_map _

/-! First$1: names are counted -/
/-- the heap where they are counted -/
def cntH (b7 bm : Nat) (l : List (List UInt8)) (H : Heap) : Heap := (b7, .cells [.mp bm]) :: (bm, .mp (talE .str l) (firsts l).length) :: H
set_option maxRecDepth 100000 in
set_option maxHeartbeats 1000000 in
theorem First1_con (o : Own) (l ss : List (List UInt8)) (hb : l.length + ss.length ≤ 1099511627776) {b7 bm : Nat} {H : Heap} (Q : AV → Heap → Prop) (hq : Q (.tup []) (cntH b7 bm (l ++ ss) H)) : Con Tryz.prog 65 [.sl o 1 (ss.map .str), .ptr b7 0] (cntH b7 bm l H) Q := by
  have hsl := len_strs ss
  refine con_of_awp (esc := fun _ => false) tab_ok mixed Tryz.func65 rfl (ent Tryz.func65 (by kernel_rfl) rfl) (by kernel_rfl) ?_
  intro hw hn
  clear hw hn
  refine ⟨Nat, fun k => ⟨[(1, .g (.ptr b7 0)), (5, .g (.sl o 1 (ss.map .str))), (6, .g (.i ss.length)), (7, .g (.i k))], [], cntH b7 bm (l ++ ss.take k) H⟩, fun k => k ≤ ss.length, fun k => ss.length - k, ⟨0, Nat.zero_le _, ?_⟩, ?_⟩
  · refine ⟨⟨Le.refl _, Le.refl _, le_of_eq (by show AV.i _ = AV.i _; rw [hsl]), Le.refl _, trivial⟩, trivial, sub_eq ?_⟩
    show cntH b7 bm (l ++ ss.take 0) H = cntH b7 bm l H
    rw [List.take_zero, List.append_nil]
  · intro k hk
    refine ifB_dec (fun h => ?_) (fun h => ?_)
    · have hlt : k < ss.length := by omega
      have hsn : l ++ ss.take (k + 1) = (l ++ ss.take k) ++ [ss[k]] := by rw [List.take_succ_eq_append_getElem hlt, List.append_assoc]
      have hlk : (l ++ ss.take k).length ≤ 1099511627776 := by rw [List.length_append, List.length_take]; omega
      have hct := cntN_le ss[k] (l ++ ss.take k)
      have hend : cntH b7 bm ((l ++ ss.take k) ++ [ss[k]]) H = cntH b7 bm (l ++ ss.take (k + 1)) H := by rw [hsn]
      refine ⟨k, rfl, _, stAt hlt, ?_⟩
      refine ⟨_, List.mem_cons_self, ?_⟩
      by_cases hm : ss[k] ∈ (l ++ ss.take k)
      · refine ⟨talE .str (l ++ ss.take k), (firsts (l ++ ss.take k)).length, _, rfl, List.mem_cons_of_mem _ List.mem_cons_self, tal_keys _ _, tal_yes hm, ?_⟩
        refine ⟨in64_of (by first | omega | (dsimp only; omega)) (by first | omega | (dsimp only; omega)), ?_⟩
        refine ⟨talE .str (l ++ ss.take k), (firsts (l ++ ss.take k)).length, talE .str ((l ++ ss.take k) ++ [ss[k]]), (firsts ((l ++ ss.take k) ++ [ss[k]])).length, cntH b7 bm ((l ++ ss.take k) ++ [ss[k]]) H, .there .here, tal_keys _ _, tal_put key_str (l ++ ss.take k) ss[k], ?_⟩
        refine ⟨in64_of (by first | omega | (dsimp only; omega)) (by first | omega | (dsimp only; omega)), ?_⟩
        refine ⟨k + 1, by omega, by (try dsimp only); omega, ?_⟩
        exact ⟨⟨Le.refl _, Le.refl _, Le.refl _, Le.refl _, trivial⟩, trivial, sub_eq hend.symm⟩
      · refine ⟨talE .str (l ++ ss.take k), (firsts (l ++ ss.take k)).length, _, rfl, List.mem_cons_of_mem _ List.mem_cons_self, tal_keys _ _, tal_no hm, ?_⟩
        refine ⟨in64_of (by first | omega | (dsimp only; omega)) (by first | omega | (dsimp only; omega)), ?_⟩
        refine ⟨talE .str (l ++ ss.take k), (firsts (l ++ ss.take k)).length, talE .str ((l ++ ss.take k) ++ [ss[k]]), (firsts ((l ++ ss.take k) ++ [ss[k]])).length, cntH b7 bm ((l ++ ss.take k) ++ [ss[k]]) H, .there .here, tal_keys _ _, tal_new hm, ?_⟩
        refine ⟨in64_of (by first | omega | (dsimp only; omega)) (by first | omega | (dsimp only; omega)), ?_⟩
        refine ⟨k + 1, by omega, by (try dsimp only); omega, ?_⟩
        exact ⟨⟨Le.refl _, Le.refl _, Le.refl _, Le.refl _, trivial⟩, trivial, sub_eq hend.symm⟩
    · have hk' : k = ss.length := by omega
      subst hk'
      have hq' : Q (.tup []) (cntH b7 bm (l ++ ss.take ss.length) H) := by rw [List.take_length]; exact hq
      exact ⟨_, _, Le.refl _, List.Sublist.refl _, hq'⟩

/-! First -/
/-- the names that are there ahead of a place -/
def knL (list : List Dc) (known : List (List UInt8)) (k : Nat) : List (List UInt8) := known ++ (list.take k).flatMap dNames
theorem knL_zero (list : List Dc) (known : List (List UInt8)) : knL list known 0 = known := by simp [knL]
theorem knL_snoc {list : List Dc} {known : List (List UInt8)} {k : Nat} (h : k < list.length) : knL list known (k + 1) = knL list known k ++ dNames list[k] := by
  rw [knL, knL, List.take_succ_eq_append_getElem h, List.flatMap_append, List.append_assoc]
  simp
theorem names_len {list : List Dc} (hc : ∀ d ∈ list, d.ctors.length ≤ 100) : (list.flatMap dNames).length ≤ 102 * list.length := by
  induction list with
  | nil => exact Nat.le_refl _
  | cons d r ih =>
    have h1 := dNames_len d
    have h2 := hc d (by simp)
    have h3 := ih fun x hx => hc x (List.mem_cons_of_mem _ hx)
    rw [List.flatMap_cons, List.length_append, List.length_cons]
    omega
theorem knL_len {list : List Dc} (hc : ∀ d ∈ list, d.ctors.length ≤ 100) (known : List (List UInt8)) (k : Nat) : (knL list known k).length ≤ known.length + 102 * list.length := by
  have h1 := names_len (list := list.take k) fun d hd => hc d (List.mem_of_mem_take hd)
  have h2 : (list.take k).length ≤ list.length := by rw [List.length_take]; omega
  rw [knL, List.length_append]
  omega
theorem dFirst_hit {d : Dc} {r : List Dc} {kn : List (List UInt8)} {i j : Nat} (h : j < (dNeeds d).length) (h1 : ((dNeeds d).take j).find? (fun s => !decide (s ∈ kn)) = none) (h2 : (dNeeds d)[j] ∉ kn) : dFirst (d :: r) kn i = (i, (dNeeds d)[j], true) := by
  have : (dNeeds d).find? (fun s => !decide (s ∈ kn)) = some (dNeeds d)[j] := by
    refine List.find?_eq_some_iff_append.2 ⟨by rw [decide_eq_false h2]; rfl, (dNeeds d).take j, (dNeeds d).drop (j + 1), split_at h, fun x hx => ?_⟩
    have := List.find?_eq_none.1 h1 x hx
    cases hb : !decide (x ∈ kn) with
    | true => exact absurd hb this
    | false => rfl
  rw [dFirst, this]
theorem dFirst_miss {d : Dc} {r : List Dc} {kn : List (List UInt8)} {i : Nat} (h1 : (dNeeds d).find? (fun s => !decide (s ∈ kn)) = none) : dFirst (d :: r) kn i = dFirst r (kn ++ dNames d) (i + 1) := by rw [dFirst, h1]
theorem dcAt {ls : List Dc} {k : Nat} (h : k < ls.length) : (ls.map dcX)[k]? = some (dcX ls[k]) := by simp [h]
set_option maxRecDepth 100000 in
set_option maxHeartbeats 2000000 in
theorem First_con (o o' : Own) (list : List Dc) (known : List (List UInt8)) (hl : list.length ≤ 1000) (hk0 : known.length ≤ 1000000) (hc : ∀ d ∈ list, d.ctors.length ≤ 100) :
    Ans Tryz.prog 31 [.sl o 15 (list.map dcX), .sl o' 1 (known.map .str)] (.tup [.i (dFirst list known 0).1, .str (dFirst list known 0).2.1, .b (dFirst list known 0).2.2]) := by
  intro H Q hq
  have hll : (list.map dcX).length = list.length := List.length_map _
  have fin : ∀ (a : Nat) (s : List UInt8) (q : Bool) (H0 : Heap), dFirst list known 0 = (a, s, q) → H.Sublist H0 → ∃ r H', Le (.tup [.i a, .str s, .b q]) r ∧ List.Sublist H' H0 ∧ Q r H' := fun a s q H0 h hs => ⟨_, H, Le.refl _, hs, by rw [h] at hq; exact hq⟩
  refine con_of_sem tab_ok Tryz.func31 rfl (ent Tryz.func31 (by kernel_rfl) rfl) (by kernel_rfl) ?_
  intro hw hn
  clear hw hn
  refine sem_seq (esc := [7].contains) tab_ok mixed ?_
  refine sem_seq (esc := [7].contains) tab_ok mixed ?_
  intro bm hbm b7 hb7
  refine ⟨_, _, .here, Nat.le_refl _, ?_⟩
  refine sem_seq (esc := [7].contains) tab_ok mixed ?_
  refine sem_seq (esc := [7].contains) tab_ok mixed ?_
  refine ⟨_, LeL.refl _, First1_con o' [] known (by simp; omega) (H := H) _ ?_⟩
  intro hz1 hz2; clear hz1 hz2
  have hcc : ∀ l : List (List UInt8), H.Sublist (cntH b7 bm l H) := fun l => (List.sublist_cons_self _ _).trans (List.sublist_cons_self _ _)
  refine sem_of (esc := [7].contains) tab_ok mixed ?_
  refine ⟨Nat, fun k => ⟨[(4, .g (.i 0)), (5, .g (.str [])), (6, .g (.b false)), (7, .g (.ptr b7 0)), (8, .g (.fn (.func 65) [.ptr b7 0])), (18, .g (.sl o 15 (list.map dcX))), (19, .g (.i list.length)), (20, .g (.i k))], [], cntH b7 bm (knL list known k) H⟩,
    fun k => k ≤ list.length ∧ dFirst list known 0 = dFirst (list.drop k) (knL list known k) k, fun k => list.length - k, ⟨0, ⟨Nat.zero_le _, by rw [knL_zero]; rfl⟩, ?_⟩, ?_⟩
  · refine ⟨⟨Le.refl _, Le.refl _, Le.refl _, Le.refl _, Le.refl _, Le.refl _, le_of_eq (by show AV.i _ = AV.i _; rw [hll]), Le.refl _, trivial⟩, trivial, sub_eq ?_⟩
    show cntH b7 bm (knL list known 0) H = cntH b7 bm ([] ++ known) H
    rw [knL_zero]
    rfl
  · rintro k ⟨hk, hpre⟩
    refine ifB_dec (fun h => ?_) (fun h => ?_)
    · have hlt : k < list.length := by omega
      rw [List.drop_eq_getElem_cons hlt] at hpre
      have hct := hc _ (List.getElem_mem hlt)
      have hkl := knL_len hc known k
      have hnl := dNames_len list[k]
      have hsn2 := knL_snoc (known := known) hlt
      have hsn : cntH b7 bm (knL list known k ++ dNames list[k]) H = cntH b7 bm (knL list known (k + 1)) H := by rw [hsn2]
      obtain ⟨ns, hns⟩ : ∃ ns, dNeeds list[k] = ns := ⟨_, rfl⟩
      have hnsl : (ns.map AV.str).length = ns.length := List.length_map _
      have hnsb := dNeeds_len list[k]
      rw [hns] at hnsb
      refine ⟨k, rfl, _, dcAt hlt, ?_⟩
      refine ⟨_, LeL.refl _, (Needs_con list[k] hct).to (congrArg stsX hns) _ _ ?_⟩
      intro hz1 hz2; clear hz1 hz2
      refine ⟨Nat, fun j => ⟨[(4, .g (.i 0)), (5, .g (.str [])), (6, .g (.b false)), (7, .g (.ptr b7 0)), (8, .g (.fn (.func 65) [.ptr b7 0])), (9, .g (.i k)), (10, .lp 10 0), (18, .g (.sl o 15 (list.map dcX))), (19, .g (.i list.length)), (20, .g (.i k)), (26, .g (stsX ns)), (27, .g (.i ns.length)), (28, .g (.i j))], [(10, (dcX list[k]).cells)], cntH b7 bm (knL list known k) H⟩,
        fun j => j ≤ ns.length ∧ (ns.take j).find? (fun s => !decide (s ∈ (knL list known k))) = none, fun j => ns.length - j, ⟨0, ⟨Nat.zero_le _, rfl⟩, ?_⟩, ?_⟩
      · refine ⟨⟨Le.refl _, Le.refl _, Le.refl _, Le.refl _, Le.refl _, Le.refl _, ⟨rfl, rfl⟩, Le.refl _, Le.refl _, Le.refl _, Le.refl _, le_of_eq (by show AV.i _ = AV.i _; rw [hnsl]), Le.refl _, trivial⟩, ⟨⟨rfl, LeL.refl _⟩, trivial⟩, List.Sublist.refl _⟩
      · rintro j ⟨hj, hnone⟩
        refine ifB_dec (fun hj2 => ?_) (fun hj2 => ?_)
        · have hltj : j < ns.length := by omega
          refine ⟨j, rfl, _, stAt hltj, ?_⟩
          refine ⟨_, List.mem_cons_self, ?_⟩
          by_cases hm : ns[j] ∈ (knL list known k)
          · have hcp := cntN_pos hm
            refine ⟨talE .str (knL list known k), (firsts (knL list known k)).length, _, rfl, List.mem_cons_of_mem _ List.mem_cons_self, tal_keys _ _, tal_yes hm, ?_⟩
            refine ifB_f (show ¬((cntN ns[j] (knL list known k) : Nat) : Int) = 0 by omega) ?_
            refine ⟨in64_of (by first | omega | (dsimp only; omega)) (by first | omega | (dsimp only; omega)), ?_⟩
            refine ⟨j + 1, ⟨by omega, find_next hltj hnone (by rw [decide_eq_true hm]; rfl)⟩, by (try dsimp only); omega, ?_⟩
            (constructor <;> repeat' (first | exact trivial | exact ⟨rfl, rfl⟩ | exact ⟨rfl, LeL.refl _⟩ | exact Le.refl _ | exact List.Sublist.refl _ | (show Le (AV.i _) (AV.i _); rw [List.length_map]; exact Le.refl _) | refine And.intro ?_ ?_))
          · refine ⟨talE .str (knL list known k), (firsts (knL list known k)).length, _, rfl, List.mem_cons_of_mem _ List.mem_cons_self, tal_keys _ _, tal_no hm, ?_⟩
            refine fin k ns[j] true _ ?_ (hcc (knL list known k))
            rw [hpre]
            subst hns
            exact dFirst_hit hltj hnone hm
        · have hj' : j = ns.length := by omega
          rw [hj', List.take_length] at hnone
          refine ⟨_, LeL.refl _, Names_con list[k] (by omega) _ _ ?_⟩
          intro hz1 hz2; clear hz1 hz2
          refine ⟨_, LeL.refl _, First1_con .no (knL list known k) (dNames list[k]) (by omega) (H := H) _ ?_⟩
          intro hz1 hz2; clear hz1 hz2
          refine ⟨in64_of (by first | omega | (dsimp only; omega)) (by first | omega | (dsimp only; omega)), ?_⟩
          refine ⟨k + 1, ⟨by omega, ?_⟩, by (try dsimp only); omega, ?_⟩
          · rw [hpre, hsn2]
            exact dFirst_miss (by rw [hns]; exact hnone)
          · exact ⟨⟨Le.refl _, Le.refl _, Le.refl _, Le.refl _, Le.refl _, Le.refl _, Le.refl _, Le.refl _, trivial⟩, trivial, sub_eq hsn.symm⟩
    · have hk' : k = list.length := by omega
      rw [hk', List.drop_length] at hpre
      exact fin 0 [] false _ (by rw [hpre]; rfl) (hcc _)
end Go.Proofs.YtjmmacbblnjogaaGreatDoor

/-
  deps: a walk's visit. No condition.
-/
namespace Go.Proofs.YtjmmacbblnjogaaGreatDoor
open Go.RowKit

/-! how far it goes, once more -/
section
variable {pl : List UInt8 → List Nat} {nd : Nat → List (List UInt8)} {keys : List (List UInt8)}
theorem foldv_pot (hn : keys.Nodup) (hk : ∀ s, pl s ≠ [] → s ∈ keys) (N : Nat) : ∀ (ns : List (List UInt8)) (τ : Sg), (ns.foldl (fun σ n => vis pl nd N n σ) τ).2.length + pot pl keys (ns.foldl (fun σ n => vis pl nd N n σ) τ) ≤ τ.2.length + pot pl keys τ
  | [], _ => Nat.le_refl _
  | n :: ns, τ => by
    rw [List.foldl_cons]
    exact Nat.le_trans (foldv_pot hn hk N ns _) (vis_pot hn hk N n τ)
theorem plc_pot (hn : keys.Nodup) (hk : ∀ s, pl s ≠ [] → s ∈ keys) (N : Nat) (τ : Sg) (i : Nat) : (plc nd (vis pl nd N) τ i).2.length + pot pl keys (plc nd (vis pl nd N) τ i) ≤ τ.2.length + pot pl keys τ + 1 := by
  have e1 : pot pl keys (τ.1, τ.2 ++ [i]) = pot pl keys τ := rfl
  unfold plc
  by_cases hi : i ∈ τ.2
  · rw [if_pos hi, e1]; simp only [List.length_append, List.length_cons, List.length_nil]; omega
  · rw [if_neg hi]
    have := foldv_pot (nd := nd) hn hk N (nd i) (τ.1, τ.2 ++ [i])
    rw [e1] at this
    simp only [List.length_append, List.length_cons, List.length_nil] at this
    omega
theorem foldp_pot (hn : keys.Nodup) (hk : ∀ s, pl s ≠ [] → s ∈ keys) (N : Nat) : ∀ (is : List Nat) (τ : Sg), (is.foldl (plc nd (vis pl nd N)) τ).2.length + pot pl keys (is.foldl (plc nd (vis pl nd N)) τ) ≤ τ.2.length + pot pl keys τ + is.length
  | [], _ => Nat.le_refl _
  | i :: is, τ => by
    rw [List.foldl_cons, List.length_cons]
    have h1 := foldp_pot hn hk N is (plc nd (vis pl nd N) τ i)
    have h2 := plc_pot (nd := nd) hn hk N τ i
    omega
end
theorem foldl_take {α β : Type} (f : β → α → β) (b : β) {l : List α} {k : Nat} (h : k < l.length) : (l.take (k + 1)).foldl f b = f ((l.take k).foldl f b) l[k] := by
  rw [List.take_succ_eq_append_getElem h, List.foldl_append]
  rfl

theorem key_nI (a b : Nat) : keyEq (nI a) (nI b) = decide (a = b) := key_nat a b
theorem talN_yes {l : List Nat} {s : Nat} (h : s ∈ l) : mpFind (nI s) (talE nI l) = some (idxN s (firsts l), .i ((cntN s l : Nat) : Int)) := by rw [tal_find key_nI, if_pos h]
theorem talN_no {l : List Nat} {s : Nat} (h : s ∉ l) : mpFind (nI s) (talE nI l) = none := by rw [tal_find key_nI, if_neg h]
theorem talN_keys (l : List Nat) (s : Nat) : KeysOk (.int .i64) (nI s) (talE nI l) := keys_nat s
theorem talN_new {l : List Nat} {s : Nat} (h : s ∉ l) : mpPut (nI s) (.i (0 + 1)) (talE nI l) (firsts l).length = (talE nI (l ++ [s]), (firsts (l ++ [s])).length) := by
  have := tal_put key_nI l s
  rw [cntN_zero h] at this
  exact this
/-- the heap of a walk -/
def vH (o : Own) (bw bd bs bo : Nat) (list : List Dc) (es : List (Nat × AV × AV)) (clk : Nat) (σ : Sg) (H : Heap) : Heap :=
  (bw, .cells [.mp bo, .sl o 15 (list.map dcX), .mp bs, .mp bd]) :: (bd, .mp (talE nI σ.2) (firsts σ.2).length) :: (bs, .mp (talE .str σ.1) (firsts σ.1).length) :: (bo, .mp es clk) :: H
/-- which declarations declare a name, as a map -/
def OfOk (pl : List UInt8 → List Nat) (es : List (Nat × AV × AV)) : Prop :=
  (∀ s, KeysOk .string (.str s) es) ∧ ∀ s, (pl s = [] ∧ mpFind (.str s) es = none) ∨ (pl s ≠ [] ∧ ∃ n o, mpFind (.str s) es = some (n, .sl o 1 ((pl s).map nI)))
theorem m1 {α : Type} {a b : α} {l : List α} : b ∈ a :: b :: l := List.mem_cons_of_mem _ List.mem_cons_self
theorem m2 {α : Type} {a b c : α} {l : List α} : c ∈ a :: b :: c :: l := List.mem_cons_of_mem _ m1
theorem m3 {α : Type} {a b c d : α} {l : List α} : d ∈ a :: b :: c :: d :: l := List.mem_cons_of_mem _ m2
set_option maxRecDepth 100000 in
set_option maxHeartbeats 1000000 in
theorem walkStop_con {list : List Dc} {pl : List UInt8 → List Nat} (o : Own) {es : List (Nat × AV × AV)} {clk : Nat} (hof : OfOk pl es) {bw bd bs bo : Nat} {H : Heap} (s : List UInt8) (σ : Sg) (h : pl s = [] ∨ s ∈ σ.1) (Q : AV → Heap → Prop) (hq : Q (.tup []) (vH o bw bd bs bo list es clk σ H)) :
    Con Tryz.prog 66 [.ptr bw 0, .str s] (vH o bw bd bs bo list es clk σ H) Q := by
  by_cases hp : pl s = []
  · have hf := ((hof.2 s).resolve_right fun h => h.1 hp).2
    refine con_of_awp (esc := fun _ => false) tab_ok mixed Tryz.func66 rfl (ent Tryz.func66 (by kernel_rfl) rfl) (by kernel_rfl) ?_
    intro hw hnd
    clear hw hnd
    refine ⟨_, List.mem_cons_self, ?_⟩
    refine ⟨es, clk, none, rfl, m3, hof.1 s, hf, ?_⟩
    exact ⟨_, _, Le.refl _, List.Sublist.refl _, hq⟩
  · have hs := h.resolve_left hp
    obtain ⟨n0, o0, hf⟩ := ((hof.2 s).resolve_left fun h => hp h.1).2
    have hcp := cntN_pos hs
    refine con_of_awp (esc := fun _ => false) tab_ok mixed Tryz.func66 rfl (ent Tryz.func66 (by kernel_rfl) rfl) (by kernel_rfl) ?_
    intro hw hnd
    clear hw hnd
    refine ⟨_, List.mem_cons_self, ?_⟩
    refine ⟨es, clk, some (n0, .sl o0 1 ((pl s).map nI)), rfl, m3, hof.1 s, hf, ?_⟩
    refine ⟨_, List.mem_cons_self, ?_⟩
    refine ⟨talE .str σ.1, (firsts σ.1).length, _, rfl, m2, tal_keys _ _, tal_yes hs, ?_⟩
    refine ifB_t (show (0 : Int) < ((cntN s σ.1 : Nat) : Int) by omega) ?_
    exact ⟨_, _, Le.refl _, List.Sublist.refl _, hq⟩
set_option maxRecDepth 100000 in
set_option maxHeartbeats 4000000 in
theorem walkVisit_con {list : List Dc} {pl : List UInt8 → List Nat} {keys : List (List UInt8)} (o : Own) (hn : keys.Nodup) (hk : ∀ s, pl s ≠ [] → s ∈ keys) (hi : ∀ s, ∀ i ∈ pl s, i < list.length) (hc : ∀ d ∈ list, d.ctors.length ≤ 100) {es : List (Nat × AV × AV)} {clk : Nat} (hof : OfOk pl es) {bw bd bs bo : Nat} {H : Heap} (N : Nat) :
    ∀ (s : List UInt8) (σ : Sg), free keys σ ≤ N → σ.2.length + pot pl keys σ ≤ 1000000 → ∀ Q : AV → Heap → Prop, Q (.tup []) (vH o bw bd bs bo list es clk (vis pl (ndOf list) N s σ) H) → Con Tryz.prog 66 [.ptr bw 0, .str s] (vH o bw bd bs bo list es clk σ H) Q := by
  induction N with
  | zero =>
    intro s σ hN hP Q hq
    exact walkStop_con o hof s σ (free_zero (hk s) (by omega)) Q hq
  | succ N ih =>
    intro s σ hN hP Q hq
    by_cases hst : pl s = [] ∨ s ∈ σ.1
    · rw [vis_yes hst] at hq
      exact walkStop_con o hof s σ hst Q hq
    rw [vis_no hst] at hq
    obtain ⟨hp, hs⟩ := not_or.1 hst
    obtain ⟨n0, o0, hf⟩ := ((hof.2 s).resolve_left fun h => hp h.1).2
    have hV : ∀ s σ, Sg.le σ (vis pl (ndOf list) N s σ) := fun s σ => vis_le N s σ
    have hfc := free_cut hn (hk s hp) hs
    have hpc := pot_cut (pl := pl) hn (hk s hp) hs
    obtain ⟨ps, hps⟩ : ∃ ps, pl s = ps := ⟨_, rfl⟩
    rw [hps] at hf hq hpc
    have hpi : ∀ i ∈ ps, i < list.length := fun i h => hi s i (hps ▸ h)
    have hpl : (ps.map nI).length = ps.length := List.length_map _
    -- how far a round may go
    have bnd : ∀ k, k ≤ ps.length → ((ps.take k).foldl (plc (ndOf list) (vis pl (ndOf list) N)) (σ.1 ++ [s], σ.2)).2.length + pot pl keys ((ps.take k).foldl (plc (ndOf list) (vis pl (ndOf list) N)) (σ.1 ++ [s], σ.2)) + ps.length ≤ 1000000 + k := fun k hk' => by
      have := foldp_pot (nd := ndOf list) hn hk N (ps.take k) (σ.1 ++ [s], σ.2)
      rw [List.length_take, Nat.min_eq_left hk'] at this
      simp only at this
      omega
    have fr : ∀ k, free keys ((ps.take k).foldl (plc (ndOf list) (vis pl (ndOf list) N)) (σ.1 ++ [s], σ.2)) ≤ N := fun k => by
      have := free_le (keys := keys) (foldp_le (nd := ndOf list) (vis pl (ndOf list) N) hV (ps.take k) (σ.1 ++ [s], σ.2))
      omega
    refine con_of_awp (esc := fun _ => false) tab_ok mixed Tryz.func66 rfl (ent Tryz.func66 (by kernel_rfl) rfl) (by kernel_rfl) ?_
    intro hw hnd
    clear hw hnd
    refine ⟨_, List.mem_cons_self, ?_⟩
    refine ⟨es, clk, some (n0, .sl o0 1 (ps.map nI)), rfl, m3, hof.1 s, hf, ?_⟩
    refine ⟨_, List.mem_cons_self, ?_⟩
    refine ⟨talE .str σ.1, (firsts σ.1).length, _, rfl, m2, tal_keys _ _, tal_no hs, ?_⟩
    refine ⟨_, List.mem_cons_self, ?_⟩
    refine ⟨talE .str σ.1, (firsts σ.1).length, _, rfl, m2, tal_keys _ _, tal_no hs, ?_⟩
    refine ⟨in64_of (by first | omega | (dsimp only; omega)) (by first | omega | (dsimp only; omega)), ?_⟩
    refine ⟨talE .str σ.1, (firsts σ.1).length, talE .str (σ.1 ++ [s]), (firsts (σ.1 ++ [s])).length, vH o bw bd bs bo list es clk (σ.1 ++ [s], σ.2) H, .there (.there .here), tal_keys _ _, tal_new hs, ?_⟩
    refine ⟨Nat × Sg, fun x => ⟨[(0, .g (.ptr bw 0)), (37, .g (.sl o0 1 (ps.map nI))), (38, .g (.i ps.length)), (39, .g (.i x.1))], [], vH o bw bd bs bo list es clk x.2 H⟩, fun x => x.1 ≤ ps.length ∧ (ps.take x.1).foldl (plc (ndOf list) (vis pl (ndOf list) N)) (σ.1 ++ [s], σ.2) = x.2, fun x => ps.length - x.1, ⟨(0, (σ.1 ++ [s], σ.2)), ⟨Nat.zero_le _, rfl⟩, ?_⟩, ?_⟩
    · refine ⟨⟨Le.refl _, Le.refl _, le_of_eq (by show AV.i _ = AV.i _; rw [hpl]), Le.refl _, trivial⟩, trivial, List.Sublist.refl _⟩
    · rintro ⟨k, τ⟩ ⟨hk', hτ⟩
      simp only at hk' hτ
      refine ifB_dec (fun h => ?_) (fun h => ?_)
      · have hlt : k < ps.length := by omega
        have hb := bnd k hk'
        have hfr := fr k
        have hsn := foldl_take (plc (ndOf list) (vis pl (ndOf list) N)) (σ.1 ++ [s], σ.2) hlt
        rw [hτ] at hb hfr hsn
        have hil := hpi _ (List.getElem_mem hlt)
        have hcl := cntN_le ps[k] τ.2
        have hcs := cntN_snoc ps[k] τ.2
        have hin : ps[k] ∈ τ.2 ++ [ps[k]] := by simp
        refine ⟨k, rfl, _, nAt hlt, ?_⟩
        refine ⟨_, List.mem_cons_self, ?_⟩
        by_cases hm : ps[k] ∈ τ.2
        · have hpos := cntN_pos hm
          refine ⟨talE nI τ.2, (firsts τ.2).length, _, rfl, m1, talN_keys _ _, talN_yes hm, ?_⟩
          refine ⟨in64_of (by first | omega | (dsimp only; omega)) (by first | omega | (dsimp only; omega)), ?_⟩
          refine ⟨talE nI τ.2, (firsts τ.2).length, talE nI (τ.2 ++ [ps[k]]), (firsts (τ.2 ++ [ps[k]])).length, vH o bw bd bs bo list es clk (τ.1, τ.2 ++ [ps[k]]) H, .there .here, talN_keys _ _, tal_put key_nI τ.2 ps[k], ?_⟩
          refine ⟨_, List.mem_cons_self, ?_⟩
          refine ⟨talE nI (τ.2 ++ [ps[k]]), (firsts (τ.2 ++ [ps[k]])).length, _, rfl, m1, talN_keys _ _, talN_yes hin, ?_⟩
          refine ifB_t (show (1 : Int) < ((cntN ps[k] (τ.2 ++ [ps[k]]) : Nat) : Int) by omega) ?_
          refine ⟨in64_of (by first | omega | (dsimp only; omega)) (by first | omega | (dsimp only; omega)), ?_⟩
          refine ⟨(k + 1, (τ.1, τ.2 ++ [ps[k]])), ⟨by simp only; omega, by simp only; rw [hsn, plc, if_pos hm]⟩, by (try dsimp only); omega, ?_⟩
          (constructor <;> repeat' (first | exact trivial | exact ⟨rfl, rfl⟩ | exact ⟨rfl, LeL.refl _⟩ | exact Le.refl _ | exact List.Sublist.refl _ | (show Le (AV.i _) (AV.i _); rw [List.length_map]; exact Le.refl _) | refine And.intro ?_ ?_))
        · have hzero := cntN_zero hm
          have hnd : ndOf list ps[k] = dNeeds list[ps[k]] := by
            unfold ndOf
            rw [List.getD_eq_getElem?_getD, List.getElem?_eq_getElem hil]
            rfl
          obtain ⟨ns, hns⟩ : ∃ ns, dNeeds list[ps[k]] = ns := ⟨_, rfl⟩
          rw [hns] at hnd
          have hnsb := dNeeds_len list[ps[k]]
          have hct := hc _ (List.getElem_mem hil)
          rw [hns] at hnsb
          have hnsl : (ns.map AV.str).length = ns.length := List.length_map _
          refine ⟨talE nI τ.2, (firsts τ.2).length, _, rfl, m1, talN_keys _ _, talN_no hm, ?_⟩
          refine ⟨in64_of (by first | omega | (dsimp only; omega)) (by first | omega | (dsimp only; omega)), ?_⟩
          refine ⟨talE nI τ.2, (firsts τ.2).length, talE nI (τ.2 ++ [ps[k]]), (firsts (τ.2 ++ [ps[k]])).length, vH o bw bd bs bo list es clk (τ.1, τ.2 ++ [ps[k]]) H, .there .here, talN_keys _ _, talN_new hm, ?_⟩
          refine ⟨_, List.mem_cons_self, ?_⟩
          refine ⟨talE nI (τ.2 ++ [ps[k]]), (firsts (τ.2 ++ [ps[k]])).length, _, rfl, m1, talN_keys _ _, talN_yes hin, ?_⟩
          refine ifB_f (show ¬(1 : Int) < ((cntN ps[k] (τ.2 ++ [ps[k]]) : Nat) : Int) by omega) ?_
          refine ⟨_, List.mem_cons_self, ?_⟩
          refine ⟨ps[k], rfl, _, dcAt hil, ?_⟩
          refine ⟨_, LeL.refl _, (Needs_con list[ps[k]] hct).to (congrArg stsX hns) _ _ ?_⟩
          intro hz1 hz2; clear hz1 hz2
          refine ⟨Nat × Sg, fun x => ⟨[(0, .g (.ptr bw 0)), (37, .g (.sl o0 1 (ps.map nI))), (38, .g (.i ps.length)), (39, .g (.i k)), (64, .g (stsX ns)), (65, .g (.i ns.length)), (66, .g (.i x.1))], [], vH o bw bd bs bo list es clk x.2 H⟩, fun x => x.1 ≤ ns.length ∧ (ns.take x.1).foldl (fun σ n => vis pl (ndOf list) N n σ) (τ.1, τ.2 ++ [ps[k]]) = x.2, fun x => ns.length - x.1, ⟨(0, (τ.1, τ.2 ++ [ps[k]])), ⟨Nat.zero_le _, rfl⟩, ?_⟩, ?_⟩
          · refine ⟨⟨Le.refl _, Le.refl _, Le.refl _, Le.refl _, Le.refl _, le_of_eq (by show AV.i _ = AV.i _; rw [hnsl]), Le.refl _, trivial⟩, trivial, List.Sublist.refl _⟩
          · rintro ⟨j, υ⟩ ⟨hj, hυ⟩
            simp only at hj hυ
            refine ifB_dec (fun hj2 => ?_) (fun hj2 => ?_)
            · have hltj : j < ns.length := by omega
              have hsj := foldl_take (fun σ n => vis pl (ndOf list) N n σ) (τ.1, τ.2 ++ [ps[k]]) hltj
              rw [hυ] at hsj
              have hfj := free_le (keys := keys) (fold_le (vis pl (ndOf list) N) hV (ns.take j) (τ.1, τ.2 ++ [ps[k]]))
              have hpj := foldv_pot (nd := ndOf list) hn hk N (ns.take j) (τ.1, τ.2 ++ [ps[k]])
              rw [hυ] at hfj hpj
              have e1 : pot pl keys (τ.1, τ.2 ++ [ps[k]]) = pot pl keys τ := rfl
              have e2 : free keys (τ.1, τ.2 ++ [ps[k]]) = free keys τ := rfl
              rw [e1] at hpj
              rw [e2] at hfj
              simp only [List.length_append, List.length_cons, List.length_nil] at hpj
              refine ⟨j, rfl, _, stAt hltj, ?_⟩
              refine ⟨_, LeL.refl _, ih ns[j] υ (by omega) (by omega) _ ?_⟩
              intro hz1 hz2; clear hz1 hz2
              refine ⟨in64_of (by first | omega | (dsimp only; omega)) (by first | omega | (dsimp only; omega)), ?_⟩
              refine ⟨(j + 1, vis pl (ndOf list) N ns[j] υ), ⟨by simp only; omega, hsj⟩, by (try dsimp only); omega, ?_⟩
              (constructor <;> repeat' (first | exact trivial | exact ⟨rfl, rfl⟩ | exact ⟨rfl, LeL.refl _⟩ | exact Le.refl _ | exact List.Sublist.refl _ | (show Le (AV.i _) (AV.i _); rw [List.length_map]; exact Le.refl _) | refine And.intro ?_ ?_))
            · have hj' : j = ns.length := by omega
              rw [hj', List.take_length] at hυ
              refine ⟨in64_of (by first | omega | (dsimp only; omega)) (by first | omega | (dsimp only; omega)), ?_⟩
              refine ⟨(k + 1, υ), ⟨by simp only; omega, by simp only; rw [hsn, plc, if_neg hm, hnd]; exact hυ⟩, by (try dsimp only); omega, ?_⟩
              (constructor <;> repeat' (first | exact trivial | exact ⟨rfl, rfl⟩ | exact ⟨rfl, LeL.refl _⟩ | exact Le.refl _ | exact List.Sublist.refl _ | (show Le (AV.i _) (AV.i _); rw [List.length_map]; exact Le.refl _) | refine And.intro ?_ ?_))
      · have hk'' : k = ps.length := by omega
        rw [hk'', List.take_length] at hτ
        rw [hτ] at hq
        exact ⟨_, _, Le.refl _, List.Sublist.refl _, hq⟩
end Go.Proofs.YtjmmacbblnjogaaGreatDoor

/-
  deps.Reach. No condition.
-/
namespace Go.Proofs.YtjmmacbblnjogaaGreatDoor
open Go.RowKit

/-! which declarations declare a name: the map -/
theorem plOf_snoc (ps : List (List UInt8 × Nat)) (s t : List UInt8) (i : Nat) : plOf (ps ++ [(s, i)]) t = plOf ps t ++ if s = t then [i] else [] := by
  unfold plOf
  rw [List.filter_append, List.map_append]
  by_cases h : s = t
  · rw [if_pos h]; simp [h]
  · rw [if_neg h]; simp [h]
theorem plOf_len (ps : List (List UInt8 × Nat)) (s : List UInt8) : (plOf ps s).length ≤ ps.length := by
  unfold plOf
  rw [List.length_map]
  exact List.length_filter_le _ _
theorem pkeys_old {ps : List (List UInt8 × Nat)} {s : List UInt8} (h : s ∈ pkeys ps) (i : Nat) : pkeys (ps ++ [(s, i)]) = pkeys ps := by
  unfold pkeys at h ⊢
  rw [List.map_append]
  exact firsts_old (((firsts_spec _).2 s).1 h)
theorem pkeys_new {ps : List (List UInt8 × Nat)} {s : List UInt8} (h : s ∉ pkeys ps) (i : Nat) : pkeys (ps ++ [(s, i)]) = pkeys ps ++ [s] := by
  unfold pkeys at h ⊢
  rw [List.map_append]
  exact firsts_new fun k => h (((firsts_spec _).2 s).2 k)
theorem pkeys_mem {ps : List (List UInt8 × Nat)} {s : List UInt8} : s ∈ pkeys ps ↔ plOf ps s ≠ [] := by
  rw [plOf_ne]
  exact (firsts_spec _).2 s
def ofV (cp : List UInt8 → Cap) (ps : List (List UInt8 × Nat)) : List UInt8 → AV := fun s => .sl (.own (cp s)) 1 ((plOf ps s).map nI)
def ofE (cp : List UInt8 → Cap) (ps : List (List UInt8 × Nat)) : List (Nat × AV × AV) := kE .str (ofV cp ps) (pkeys ps) 0
def updC (cp : List UInt8 → Cap) (s : List UInt8) (c : Cap) : List UInt8 → Cap := fun t => if t = s then c else cp t
theorem of_yes {cp : List UInt8 → Cap} {ps : List (List UInt8 × Nat)} {s : List UInt8} (h : s ∈ pkeys ps) : ∃ n, mpFind (.str s) (ofE cp ps) = some (n, .sl (.own (cp s)) 1 ((plOf ps s).map nI)) := kE_find_yes key_str (ofV cp ps) s (pkeys ps) h
theorem of_no {cp : List UInt8 → Cap} {ps : List (List UInt8 × Nat)} {s : List UInt8} (h : s ∉ pkeys ps) : mpFind (.str s) (ofE cp ps) = none := kE_find_no key_str (ofV cp ps) s (pkeys ps) h
theorem of_keys (cp : List UInt8 → Cap) (ps : List (List UInt8 × Nat)) (s : List UInt8) : KeysOk .string (.str s) (ofE cp ps) := keys_str s
theorem of_put (cp : List UInt8 → Cap) (ps : List (List UInt8 × Nat)) (s : List UInt8) (i : Nat) (c : Cap) : mpPut (.str s) (.sl (.own c) 1 ((plOf ps s).map nI ++ [nI i])) (ofE cp ps) (pkeys ps).length = (ofE (updC cp s c) (ps ++ [(s, i)]), (pkeys (ps ++ [(s, i)])).length) := by
  have hv : ∀ ks n, kE .str (updF (ofV cp ps) s (.sl (.own c) 1 ((plOf ps s).map nI ++ [nI i]))) ks n = kE .str (ofV (updC cp s c) (ps ++ [(s, i)])) ks n := fun ks n => kE_congr fun t _ => by
    unfold updF ofV updC
    rw [plOf_snoc]
    by_cases h : t = s
    · subst h
      rw [if_pos rfl, if_pos rfl, if_pos rfl, List.map_append]
      rfl
    · rw [if_neg h, if_neg h, if_neg (Ne.symm h), List.append_nil]
  by_cases hk : s ∈ pkeys ps
  · have h := kE_put_old key_str (ofV cp ps) s (.sl (.own c) 1 ((plOf ps s).map nI ++ [nI i])) (pkeys ps) (firsts_spec _).1 hk
    rw [hv] at h
    rw [ofE, h, ofE, pkeys_old hk]
  · have h := kE_put_new key_str (ofV cp ps) s (.sl (.own c) 1 ((plOf ps s).map nI ++ [nI i])) (pkeys ps) (firsts_spec _).1 hk
    rw [hv] at h
    rw [ofE, h, ofE, pkeys_new hk]
theorem of_new {cp : List UInt8 → Cap} {ps : List (List UInt8 × Nat)} {s : List UInt8} (h : s ∉ pkeys ps) (i : Nat) (c : Cap) : mpPut (.str s) (.sl (.own c) 1 ([] ++ [nI i])) (ofE cp ps) (pkeys ps).length = (ofE (updC cp s c) (ps ++ [(s, i)]), (pkeys (ps ++ [(s, i)])).length) := by
  have h0 : plOf ps s = [] := by
    by_cases h1 : plOf ps s = []
    · exact h1
    · exact absurd (pkeys_mem.2 h1) h
  have := of_put cp ps s i c
  rw [h0] at this
  exact this
theorem of_ok (cp : List UInt8 → Cap) (ps : List (List UInt8 × Nat)) : OfOk (plOf ps) (ofE cp ps) := by
  refine ⟨fun s => of_keys cp ps s, fun s => ?_⟩
  by_cases h : s ∈ pkeys ps
  · obtain ⟨n, hf⟩ := of_yes (cp := cp) h
    exact Or.inr ⟨pkeys_mem.1 h, n, _, hf⟩
  · refine Or.inl ⟨?_, of_no h⟩
    by_cases h1 : plOf ps s = []
    · exact h1
    · exact absurd (pkeys_mem.2 h1) h
/-- the rooms of the map's slices -/
def capH (cp : List UInt8 → Cap) (ord : List (List UInt8)) (H : Heap) : Heap := ord.map (fun s => ((cp s).b, AObj.cap (cp s))) ++ H
theorem cap_rem {cp : List UInt8 → Cap} {s : List UInt8} {H : Heap} : ∀ {ord : List (List UInt8)}, s ∈ ord → Heap.Rem ((cp s).b, .cap (cp s)) (capH cp ord H) (capH cp (ord.erase s) H)
  | t :: r, h => by
    by_cases e : t = s
    · subst e
      rw [List.erase_cons_head]
      exact .here
    · rw [List.erase_cons_tail (by simpa using e)]
      exact .there (cap_rem ((List.mem_cons.1 h).resolve_left (Ne.symm e)))
theorem cap_upd {cp : List UInt8 → Cap} {s : List UInt8} {c : Cap} {ord : List (List UInt8)} {H : Heap} (h : ord.Nodup) : (c.b, AObj.cap c) :: capH cp (ord.erase s) H = capH (updC cp s c) (s :: ord.erase s) H := by
  unfold capH
  rw [List.map_cons, List.cons_append]
  have e : updC cp s c s = c := if_pos rfl
  rw [e]
  congr 2
  refine List.map_congr_left fun t ht => ?_
  have hne : t ≠ s := fun hts => by
    subst hts
    exact (List.Nodup.not_mem_erase h) ht
  have : updC cp s c t = cp t := if_neg hne
  rw [this]
def OrdOk (ord : List (List UInt8)) (ps : List (List UInt8 × Nat)) : Prop := ord.Nodup ∧ ∀ s, s ∈ ord ↔ s ∈ pkeys ps
theorem OrdOk.next {ord : List (List UInt8)} {ps : List (List UInt8 × Nat)} (h : OrdOk ord ps) (s : List UInt8) (i : Nat) : OrdOk (s :: ord.erase s) (ps ++ [(s, i)]) := by
  refine ⟨List.nodup_cons.2 ⟨h.1.not_mem_erase, h.1.erase s⟩, fun t => ?_⟩
  rw [List.mem_cons, h.1.mem_erase_iff]
  have h2 := h.2 t
  by_cases hk : s ∈ pkeys ps
  · rw [pkeys_old hk, h2]
    constructor
    · rintro (rfl | h3)
      · exact hk
      · exact h3.2
    · intro h3
      by_cases e : t = s
      · exact Or.inl e
      · exact Or.inr ⟨e, h3⟩
  · rw [pkeys_new hk, List.mem_append, List.mem_singleton, h2]
    constructor
    · rintro (rfl | h3)
      · exact Or.inr rfl
      · exact Or.inl h3.2
    · rintro (h3 | rfl)
      · exact Or.inr ⟨fun e => hk (e ▸ h3), h3⟩
      · exact Or.inl rfl
/-- the names of the first declarations, and some of the next one's -/
def prK (list : List Dc) (k : Nat) (ns : List (List UInt8)) (j : Nat) : List (List UInt8 × Nat) := prs (list.take k) ++ (ns.take j).map fun s => (s, k)
theorem prK_zero (list : List Dc) (k : Nat) (ns : List (List UInt8)) : prK list k ns 0 = prs (list.take k) := by simp [prK]
theorem prK_snoc {list : List Dc} {k : Nat} {ns : List (List UInt8)} {j : Nat} (h : j < ns.length) : prK list k ns (j + 1) = prK list k ns j ++ [(ns[j], k)] := by
  rw [prK, prK, List.take_succ_eq_append_getElem h, List.map_append, List.append_assoc]
  rfl
theorem prK_end {list : List Dc} {k : Nat} (h : k < list.length) : prK list k (dNames list[k]) (dNames list[k]).length = prs (list.take (k + 1)) := by
  rw [prK, List.take_length, prs, prs, List.take_succ_eq_append_getElem h, List.zipIdx_append, List.flatMap_append]
  simp [List.length_take, Nat.min_eq_left (Nat.le_of_lt h)]
theorem prs_len {list : List Dc} (hc : ∀ d ∈ list, d.ctors.length ≤ 100) : (prs list).length ≤ 102 * list.length := by
  have key : ∀ (l : List Dc) (n : Nat), (∀ d ∈ l, d.ctors.length ≤ 100) → ((l.zipIdx n).flatMap fun p => (dNames p.1).map fun s => (s, p.2)).length ≤ 102 * l.length := by
    intro l
    induction l with
    | nil => intro n _; exact Nat.le_refl _
    | cons d r ih =>
      intro n h
      have h1 := dNames_len d
      have h2 := h d (by simp)
      have h3 := ih (n + 1) fun x hx => h x (List.mem_cons_of_mem _ hx)
      rw [List.zipIdx_cons, List.flatMap_cons, List.length_append, List.length_map, List.length_cons]
      simp only
      omega
  exact key list 0 hc
theorem prK_len {list : List Dc} (hc : ∀ d ∈ list, d.ctors.length ≤ 100) (k : Nat) (ns : List (List UInt8)) (j : Nat) : (prK list k ns j).length ≤ 102 * list.length + ns.length := by
  have h1 := prs_len (list := list.take k) fun d hd => hc d (List.mem_of_mem_take hd)
  have h2 : (list.take k).length ≤ list.length := by rw [List.length_take]; omega
  have h3 : (ns.take j).length ≤ ns.length := by rw [List.length_take]; omega
  rw [prK, List.length_append, List.length_map]
  omega
theorem pl_sum (keys : List (List UInt8)) (hn : keys.Nodup) : ∀ ps : List (List UInt8 × Nat), (keys.map fun s => (plOf ps s).length).sum ≤ ps.length := by
  have one : ∀ (t : List UInt8) (keys : List (List UInt8)), keys.Nodup → (keys.map fun s => if t = s then 1 else 0).sum ≤ 1 := by
    intro t keys
    induction keys with
    | nil => intro _; exact Nat.zero_le _
    | cons a r ih =>
      intro hn
      rw [List.nodup_cons] at hn
      rw [List.map_cons, List.sum_cons]
      by_cases h : t = a
      · subst h
        have : (r.map fun s => if t = s then 1 else 0).sum = 0 := by
          clear ih
          have h1 := hn.1
          clear hn
          induction r with
          | nil => rfl
          | cons b r ih =>
            rw [List.map_cons, List.sum_cons, if_neg (fun e => h1 (by rw [e]; exact List.mem_cons_self)), ih fun k => h1 (List.mem_cons_of_mem _ k)]
        rw [this, if_pos rfl]
        exact Nat.le_refl _
      · rw [if_neg h, Nat.zero_add]
        exact ih hn.2
  have add : ∀ (f g : List UInt8 → Nat) (keys : List (List UInt8)), (keys.map fun s => f s + g s).sum = (keys.map f).sum + (keys.map g).sum := by
    intro f g keys
    induction keys with
    | nil => rfl
    | cons a r ih => rw [List.map_cons, List.map_cons, List.map_cons, List.sum_cons, List.sum_cons, List.sum_cons, ih]; omega
  intro ps
  induction ps with
  | nil =>
    have : ∀ keys : List (List UInt8), (keys.map fun s => (plOf [] s).length).sum = 0 := by
      intro keys
      induction keys with
      | nil => rfl
      | cons a r ih => rw [List.map_cons, List.sum_cons, ih]; rfl
    rw [this]
    exact Nat.le_refl _
  | cons p r ih =>
    have e : ∀ s, (plOf (p :: r) s).length = (if p.1 = s then 1 else 0) + (plOf r s).length := fun s => by
      unfold plOf
      rw [List.filter_cons]
      by_cases h : p.1 = s
      · rw [if_pos h, if_pos (by simpa using h), List.map_cons, List.length_cons]; omega
      · rw [if_neg h, if_neg (by simpa using h)]; omega
    have e2 : (keys.map fun s => (plOf (p :: r) s).length) = keys.map fun s => (if p.1 = s then 1 else 0) + (plOf r s).length := List.map_congr_left fun s _ => e s
    rw [e2, add, List.length_cons]
    have := one p.1 keys hn
    omega
theorem pot_zero (ps : List (List UInt8 × Nat)) : pot (plOf ps) (pkeys ps) ([], []) ≤ ps.length := by
  unfold pot
  rw [List.filter_eq_self.2 fun s _ => by simp]
  exact pl_sum _ (firsts_spec _).1 ps
theorem lt_len {l : List Nat} {m : Nat} (h : l.Nodup) (h1 : ∀ n ∈ l, n < m) : l.length ≤ m := by
  have := h.length_le_of_subset (l₂ := List.range m) fun n hn => List.mem_range.2 (h1 n hn)
  rwa [List.length_range] at this
/-- the names of these stamps -/
def outL (S : List (List UInt8)) (seen : List Nat) : List (List UInt8) := seen.map fun n => S.getD n []
theorem outL_all {S : List (List UInt8)} {seen : List Nat} (h : seen.Nodup) (h1 : ∀ n ∈ seen, n < S.length) (h2 : ∀ n, n < S.length → n ∈ seen) : (outL S seen).Perm S := by
  have hp : seen.Perm (List.range S.length) := (List.perm_ext_iff_of_nodup h List.nodup_range).2 fun n => ⟨fun k => List.mem_range.2 (h1 n k), fun k => h2 n (List.mem_range.1 k)⟩
  have := hp.map fun n => S.getD n []
  refine this.trans (List.Perm.of_eq ?_)
  apply List.ext_getElem
  · simp
  · intro i hi hj
    rw [List.getElem_map, List.getElem_range, List.getD_eq_getElem?_getD, List.getElem?_eq_getElem hj]
    rfl
theorem At.buf {b : Nat} {x y : AObj} {H H' : Heap} (h : Heap.At b x y H H') (q : Option Cap) : Heap.At b x y (bufH q H) (bufH q H') := by
  cases q with
  | none => exact h
  | some c => exact .there h
theorem mem_buf {p : Nat × AObj} {H : Heap} (h : p ∈ H) (q : Option Cap) : p ∈ bufH q H := (bufH_sub q H).subset h
theorem capH_sub (cp : List UInt8 → Cap) (ord : List (List UInt8)) (H : Heap) : H.Sublist (capH cp ord H) := List.sublist_append_right _ _
theorem capH_mem {cp : List UInt8 → Cap} {ord : List (List UInt8)} {H : Heap} {p : Nat × AObj} (h : p ∈ H) : p ∈ capH cp ord H := List.mem_append.2 (Or.inr h)
set_option maxRecDepth 100000 in
set_option maxHeartbeats 4000000 in
theorem Reach_con (o o' : Own) (list : List Dc) (ns : List (List UInt8)) (hl : list.length ≤ 1000) (hns : ns.length ≤ 1000000) (hc : ∀ d ∈ list, d.ctors.length ≤ 100) :
    Ans Tryz.prog 33 [.sl o 15 (list.map dcX), .sl o' 1 (ns.map .str)] (stsX (dReach list ns)) := by
  intro H Q hq
  have hll : (list.map dcX).length = list.length := List.length_map _
  have hnl := len_strs ns
  have hprl := prs_len hc
  refine con_of_sem tab_ok Tryz.func33 rfl (ent Tryz.func33 (by kernel_rfl) rfl) (by kernel_rfl) ?_
  intro hw hn
  clear hw hn
  refine sem_seq (esc := [19].contains) tab_ok mixed ?_
  refine sem_seq (esc := [19].contains) tab_ok mixed ?_
  intro bo hbo bs hbs bd hbd bw hbw
  -- which declarations declare a name
  refine sem_join (esc := [19].contains) tab_ok mixed (X := List UInt8 → Cap) (fun cp => ⟨[(1, .g (.sl o' 1 (ns.map .str))), (4, .g (.sl .full 0 [])), (5, .g (.ptr bw 0))], [], vH o bw bd bs bo list (ofE cp (prs list)) (pkeys (prs list)).length ([], []) H⟩) (fun _ => True) ?_ (fun cp _ => ?_)
  · refine ⟨Nat × (List UInt8 → Cap) × List (List UInt8), fun x => ⟨[(1, .g (.sl o' 1 (ns.map .str))), (4, .g (.sl .full 0 [])), (5, .g (.ptr bw 0)), (20, .g (.sl o 15 (list.map dcX))), (21, .g (.i list.length)), (22, .g (.i x.1))], [], capH x.2.1 x.2.2 (vH o bw bd bs bo list (ofE x.2.1 (prs (list.take x.1))) (pkeys (prs (list.take x.1))).length ([], []) H)⟩,
      fun x => x.1 ≤ list.length ∧ OrdOk x.2.2 (prs (list.take x.1)), fun x => list.length - x.1, ⟨(0, (fun _ => ⟨0, 0, 0⟩), []), ⟨Nat.zero_le _, List.nodup_nil, fun s => Iff.rfl⟩, ?_⟩, ?_⟩
    · refine ⟨⟨Le.refl _, Le.refl _, Le.refl _, Le.refl _, le_of_eq (by show AV.i _ = AV.i _; rw [hll]), Le.refl _, trivial⟩, trivial, List.Sublist.refl _⟩
    · rintro ⟨k, cp, ord⟩ ⟨hk, hord⟩
      simp only at hk hord
      refine ifB_dec (fun h => ?_) (fun h => ?_)
      · have hlt : k < list.length := by omega
        have hct := hc _ (List.getElem_mem hlt)
        obtain ⟨nm, hnm⟩ : ∃ nm, dNames list[k] = nm := ⟨_, rfl⟩
        have hend := prK_end hlt
        have hnml := dNames_len list[k]
        rw [hnm] at hend hnml
        have hnms := len_strs nm
        refine ⟨k, rfl, _, dcAt hlt, ?_⟩
        refine ⟨_, LeL.refl _, (Names_con list[k] (by omega)).to (congrArg stsX hnm) _ _ ?_⟩
        intro hz1 hz2; clear hz1 hz2
        refine ⟨Nat × (List UInt8 → Cap) × List (List UInt8), fun x => ⟨[(1, .g (.sl o' 1 (ns.map .str))), (4, .g (.sl .full 0 [])), (5, .g (.ptr bw 0)), (6, .g (.i k)), (20, .g (.sl o 15 (list.map dcX))), (21, .g (.i list.length)), (22, .g (.i k)), (28, .g (stsX nm)), (29, .g (.i nm.length)), (30, .g (.i x.1))], [], capH x.2.1 x.2.2 (vH o bw bd bs bo list (ofE x.2.1 (prK list k nm x.1)) (pkeys (prK list k nm x.1)).length ([], []) H)⟩,
          fun x => x.1 ≤ nm.length ∧ OrdOk x.2.2 (prK list k nm x.1), fun x => nm.length - x.1, ⟨(0, cp, ord), ⟨Nat.zero_le _, by simp only; rw [prK_zero]; exact hord⟩, ?_⟩, ?_⟩
        · refine ⟨⟨Le.refl _, Le.refl _, Le.refl _, Le.refl _, Le.refl _, Le.refl _, Le.refl _, Le.refl _, le_of_eq (by show AV.i _ = AV.i _; rw [hnms]), Le.refl _, trivial⟩, trivial, sub_eq ?_⟩
          show capH cp ord (vH o bw bd bs bo list (ofE cp (prK list k nm 0)) (pkeys (prK list k nm 0)).length ([], []) H) = capH cp ord (vH o bw bd bs bo list (ofE cp (prs (list.take k))) (pkeys (prs (list.take k))).length ([], []) H)
          rw [prK_zero]
        · rintro ⟨j, cp, ord⟩ ⟨hj, hord⟩
          simp only at hj hord
          refine ifB_dec (fun hj2 => ?_) (fun hj2 => ?_)
          · have hltj : j < nm.length := by omega
            have hsn := prK_snoc (list := list) (k := k) hltj
            obtain ⟨ps, hps⟩ : ∃ ps, ps = prK list k nm j := ⟨_, rfl⟩
            have hpin : (bw, AObj.cells [.mp bo, .sl o 15 (list.map dcX), .mp bs, .mp bd]) ∈ capH cp ord (vH o bw bd bs bo list (ofE cp (prK list k nm j)) (pkeys (prK list k nm j)).length ([], []) H) := capH_mem List.mem_cons_self
            have hmp : (bo, AObj.mp (ofE cp (prK list k nm j)) (pkeys (prK list k nm j)).length) ∈ capH cp ord (vH o bw bd bs bo list (ofE cp (prK list k nm j)) (pkeys (prK list k nm j)).length ([], []) H) := capH_mem m3
            have hend2 : ∀ c : Cap, (c.b, AObj.cap c) :: capH cp (ord.erase nm[j]) (vH o bw bd bs bo list (ofE (updC cp nm[j] c) (prK list k nm j ++ [(nm[j], k)])) (pkeys (prK list k nm j ++ [(nm[j], k)])).length ([], []) H) = capH (updC cp nm[j] c) (nm[j] :: ord.erase nm[j]) (vH o bw bd bs bo list (ofE (updC cp nm[j] c) (prK list k nm (j + 1))) (pkeys (prK list k nm (j + 1))).length ([], []) H) := fun c => by
              rw [cap_upd hord.1, hsn]
            have hat : ∀ c : Cap, Heap.At bo (.mp (ofE cp (prK list k nm j)) (pkeys (prK list k nm j)).length) (.mp (ofE (updC cp nm[j] c) (prK list k nm j ++ [(nm[j], k)])) (pkeys (prK list k nm j ++ [(nm[j], k)])).length) ((c.b, AObj.cap c) :: capH cp (ord.erase nm[j]) (vH o bw bd bs bo list (ofE cp (prK list k nm j)) (pkeys (prK list k nm j)).length ([], []) H)) (capH (updC cp nm[j] c) (nm[j] :: ord.erase nm[j]) (vH o bw bd bs bo list (ofE (updC cp nm[j] c) (prK list k nm (j + 1))) (pkeys (prK list k nm (j + 1))).length ([], []) H)) := fun c => by
              rw [← hend2 c]
              exact .there (At.after (.there (.there (.there .here))) _)
            have hpll := plOf_len (prK list k nm j) nm[j]
            have hprk := prK_len hc k nm j
            have hord2 : OrdOk (nm[j] :: ord.erase nm[j]) (prK list k nm (j + 1)) := by rw [hsn]; exact hord.next nm[j] k
            refine ⟨j, rfl, _, stAt hltj, ?_⟩
            refine ⟨[0, 1, 2, 3, 4, 5, 6, 7, 8, 9, 11, 12, 10, 13, 14], [(bw, .cells [.mp bo, .sl o 15 (list.map dcX), .mp bs, .mp bd])], by kernel_rfl, pin1 hpin, ?_⟩
            refine ⟨_, List.mem_singleton.2 rfl, ?_⟩
            refine ⟨_, List.mem_singleton.2 rfl, ?_⟩
            by_cases hm : nm[j] ∈ pkeys (prK list k nm j)
            · obtain ⟨n0, hfind⟩ := of_yes (cp := cp) hm
              refine ⟨ofE cp (prK list k nm j), (pkeys (prK list k nm j)).length, _, rfl, hmp, of_keys _ _ _, hfind, ?_⟩
              refine ⟨pin1 hpin, ?_⟩
              refine ⟨(by rw [List.length_map]; show (_ + 1) * (8 + 1) ≤ 140737488355328; omega), capH cp (ord.erase nm[j]) (vH o bw bd bs bo list (ofE cp (prK list k nm j)) (pkeys (prK list k nm j)).length ([], []) H), cap_rem ((hord.2 _).2 hm), fun c hcb => ?_⟩
              refine ⟨pin1 (List.mem_cons_of_mem _ (capH_mem List.mem_cons_self)), ?_⟩
              refine ⟨_, _, _, _, _, hat c, of_keys _ _ _, of_put cp _ nm[j] k c, ?_⟩
              refine ⟨pin1 (capH_mem List.mem_cons_self), ?_⟩
              refine ⟨in64_of (by first | omega | (dsimp only; omega)) (by first | omega | (dsimp only; omega)), ?_⟩
              refine ⟨(j + 1, updC cp nm[j] c, nm[j] :: ord.erase nm[j]), ⟨by simp only; omega, hord2⟩, by (try dsimp only); omega, ?_⟩
              (constructor <;> repeat' (first | exact trivial | exact ⟨rfl, rfl⟩ | exact ⟨rfl, LeL.refl _⟩ | exact Le.refl _ | exact List.Sublist.refl _ | (show Le (AV.i _) (AV.i _); rw [List.length_map]; exact Le.refl _) | refine And.intro ?_ ?_))
            · refine ⟨ofE cp (prK list k nm j), (pkeys (prK list k nm j)).length, _, rfl, hmp, of_keys _ _ _, of_no hm, ?_⟩
              have hno : nm[j] ∉ ord := fun h => hm ((hord.2 _).1 h)
              have hat2 := hat
              rw [List.erase_of_not_mem hno] at hat2
              refine ⟨pin1 hpin, ?_⟩
              refine ⟨(by show (0 + 1) * (8 + 1) ≤ 140737488355328; decide), fun c hcb => ?_⟩
              refine ⟨pin1 (List.mem_cons_of_mem _ hpin), ?_⟩
              refine ⟨_, _, _, _, _, hat2 c, of_keys _ _ _, of_new hm k c, ?_⟩
              refine ⟨pin1 (capH_mem List.mem_cons_self), ?_⟩
              refine ⟨in64_of (by first | omega | (dsimp only; omega)) (by first | omega | (dsimp only; omega)), ?_⟩
              refine ⟨(j + 1, updC cp nm[j] c, nm[j] :: ord), ⟨by simp only; omega, by rw [List.erase_of_not_mem hno] at hord2; exact hord2⟩, by (try dsimp only); omega, ?_⟩
              (constructor <;> repeat' (first | exact trivial | exact ⟨rfl, rfl⟩ | exact ⟨rfl, LeL.refl _⟩ | exact Le.refl _ | exact List.Sublist.refl _ | (show Le (AV.i _) (AV.i _); rw [List.length_map]; exact Le.refl _) | refine And.intro ?_ ?_))
          · have hj' : j = nm.length := by omega
            subst hj'
            rw [hend] at hord
            refine ⟨in64_of (by first | omega | (dsimp only; omega)) (by first | omega | (dsimp only; omega)), ?_⟩
            refine ⟨(k + 1, cp, ord), ⟨by simp only; omega, hord⟩, by (try dsimp only); omega, ?_⟩
            refine ⟨⟨Le.refl _, Le.refl _, Le.refl _, Le.refl _, Le.refl _, Le.refl _, trivial⟩, trivial, sub_eq ?_⟩
            show capH cp ord (vH o bw bd bs bo list (ofE cp (prs (list.take (k + 1)))) (pkeys (prs (list.take (k + 1)))).length ([], []) H) = capH cp ord (vH o bw bd bs bo list (ofE cp (prK list k nm nm.length)) (pkeys (prK list k nm nm.length)).length ([], []) H)
            rw [hend]
      · have hk' : k = list.length := by omega
        subst hk'
        refine ⟨cp, trivial, ⟨Le.refl _, Le.refl _, Le.refl _, trivial⟩, trivial, ?_⟩
        have := capH_sub cp ord (vH o bw bd bs bo list (ofE cp (prs (list.take list.length))) (pkeys (prs (list.take list.length))).length ([], []) H)
        have e : vH o bw bd bs bo list (ofE cp (prs (list.take list.length))) (pkeys (prs (list.take list.length))).length ([], []) H = vH o bw bd bs bo list (ofE cp (prs list)) (pkeys (prs list)).length ([], []) H := by rw [List.take_length]
        rw [e] at this
        exact this.trans (sub_eq (by show capH cp ord (vH o bw bd bs bo list (ofE cp (prs list)) (pkeys (prs list)).length ([], []) H) = capH cp ord (vH o bw bd bs bo list (ofE cp (prs (list.take list.length))) (pkeys (prs (list.take list.length))).length ([], []) H); rw [List.take_length]))
  -- all that the names lead to
  have hkn : (pkeys (prs list)).Nodup := (firsts_spec _).1
  have hpl : ∀ s, ∀ i ∈ plOf (prs list) s, i < list.length := fun s i h => (prs_mem.1 (plOf_mem.1 h)).1
  have hp0 := pot_zero (prs list)
  have hf0 : free (pkeys (prs list)) ([], []) ≤ (prs list).length := Nat.le_trans (List.length_filter_le _ _) (pkeys_len _)
  have hV : ∀ s σ, Sg.le σ (vis (plOf (prs list)) (ndOf list) (prs list).length s σ) := fun s σ => vis_le _ s σ
  refine sem_join (esc := [19].contains) tab_ok mixed (X := Sg) (fun τ => ⟨[(4, .g (.sl .full 0 [])), (5, .g (.ptr bw 0))], [], vH o bw bd bs bo list (ofE cp (prs list)) (pkeys (prs list)).length τ H⟩) (fun τ => dSeen list ns = τ) ?_ (fun τ hτ => ?_)
  · refine ⟨Nat × Sg, fun x => ⟨[(4, .g (.sl .full 0 [])), (5, .g (.ptr bw 0)), (50, .g (.sl o' 1 (ns.map .str))), (51, .g (.i ns.length)), (52, .g (.i x.1))], [], vH o bw bd bs bo list (ofE cp (prs list)) (pkeys (prs list)).length x.2 H⟩,
      fun x => x.1 ≤ ns.length ∧ (ns.take x.1).foldl (fun σ n => vis (plOf (prs list)) (ndOf list) (prs list).length n σ) ([], []) = x.2, fun x => ns.length - x.1, ⟨(0, ([], [])), ⟨Nat.zero_le _, rfl⟩, ?_⟩, ?_⟩
    · refine ⟨⟨Le.refl _, Le.refl _, Le.refl _, le_of_eq (by show AV.i _ = AV.i _; rw [hnl]), Le.refl _, trivial⟩, trivial, List.Sublist.refl _⟩
    · rintro ⟨k, τ⟩ ⟨hk, hτ⟩
      simp only at hk hτ
      refine ifB_dec (fun h => ?_) (fun h => ?_)
      · have hlt : k < ns.length := by omega
        have hsk := foldl_take (fun σ n => vis (plOf (prs list)) (ndOf list) (prs list).length n σ) (([], []) : Sg) hlt
        have hfk := free_le (keys := pkeys (prs list)) (fold_le (vis (plOf (prs list)) (ndOf list) (prs list).length) hV (ns.take k) ([], []))
        have hpk := foldv_pot (nd := ndOf list) hkn pkeys_all (prs list).length (ns.take k) ([], [])
        rw [hτ] at hsk hfk hpk
        simp only [List.length_nil, Nat.zero_add] at hpk
        refine ⟨k, rfl, _, stAt hlt, ?_⟩
        refine ⟨_, LeL.refl _, walkVisit_con o hkn pkeys_all hpl hc (of_ok cp (prs list)) (prs list).length ns[k] τ (by omega) (by omega) _ ?_⟩
        intro hz1 hz2; clear hz1 hz2
        refine ⟨in64_of (by first | omega | (dsimp only; omega)) (by first | omega | (dsimp only; omega)), ?_⟩
        refine ⟨(k + 1, vis (plOf (prs list)) (ndOf list) (prs list).length ns[k] τ), ⟨by simp only; omega, hsk⟩, by (try dsimp only); omega, ?_⟩
        (constructor <;> repeat' (first | exact trivial | exact ⟨rfl, rfl⟩ | exact ⟨rfl, LeL.refl _⟩ | exact Le.refl _ | exact List.Sublist.refl _ | (show Le (AV.i _) (AV.i _); rw [List.length_map]; exact Le.refl _) | refine And.intro ?_ ?_))
      · have hk' : k = ns.length := by omega
        subst hk'
        rw [List.take_length] at hτ
        refine ⟨τ, hτ, ?_⟩
        (constructor <;> repeat' (first | exact trivial | exact ⟨rfl, rfl⟩ | exact ⟨rfl, LeL.refl _⟩ | exact Le.refl _ | exact List.Sublist.refl _ | (show Le (AV.i _) (AV.i _); rw [List.length_map]; exact Le.refl _) | refine And.intro ?_ ?_))
  obtain ⟨⟨hnd, hne⟩, _, _, _⟩ := dSeen_spec list ns
  rw [hτ] at hnd hne
  obtain ⟨S, hS⟩ : ∃ S, firsts τ.1 = S := ⟨_, rfl⟩
  have hperm : S.Perm τ.1 := by rw [← hS]; exact firsts_of_nodup hnd
  have hans : ∀ out : List (List UInt8), out.Perm S → nmSort out = dReach list ns := fun out h => by
    rw [dReach, hτ]
    exact nmSort_perm (h.trans hperm)
  have hSl : S.length ≤ 1000000 := by
    have h1 := hnd.length_le_of_subset (l₂ := pkeys (prs list)) fun s hs => pkeys_mem.2 (hne s hs)
    have h2 := pkeys_len (prs list)
    have h3 := hperm.length_eq
    omega
  have hgetD : ∀ n (h : n < S.length), S.getD n [] = S[n] := fun n h => by
    rw [List.getD_eq_getElem?_getD, List.getElem?_eq_getElem h]
    rfl
  have hen : ∀ p ∈ talE .str τ.1, p.1 < S.length ∧ p.2.1 = .str (S.getD p.1 []) := fun p hp => by
    obtain ⟨_, _, h3, h4, _⟩ := kE_mem hp
    subst hS
    simp only [Nat.sub_zero] at h3 h4
    exact ⟨h3, by rw [h4, hgetD _ h3]⟩
  have hget : ∀ n, n < S.length → ∃ p ∈ talE .str τ.1, p.1 = n := fun n h => by
    subst hS
    have := kE_get (kx := AV.str) (v := talV τ.1) (n := 0) h
    rw [Nat.zero_add] at this
    exact ⟨_, this, rfl⟩
  have hstn := kE_nodup (kx := AV.str) (talV τ.1) (firsts τ.1) 0
  have hclk : (firsts τ.1).length = S.length := by rw [hS]
  have hsubH : ∀ (q : Option Cap) (p : Nat × AObj), H.Sublist (bufH q (p :: vH o bw bd bs bo list (ofE cp (prs list)) (pkeys (prs list)).length τ H)) := fun q p => (((((List.sublist_cons_self _ _).trans (List.sublist_cons_self _ _)).trans (List.sublist_cons_self _ _)).trans (List.sublist_cons_self _ _)).trans (List.sublist_cons_self _ _)).trans (bufH_sub q _)
  refine sem_of (esc := [19].contains) tab_ok mixed ?_
  refine ⟨_, List.mem_cons_self, ?_⟩
  refine ⟨talE .str τ.1, (firsts τ.1).length, m2, fun it hit => ?_⟩
  refine ⟨Option Cap × List Nat, fun x => ⟨[(4, .g (.sl .full 0 [])), (12, .g (.sl (ownQ x.1) 1 ((outL S x.2).map .str))), (64, .g (.ptr it 0))], [], bufH x.1 ((it, itO bs (firsts τ.1).length x.2 (firsts τ.1).length) :: vH o bw bd bs bo list (ofE cp (prs list)) (pkeys (prs list)).length τ H)⟩,
    fun x => x.2.Nodup ∧ ∀ n ∈ x.2, n < S.length, fun x => S.length - x.2.length, ⟨(none, []), ⟨List.nodup_nil, nofun⟩, ?_⟩, ?_⟩
  · exact ⟨⟨Le.refl _, Le.nil' _, Le.refl _, trivial⟩, trivial, List.Sublist.refl _⟩
  · rintro ⟨q, seen⟩ ⟨hsn, hsl⟩
    simp only at hsn hsl
    have hsle := lt_len hsn hsl
    have hol : (outL S seen).length = seen.length := List.length_map _
    refine ⟨bs, (firsts τ.1).length, seen, talE .str τ.1, mem_buf List.mem_cons_self q, mem_buf (List.mem_cons_of_mem _ m2) q, fun p hp => by rw [hclk]; exact (hen p hp).1, fun hall => ?_, ?_⟩
    · have hp : (outL S seen).Perm S := outL_all hsn hsl fun n h => by
        obtain ⟨p, hp, rfl⟩ := hget n h
        exact hall p hp
      refine ⟨_, LeL.refl _, (nameSort_con (ownQ q) (outL S seen) (by omega)).to (congrArg stsX (hans _ hp)) _ _ ?_⟩
      intro hz1 hz2; clear hz1 hz2
      exact ⟨_, H, Le.refl _, hsubH q _, hq⟩
    · rintro ⟨n, kv, xv⟩ hp hns
      obtain ⟨hlt, hkv⟩ := hen _ hp
      simp only at hlt hkv hns
      subst hkv
      have hsn2 : (seen ++ [n]).Nodup := by
        rw [List.nodup_append]
        refine ⟨hsn, by simp, fun a ha b hb => ?_⟩
        rw [List.mem_singleton] at hb
        subst hb
        rintro rfl
        exact hns ha
      have hsl2 : ∀ m ∈ seen ++ [n], m < S.length := fun m hm => by
        rcases List.mem_append.1 hm with hm | hm
        · exact hsl m hm
        · rw [List.mem_singleton] at hm; subst hm; exact hlt
      have hle2 := lt_len hsn2 hsl2
      rw [List.length_append] at hle2
      simp only [List.length_cons, List.length_nil] at hle2
      refine ⟨_, At.buf .here q, ?_⟩
      refine ⟨bs, (firsts τ.1).length, seen, talE .str τ.1, (n, .str (S.getD n []), xv), mem_buf List.mem_cons_self q, mem_buf (List.mem_cons_of_mem _ m2) q, hp, hstn, ?_⟩
      refine ⟨?_, ?_⟩
      · simp only [List.length_map, List.length_cons, List.length_nil]
        try simp only [List.length_take]
        show _ * (16 + 1) ≤ _
        omega
      refine own_of (q := q) (H0 := ((it, itO bs (firsts τ.1).length (seen ++ [n]) (firsts τ.1).length) :: vH o bw bd bs bo list (ofE cp (prs list)) (pkeys (prs list)).length τ H)) ?_ ?_ ?_ (fun c hc => ?_)
      · exact rfl
      · exact rfl
      · exact fun _ h => h
      refine ⟨(some c, seen ++ [n]), ⟨hsn2, hsl2⟩, by simp only [List.length_append, List.length_cons, List.length_nil]; omega, ?_⟩
      refine ⟨⟨Le.refl _, le_of_eq ?_, Le.refl _, trivial⟩, trivial, List.Sublist.refl _⟩
      show AV.sl (.own c) 1 ((outL S seen).map .str ++ [.str (S.getD n [])]) = AV.sl (.own c) 1 ((outL S (seen ++ [n])).map .str)
      rw [outL, outL, List.map_append, List.map_append]
      rfl
end Go.Proofs.YtjmmacbblnjogaaGreatDoor

/-
  Law 09's helpers: what is alive, what is too great; copies of texts. No condition.
-/
namespace Go.Proofs.YtjmmacbblnjogaaGreatDoor
open Go.RowKit

theorem once_sorted {l : List (List UInt8)} (h : l.Pairwise fun a b => a ≤ b) : (stsOnce l).Pairwise fun a b => a ≤ b := by
  unfold stsOnce Lib.compact Lib.compactUpTo
  rw [List.pairwise_map]
  refine (List.Pairwise.filter _ (List.pairwise_lt_range (n := l.length))).imp_of_mem fun {i j} _ hj hij => ?_
  have hjn : j < l.length := by simpa using List.mem_range.1 (List.mem_filter.1 hj).1
  rw [getElem!_pos l.toArray j (by simpa using hjn), getElem!_pos l.toArray i (by simp; omega)]
  exact List.pairwise_iff_getElem.1 h i j (by omega) hjn hij
theorem nmSort_eq {l r : List (List UInt8)} (h1 : r.Nodup) (h2 : r.Pairwise fun a b => a ≤ b) (h : ∀ s, s ∈ l ↔ s ∈ r) : nmSort l = r :=
  List.Perm.eq_of_pairwise (le := fun a b => a ≤ b) (fun _ _ _ _ h k => List.le_antisymm h k) (once_sorted (stsSort_sorted l)) h2 ((List.perm_ext_iff_of_nodup (nmSort_nodup l) h1).2 fun s => by rw [nmSort_mem]; exact h s)
def c9 (s : List UInt8) : Tm := .mk 3 0 s [] []
def nT : List UInt8 := [116]
def nN : List UInt8 := [110]
def nX : List UInt8 := [120]
def nZ : List UInt8 := [110, 46, 122]
def nR : List UInt8 := [110, 46, 114, 101, 99]
def dN : Dc := ⟨5, 0, nN, c9 nT, tm0, 0, [⟨nZ, c9 nN⟩]⟩
def dX : Dc := ⟨2, 0, nX, c9 nN, c9 nZ, 0, []⟩
theorem consts9 {s : List UInt8} (h : nameOk s = true) : tmConsts (c9 s) = [s] := by
  have hr : tmRight 4 1125899906842624 (c9 s) = true := by
    unfold tmRight
    simp only [Bool.and_eq_true, decide_eq_true_eq]
    refine ⟨⟨⟨by decide, by decide⟩, by simp [c9, Tm.nodes, Tm.nodesL, Lv.nodesL]⟩, ?_⟩
    unfold c9
    rw [tmFit, tmFitL]
    simp [tmNode, lvRightL, h]
  rw [tmConsts, if_pos hr]
  exact nmSort_eq (by simp) (by simp) fun s => Iff.rfl
theorem consts0 : tmConsts tm0 = [] := by
  rw [tmConsts, if_neg (by decide)]
theorem ok9 : nameOk nT = true ∧ nameOk nN = true ∧ nameOk nZ = true := ⟨by decide, by decide, by decide⟩
theorem names_n : dNames dN = [nN, nZ, nR] := by decide
theorem names_x : dNames dX = [nX] := by decide
theorem all_n : dAll dN = [nT, nN] := by
  show tmConsts (c9 nT) ++ tmConsts tm0 ++ ([tmConsts (c9 nN)]).flatten = _
  rw [consts9 ok9.1, consts9 ok9.2.1, consts0]; rfl
theorem all_x : dAll dX = [nN, nZ] := by
  show tmConsts (c9 nN) ++ tmConsts (c9 nZ) ++ ([] : List (List (List UInt8))).flatten = _
  rw [consts9 ok9.2.1, consts9 ok9.2.2]; rfl
theorem needs_n : dNeeds dN = [nT] := by
  rw [dNeeds, all_n, names_n]
  exact nmSort_eq (by decide) (by decide) fun s => by simp [nT, nN, nZ, nR]
theorem needs_x : dNeeds dX = [nN, nZ] := by
  rw [dNeeds, all_x, names_x]
  exact nmSort_eq (by decide) (by decide) fun s => by simp [nX, nN, nZ]
theorem first_a : dFirst [dN, dX] [nT] 0 = (0, [], false) := by
  rw [dFirst, needs_n, names_n, dFirst, needs_x]; rfl
theorem first_b : dFirst [dX, dN] [nT, nN] 0 = (0, nZ, true) := by
  rw [dFirst, needs_x]; rfl
theorem clash_a : dClash [[], [97]] [[97], []] = ([97], true) := by rfl
theorem reach_a : dReach [dN, dX] [nX] = [nN, nZ, nX] := by
  have hp : prs [dN, dX] = [(nN, 0), (nZ, 0), (nR, 0), (nX, 1)] := by
    show (dNames dN).map (fun s => (s, 0)) ++ ((dNames dX).map (fun s => (s, 1)) ++ []) = _
    rw [names_n, names_x]; rfl
  have hn : ndOf [dN, dX] = fun i => if i = 0 then [nT] else if i = 1 then [nN, nZ] else dNeeds dc0 := by
    funext i
    match i with
    | 0 => exact needs_n
    | 1 => exact needs_x
    | i + 2 => rfl
  rw [dReach, dSeen, hp, hn]
  have hv : (visAll (plOf [(nN, 0), (nZ, 0), (nR, 0), (nX, 1)]) (fun i => if i = 0 then [nT] else if i = 1 then [nN, nZ] else dNeeds dc0) 4 [nX]).1 = [nX, nN, nZ] := by rfl
  rw [show ([(nN, 0), (nZ, 0), (nR, 0), (nX, 1)] : List (List UInt8 × Nat)).length = 4 from rfl, hv]
  exact nmSort_eq (by decide) (by decide) fun s => by
    simp only [List.mem_cons, List.not_mem_nil, or_false]
    constructor
    · rintro (h | h | h) <;> simp [h]
    · rintro (h | h | h) <;> simp [h]
set_option maxRecDepth 100000 in
theorem constant9_con (s : List UInt8) : Ans Tryz.prog 62 [.str s] (tmX (c9 s)) := by
  intro H Q hq
  refine con_of_awp (esc := fun _ => false) tab_ok mixed Tryz.func62 rfl (ent Tryz.func62 (by kernel_rfl) rfl) (by kernel_rfl) ?_
  intro hw hn
  have hfin : Le (.agg [.i 3, .i 0, .str s, .sl .full 0 [], .sl .full 0 []]) (tmX (c9 s)) := Le.agg ⟨Le.refl _, Le.refl _, Le.refl _, Le.nil _ _, Le.nil _ _, trivial⟩
  exact ⟨_, H, hfin, List.Sublist.refl _, hq⟩
theorem c_dcs (o : Own) (a b : Dc) : Le (.sl o 15 [dcX a, dcX b]) (.sl o 15 ([a, b].map dcX)) := Le.refl _
set_option maxRecDepth 100000 in
set_option maxHeartbeats 2000000 in
theorem alive9_con : Ans Tryz.prog 29 [] (.b true) := by
  intro H Q hq
  refine con_of_sem tab_ok Tryz.func29 rfl (ent Tryz.func29 (by kernel_rfl) rfl) (by kernel_rfl) ?_
  intro hw hn
  clear hw hn
  have hz : ∀ d ∈ [dN, dX], d.ctors.length ≤ 100 := by decide
  have hz2 : ∀ d ∈ [dX, dN], d.ctors.length ≤ 100 := by decide
  refine sem_seq (esc := fun _ => false) tab_ok mixed ?_
  refine sem_seq (esc := fun _ => false) tab_ok mixed ?_
  refine ⟨_, LeL.refl _, constant9_con nT _ _ ?_⟩
  intro hz1 hz2; clear hz1 hz2
  refine ⟨_, LeL.refl _, constant9_con nN _ _ ?_⟩
  intro hz1 hz2; clear hz1 hz2
  refine sem_le ⟨[(0, .g (.b false)), (1, .lp 1 0)], [(1, (dcX dN).cells)], H⟩ ?_ ?_
  · exact ⟨⟨Le.refl _, ⟨rfl, rfl⟩, trivial⟩, ⟨⟨rfl, ⟨Le.refl _, Le.refl _, Le.refl _, Le.refl _, Le.refl _, Le.refl _, Le.refl _, Le.refl _, Le.refl _, Le.refl _, Le.refl _, Le.nil _ _, Le.nil _ _, Le.refl _, Le.own _ _ _, trivial⟩⟩, trivial⟩, List.Sublist.refl _⟩
  refine sem_seq (esc := fun _ => false) tab_ok mixed ?_
  refine ⟨_, LeL.refl _, constant9_con nN _ _ ?_⟩
  intro hz1 hz2; clear hz1 hz2
  refine ⟨_, LeL.refl _, constant9_con nZ _ _ ?_⟩
  intro hz1 hz2; clear hz1 hz2
  refine sem_le ⟨[(0, .g (.b false)), (1, .lp 1 0), (2, .lp 2 0)], [(2, (dcX dX).cells), (1, (dcX dN).cells)], H⟩ ?_ ?_
  · exact ⟨⟨Le.refl _, ⟨rfl, rfl⟩, ⟨rfl, rfl⟩, trivial⟩, ⟨⟨rfl, ⟨Le.refl _, Le.refl _, Le.refl _, Le.refl _, Le.refl _, Le.refl _, Le.refl _, Le.refl _, Le.refl _, Le.refl _, Le.refl _, Le.refl _, Le.refl _, Le.refl _, Le.nil _ _, trivial⟩⟩, ⟨rfl, LeL.refl _⟩, trivial⟩, List.Sublist.refl _⟩
  refine sem_seq (esc := fun _ => false) tab_ok mixed ?_
  refine ⟨_, LeL.refl _, (First_con .full .full [dN, dX] [nT] (by decide) (by decide) hz).to (by rw [first_a]) _ _ ?_⟩
  intro hz1 hz2; clear hz1 hz2
  refine sem_le ⟨[(0, .g (.b false)), (1, .lp 1 0), (2, .lp 2 0), (3, .g (.i 0)), (4, .g (.str [])), (5, .g (.b false))], [(2, (dcX dX).cells), (1, (dcX dN).cells)], H⟩ ?_ ?_
  · (constructor <;> repeat' (first | exact trivial | exact ⟨rfl, rfl⟩ | exact ⟨rfl, LeL.refl _⟩ | exact Le.refl _ | exact List.Sublist.refl _ | (show Le (AV.i _) (AV.i _); rw [List.length_map]; exact Le.refl _) | refine And.intro ?_ ?_))
  refine sem_seq (esc := fun _ => false) tab_ok mixed ?_
  refine ⟨_, LeL.refl _, (First_con .full .full [dX, dN] [nT, nN] (by decide) (by decide) hz2).to (by rw [first_b]) _ _ ?_⟩
  intro hz1 hz2; clear hz1 hz2
  refine sem_le ⟨[(0, .g (.b false)), (1, .lp 1 0), (2, .lp 2 0), (3, .g (.i 0)), (4, .g (.str [])), (5, .g (.b false)), (6, .g (.i 0)), (7, .g (.str nZ)), (8, .g (.b true))], [(2, (dcX dX).cells), (1, (dcX dN).cells)], H⟩ ?_ ?_
  · (constructor <;> repeat' (first | exact trivial | exact ⟨rfl, rfl⟩ | exact ⟨rfl, LeL.refl _⟩ | exact Le.refl _ | exact List.Sublist.refl _ | (show Le (AV.i _) (AV.i _); rw [List.length_map]; exact Le.refl _) | refine And.intro ?_ ?_))
  refine sem_seq (esc := fun _ => false) tab_ok mixed ?_
  refine ⟨_, LeL.refl _, (Clash_con .full .full [[], [97]] [[97], []]).to (by rw [clash_a]) _ _ ?_⟩
  intro hz1 hz2; clear hz1 hz2
  refine sem_le ⟨[(0, .g (.b false)), (1, .lp 1 0), (2, .lp 2 0), (3, .g (.i 0)), (4, .g (.str [])), (5, .g (.b false)), (6, .g (.i 0)), (7, .g (.str nZ)), (8, .g (.b true)), (9, .g (.str [97])), (10, .g (.b true))], [(2, (dcX dX).cells), (1, (dcX dN).cells)], H⟩ ?_ ?_
  · (constructor <;> repeat' (first | exact trivial | exact ⟨rfl, rfl⟩ | exact ⟨rfl, LeL.refl _⟩ | exact Le.refl _ | exact List.Sublist.refl _ | (show Le (AV.i _) (AV.i _); rw [List.length_map]; exact Le.refl _) | refine And.intro ?_ ?_))
  refine sem_seq (esc := fun _ => false) tab_ok mixed ?_
  refine ⟨_, LeL.refl _, (Names_con dN (by decide)).to (congrArg stsX names_n) _ _ ?_⟩
  intro hz1 hz2; clear hz1 hz2
  refine ⟨[stsX [nN, nZ, nR], stsX [nN, nZ, nR]], ⟨Le.refl _, Le.own _ _ _, trivial⟩, (SameTexts_con _ _).as (decide_eq_true rfl) _ _ ?_⟩
  intro hz1 hz2; clear hz1 hz2
  refine ⟨_, LeL.refl _, (Needs_con dN (by decide)).to (congrArg stsX needs_n) _ _ ?_⟩
  intro hz1 hz2; clear hz1 hz2
  refine ⟨[stsX [nT], stsX [nT]], ⟨Le.refl _, Le.own _ _ _, trivial⟩, (SameTexts_con _ _).as (decide_eq_true rfl) _ _ ?_⟩
  intro hz1 hz2; clear hz1 hz2
  refine ⟨_, LeL.refl _, (Reach_con .full .full [dN, dX] [nX] (by decide) (by decide) hz).to (congrArg stsX reach_a) _ _ ?_⟩
  intro hz1 hz2; clear hz1 hz2
  refine ⟨[stsX [nN, nZ, nX], stsX [nN, nZ, nX]], ⟨Le.refl _, Le.own _ _ _, trivial⟩, (SameTexts_con _ _).as (decide_eq_true rfl) _ _ ?_⟩
  intro hz1 hz2; clear hz1 hz2
  refine sem_of (esc := fun _ => false) tab_ok mixed ?_
  exact ⟨_, H, Le.refl _, List.Sublist.refl _, hq⟩
set_option maxRecDepth 100000 in
set_option maxHeartbeats 1000000 in
theorem great9_con (o : Own) (list : List Dc) (H : Heap) (Q : AV → Heap → Prop) (hq : ∀ q : Bool, (q = false → list.length ≤ 20 ∧ ∀ d ∈ list, d.ctors.length ≤ 20) → Q (.b q) H) : Con Tryz.prog 30 [.sl o 15 (list.map dcX)] H Q := by
  have hll : (list.map dcX).length = list.length := List.length_map _
  refine con_of_awp (esc := fun _ => false) tab_ok mixed Tryz.func30 rfl (ent Tryz.func30 (by kernel_rfl) rfl) (by kernel_rfl) ?_
  intro hw hn
  have hmax : list.length ≤ 9223372036854775807 := by
    have := Wf.len (hw (.sl o 15 (list.map dcX)) (by simp))
    simpa using this
  have hnm : ∀ d ∈ list, d.name.length ≤ 1125899906842624 := fun d hd => by
    have := (hw (.sl o 15 (list.map dcX)) (by simp)).elem (x := dcX d) (List.mem_map.2 ⟨_, hd, rfl⟩) (.str d.name) (by simp [dcX, AV.cells])
    exact this.str
  clear hw hn
  refine ifB_dec (fun h0 => ?_) (fun h0 => ?_)
  · exact ⟨_, H, Le.refl _, List.Sublist.refl _, hq true nofun⟩
  refine ⟨Nat × Int, fun x => ⟨[(0, .g (.sl o 15 (list.map dcX))), (2, .g (.b false)), (3, .g (.i x.2)), (4, .g (.i x.1))], [], H⟩, fun x => x.1 ≤ list.length ∧ 0 ≤ x.2 ∧ x.2 ≤ 6000 ∧ ∀ d ∈ list.take x.1, d.ctors.length ≤ 20, fun x => list.length - x.1, ⟨(0, 0), ⟨Nat.zero_le _, by decide, by decide, by simp⟩, ?_⟩, ?_⟩
  · (constructor <;> repeat' (first | exact trivial | exact ⟨rfl, rfl⟩ | exact ⟨rfl, LeL.refl _⟩ | exact Le.refl _ | exact List.Sublist.refl _ | (show Le (AV.i _) (AV.i _); rw [List.length_map]; exact Le.refl _) | refine And.intro ?_ ?_))
  · rintro ⟨k, n⟩ ⟨hk, hn0, hn1, hall⟩
    simp only at hk hn0 hn1 hall
    refine ifB_dec (fun h1 => ?_) (fun h1 => ?_)
    · have hlt : k < list.length := by omega
      have hnk := hnm _ (List.getElem_mem hlt)
      refine ⟨k, rfl, _, dcAt hlt, ?_⟩
      refine ⟨_, LeL.refl _, Great8_in list[k] _ _ fun q hq20 => ?_⟩
      intro hz1 hz2; clear hz1 hz2
      cases q with
      | true => exact ⟨_, H, Le.refl _, List.Sublist.refl _, hq true nofun⟩
      | false =>
        have h20 := hq20 rfl
        refine ⟨[0, 1, 2, 3, 4, 6, 7, 8, 9, 10, 11, 5, 12, 13, 14], [], by kernel_rfl, by simp, ?_⟩
        refine ⟨k, rfl, _, dcAt hlt, k, rfl, _, dcAt hlt, ?_⟩
        refine ⟨_, LeL.refl _, DeclNodes_in list[k] 4000 (by decide) _ _ fun m hm0 hm1 => ?_⟩
        intro hz1 hz2; clear hz1 hz2
        refine ⟨in64_of (by omega) (by omega), in64_of (by simp only; omega) (by simp only; omega), ?_⟩
        refine ifB_dec (fun h2 => ?_) (fun h2 => ?_)
        · exact ⟨_, H, Le.refl _, List.Sublist.refl _, hq true nofun⟩
        · refine ⟨in64_of (by first | omega | (dsimp only; omega)) (by first | omega | (dsimp only; omega)), ?_⟩
          refine ⟨(k + 1, n + (m + list[k].name.length)), ⟨by simp only; omega, by simp only; omega, by simp only; omega, fun d hd => ?_⟩, by (try dsimp only); omega, ?_⟩
          · simp only at hd
            rw [List.take_succ_eq_append_getElem hlt, List.mem_append, List.mem_singleton] at hd
            rcases hd with hd | rfl
            · exact hall d hd
            · exact h20
          (constructor <;> repeat' (first | exact trivial | exact ⟨rfl, rfl⟩ | exact ⟨rfl, LeL.refl _⟩ | exact Le.refl _ | exact List.Sublist.refl _ | (show Le (AV.i _) (AV.i _); rw [List.length_map]; exact Le.refl _) | refine And.intro ?_ ?_))
    · have hk' : k = list.length := by omega
      rw [hk', List.take_length] at hall
      exact ⟨_, H, Le.refl _, List.Sublist.refl _, hq false fun _ => ⟨by omega, hall⟩⟩
set_option maxRecDepth 100000 in
theorem Lengths500_con (ss : List (List UInt8)) (H : Heap) (Q : AV → Heap → Prop) (hq : ∀ n : Int, (n ≤ 500 → ss.length ≤ 500) → Q (.i n) H) : Con Tryz.prog 20 [stsX ss, .i 500] H Q := by
  refine con_of_awp (esc := fun _ => false) tab_ok mixed Tryz.func20 rfl (ent Tryz.func20 (by kernel_rfl) rfl) (by kernel_rfl) ?_
  intro hw hn
  have hlen : ss.length ≤ 9223372036854775807 := (hw (stsX ss) (by simp)).sts
  have hl : ∀ k (hk : k < ss.length), ss[k].length ≤ 1125899906842624 := fun k hk => by
    have := (hw (stsX ss) (by simp)).elem (x := .str ss[k]) (List.mem_map.2 ⟨_, List.getElem_mem hk, rfl⟩) (.str ss[k]) (by simp [AV.cells])
    exact this.str
  clear hw hn
  refine ifB_dec (fun h1 => ?_) (fun h1 => ?_)
  · refine ⟨in64_of (by first | omega | (dsimp only; omega)) (by first | omega | (dsimp only; omega)), ?_⟩
    exact ⟨_, H, Le.refl _, List.Sublist.refl _, hq _ fun h => by omega⟩
  · simp only [List.length_map] at h1
    refine ⟨Nat × Int, fun p => ⟨[(0, .g (stsX ss)), (1, .g (.i 500)), (4, .g (.i 0)), (5, .g (.i p.2)), (6, .g (.i p.1))], [], H⟩, fun p => p.1 ≤ ss.length ∧ 0 ≤ p.2 ∧ p.2 ≤ 1125899906843624, fun p => ss.length - p.1, ⟨(0, 0), ⟨Nat.zero_le _, by decide, by decide⟩, ?_⟩, ?_⟩
    · (constructor <;> repeat' (first | exact trivial | exact ⟨rfl, rfl⟩ | exact ⟨rfl, LeL.refl _⟩ | exact Le.refl _ | exact List.Sublist.refl _ | (show Le (AV.i _) (AV.i _); rw [List.length_map]; exact Le.refl _) | refine And.intro ?_ ?_))
    · rintro ⟨j, n⟩ ⟨hj, hn0, hn1⟩
      simp only at hj hn0 hn1
      refine ifB_dec (fun h2 => ?_) (fun h2 => ?_)
      · simp only [List.length_map] at h2
        have hlt : j < ss.length := by omega
        refine ifB_dec (fun h3 => ?_) (fun h3 => ?_)
        · simp only at h3
          have := hl j hlt
          refine ⟨j, rfl, _, stAt hlt, ?_⟩
          refine ⟨in64_of (by first | omega | (dsimp only; omega)) (by first | omega | (dsimp only; omega)), ?_⟩
          refine ⟨in64_of (by first | omega | (dsimp only; omega)) (by first | omega | (dsimp only; omega)), ?_⟩
          refine ⟨in64_of (by first | omega | (dsimp only; omega)) (by first | omega | (dsimp only; omega)), ?_⟩
          refine ⟨(j + 1, n + (1 + ss[j].length)), ⟨by simp only; omega, by simp only; omega, by simp only; omega⟩, by (try dsimp only); omega, ?_⟩
          (constructor <;> repeat' (first | exact trivial | exact ⟨rfl, rfl⟩ | exact ⟨rfl, LeL.refl _⟩ | exact Le.refl _ | exact List.Sublist.refl _ | (show Le (AV.i _) (AV.i _); rw [List.length_map]; exact Le.refl _) | refine And.intro ?_ ?_))
        · exact ⟨_, H, Le.refl _, List.Sublist.refl _, hq _ fun _ => by omega⟩
      · exact ⟨_, H, Le.refl _, List.Sublist.refl _, hq _ fun _ => by omega⟩
set_option maxRecDepth 100000 in
theorem CopyTexts_con (o : Own) (ss : List (List UInt8)) (hl : ss.length ≤ 1000000) (H : Heap) (Q : AV → Heap → Prop) (hq : ∀ q : Option Cap, Q (.sl (ownQ q) 1 (ss.map .str)) (bufH q H)) : Con Tryz.prog 32 [.sl o 1 (ss.map .str)] H Q := by
  have hsl := len_strs ss
  cases ss with
  | nil =>
    refine con_of_awp (esc := fun _ => false) tab_ok mixed Tryz.func32 rfl (ent Tryz.func32 (by kernel_rfl) rfl) (by kernel_rfl) ?_
    intro hw hn
    refine ⟨by decide, ?_⟩
    exact ⟨_, H, Le.refl _, List.Sublist.refl _, hq none⟩
  | cons s r =>
    refine con_of_awp (esc := fun _ => false) tab_ok mixed Tryz.func32 rfl (ent Tryz.func32 (by kernel_rfl) rfl) (by kernel_rfl) ?_
    intro hw hn
    refine ⟨(by rw [hsl]; show (0 + _) * (16 + 1) ≤ 140737488355328; omega), fun c hc => ?_⟩
    exact ⟨_, _, Le.refl _, List.Sublist.refl _, hq (some c)⟩
end Go.Proofs.YtjmmacbblnjogaaGreatDoor
