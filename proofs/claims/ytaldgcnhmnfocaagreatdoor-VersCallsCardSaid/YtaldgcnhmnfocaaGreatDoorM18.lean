/-
  Texts put together: K6, K7. No condition.
-/
import Derived.Test.YtaldgcnhmnfocaaGreatDoorM17
/-
  Law 12's alive; Great. No condition.
-/
namespace Go.Proofs.YtaldgcnhmnfocaaGreatDoor
open Go.RowKit

/-! heights -/
theorem fold_le {g : List UInt8 → Int} {m : Int} : ∀ (ss : List (List UInt8)) (n : Int), n ≤ m → (∀ s ∈ ss, g s ≤ m) → ss.foldl (fun n s => max n (g s)) n ≤ m
  | [], n, h, _ => h
  | s :: ss, n, h, k => by
    rw [List.foldl_cons]
    have := k s (by simp)
    exact fold_le ss _ (by omega) fun x hx => k x (List.mem_cons_of_mem _ hx)
theorem fold_ge {g : List UInt8 → Int} : ∀ (ss : List (List UInt8)) (n : Int), n ≤ ss.foldl (fun n s => max n (g s)) n ∧ ∀ s ∈ ss, g s ≤ ss.foldl (fun n s => max n (g s)) n
  | [], n => ⟨Int.le_refl _, nofun⟩
  | s :: ss, n => by
    rw [List.foldl_cons]
    obtain ⟨h1, h2⟩ := fold_ge (g := g) ss (max n (g s))
    refine ⟨by omega, fun x hx => ?_⟩
    rcases List.mem_cons.1 hx with rfl | hx
    · omega
    · exact h2 x hx
theorem hts_eq {l : List En} {ss : List (List UInt8)} {m : Int} (h0 : 0 ≤ m) (h1 : ∀ s ∈ ss, (envGet l s).1.height ≤ m) (h2 : ∃ s ∈ ss, (envGet l s).1.height = m) : hts l ss = m := by
  obtain ⟨s, hs, e⟩ := h2
  have g1 := fold_le (g := fun s => (envGet l s).1.height) ss 0 h0 h1
  have g2 := (fold_ge (g := fun s => (envGet l s).1.height) ss 0).2 s hs
  exact Int.le_antisymm g1 (by rw [← e]; exact g2)
/-! what the law looks at first -/
def pT : Tm := .mk 2 0 [] [.mk 1 0 []] []
def cT (s : List UInt8) : Tm := .mk 3 0 s [] []
def eA : En := ⟨1, 0, [97], pT, tm0, 0, [], 0, 0, 0, []⟩
def eD : En := ⟨2, 0, [100], pT, cT [97], 1, [], 0, 0, 0, []⟩
def tT : Tre := putAll .nil 0 [eD, eA]
def aT : Tm := .mk 4 0 [] [] [cT [100], cT [97]]
theorem ad1 : addAll [] [eD, eA] = 0 := by kernel_rfl
theorem ad2 : addAll [eD, eA] [eA] = 14 := by kernel_rfl
theorem ad3 : addAll [eD, eA] [en0] = 10 := by kernel_rfl
theorem tT_ok : Places tT [eD, eA] ∧ AllRight [eD, eA] := places_all [eD, eA] .nil [] Places.nil (by intro e he; cases he) ad1
theorem ty1 : enType eA [] = (pT, 0) := by kernel_rfl
theorem va1 : enValue eD [] = (cT [97], 0) := by kernel_rfl
theorem gA : envGet [eD, eA] [97] = (eA, true) := by kernel_rfl
theorem gD : envGet [eD, eA] [100] = (eD, true) := by kernel_rfl
theorem ht1 : hts [eD, eA] (tmConsts aT) = 1 := by
  have hr : tmRight 4 1125899906842624 aT = true := by kernel_rfl
  have hc : cnames aT.subs = [[100], [97]] := by kernel_rfl
  rw [tmConsts, if_pos hr, hc]
  refine hts_eq (by decide) (fun s hs => ?_) ⟨[100], nmSort_in.2 (by simp), by rw [gD]; rfl⟩
  have hs' := nmSort_in.1 hs
  simp only [List.mem_cons, List.not_mem_nil, or_false] at hs'
  rcases hs' with rfl | rfl
  · rw [gD]; decide
  · rw [gA]; decide
theorem na1 : tT.names = [[97], [100]] := by kernel_rfl
theorem ha1 : ([[97], [100]] : List (List UInt8)).all (fun s => (getT s tT).2) = true := by kernel_rfl
theorem ha2 : ([[97], [98]] : List (List UInt8)).all (fun s => (getT s tT).2) = false := by kernel_rfl
theorem sameT (t : Tm) : tmEq t t = true := (tmEq_iff _ _).2 rfl
theorem two_tm (a b : Tm) : Le (.sl .full 5 [tmX a, tmX b]) (.sl .no 5 ([a, b].map tmA)) := Le.trans (Le.own _ _ _) (le_of_eq (by
  show AV.sl .no 5 [tmX a, tmX b] = .sl .no 5 [tmA a, tmA b]
  rw [tmA_eq, tmA_eq]))
theorem le_pL : Le (.sl .full 3 [.agg [.i 1, .i 0, .sl .full 0 []]]) (.sl .no 3 (pT.levels.map lvA)) := Le.slE ⟨⟨Le.refl _, Le.refl _, Le.nil _ _, trivial⟩, trivial⟩
set_option maxRecDepth 100000 in
theorem great12_con (list : List En) (H : Heap) (Q : AV → Heap → Prop) (hq : ∀ q : Bool, (q = false → list.length ≤ 30) → Q (.b q) H) : Con Tryz.prog 72 [ensX list] H Q := by
  have hel := ens_len list
  refine con_of_awp (esc := fun _ => false) tab_ok mixed Tryz.func72 rfl (ent Tryz.func72 (by kernel_rfl) rfl) (by kernel_rfl) ?_
  intro hw hn
  clear hw hn
  refine ifB_dec (fun h0 => ?_) (fun h0 => ?_)
  · exact ⟨_, H, Le.refl _, List.Sublist.refl _, hq true nofun⟩
  refine ⟨Nat × Int, fun x => ⟨[(0, .g (ensX list)), (2, .g (.b false)), (3, .g (.i x.2)), (4, .g (.i x.1))], [], H⟩, fun x => x.1 ≤ list.length ∧ 0 ≤ x.2 ∧ x.2 ≤ 6000, fun x => list.length - x.1, ⟨(0, 0), ⟨Nat.zero_le _, by decide, by decide⟩, ?_⟩, ?_⟩
  · (constructor <;> repeat' (first | exact trivial | exact ⟨rfl, rfl⟩ | exact ⟨rfl, LeL.refl _⟩ | exact Le.refl _ | exact List.Sublist.refl _ | (show Le (AV.i _) (AV.i _); rw [List.length_map]; exact Le.refl _) | refine And.intro ?_ ?_))
  · rintro ⟨k, n⟩ ⟨hk, hn0, hn1⟩
    simp only at hk hn0 hn1
    refine ifB_dec (fun h1 => ?_) (fun h1 => ?_)
    · have hlt : k < list.length := by omega
      refine ⟨k, rfl, _, enAt' hlt, ?_⟩
      refine ⟨_, LeL.refl _, Great11_con list[k] _ _ fun q _ => ?_⟩
      intro hz1 hz2; clear hz1 hz2
      cases q with
      | true => exact ⟨_, H, Le.refl _, List.Sublist.refl _, hq true nofun⟩
      | false =>
        refine ⟨[0, 1, 2, 3, 4, 5, 7, 8, 9, 10, 11, 6, 12, 13, 14, 15], [], by kernel_rfl, by simp, ?_⟩
        refine ⟨k, rfl, _, enAt' hlt, k, rfl, _, enAt' hlt, ?_⟩
        refine ⟨[tmX list[k].type, .i (2500 : Nat)], LeL.refl _, tmBig_con 2500 (by decide) _ list[k].type (Nat.le_refl _) _ _ ?_⟩
        intro hz1 hz2; clear hz1 hz2
        refine ⟨[tmX list[k].value, .i (2500 : Nat)], LeL.refl _, tmBig_con 2500 (by decide) _ list[k].value (Nat.le_refl _) _ _ ?_⟩
        intro hz1 hz2; clear hz1 hz2
        refine ⟨in64_of (by first | omega | (dsimp only; omega)) (by first | omega | (dsimp only; omega)), ?_⟩
        refine ⟨in64_of (by first | omega | (dsimp only; omega)) (by first | omega | (dsimp only; omega)), ?_⟩
        refine ifB_dec (fun h2 => ?_) (fun h2 => ?_)
        · exact ⟨_, H, Le.refl _, List.Sublist.refl _, hq true nofun⟩
        · refine ⟨in64_of (by first | omega | (dsimp only; omega)) (by first | omega | (dsimp only; omega)), ?_⟩
          refine ⟨(k + 1, n + ((min list[k].type.big (2500 + 1) : Nat) + (min list[k].value.big (2500 + 1) : Nat) : Int)), ⟨by simp only; omega, by simp only; omega, by simp only; omega⟩, by (try dsimp only); omega, ?_⟩
          (constructor <;> repeat' (first | exact trivial | exact ⟨rfl, rfl⟩ | exact ⟨rfl, LeL.refl _⟩ | exact Le.refl _ | exact List.Sublist.refl _ | (show Le (AV.i _) (AV.i _); rw [List.length_map]; exact Le.refl _) | refine And.intro ?_ ?_))
    · exact ⟨_, H, Le.refl _, List.Sublist.refl _, hq false fun _ => by omega⟩
end Go.Proofs.YtaldgcnhmnfocaaGreatDoor

/-
  EnvParts: the law's walk. No condition.
-/
namespace Go.Proofs.YtaldgcnhmnfocaaGreatDoor
open Go.RowKit

theorem addAll_one (l : List En) (e : En) : addAll l [e] = addOne l e := by
  rw [addAll]
  split
  · rename_i h; rw [h, addAll]
  · rfl
theorem addAll_part {l r : List En} (h : addAll l r = 0) (k : Nat) : addAll l (r.take k) = 0 := by
  by_cases h1 : addAll l (r.take k) = 0
  · exact h1
  · exact absurd ((addAll_stop h1).symm.trans h) h1
theorem none_right : AllRight [] := fun e he => by cases he
/-- an entry more -/
theorem step_add {list : List En} {k : Nat} (hk : k < list.length) (h0 : addAll [] (list.take k) = 0) :
    addAll [] (list.take (k + 1)) = addOne (list.take k) list[k] ∧ putAll (putAll .nil 0 (list.take k)) (list.take k).length [list[k]] = putAll .nil 0 (list.take (k + 1)) ∧ list.take k ++ [list[k]] = list.take (k + 1) := by
  have hsn := List.take_succ_eq_append_getElem hk
  refine ⟨?_, ?_, hsn.symm⟩
  · rw [hsn]
    exact addAll_snoc _ _ h0
  · rw [hsn, putAll_append, Nat.zero_add]
end Go.Proofs.YtaldgcnhmnfocaaGreatDoor
