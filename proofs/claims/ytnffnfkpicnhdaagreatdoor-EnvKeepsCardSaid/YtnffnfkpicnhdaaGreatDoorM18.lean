/-
  Texts put together: K6. No condition.
-/
import Derived.Test.YtnffnfkpicnhdaaGreatDoorM17
/-
  Law 12's alive; Great. No condition.
-/
namespace Go.Proofs.YtnffnfkpicnhdaaGreatDoor
open Go.RowKit

/-! heights -/
theorem fold_le {g : List UInt8 → Int} {m : Int} : ∀ (ss : List (List UInt8)) (n : Int), n ≤ m → (∀ s ∈ ss, g s ≤ m) → ss.foldl (fun n s => max n (g s)) n ≤ m
  | [], n, h, _ => h
  | s :: ss, n, h, k => by
    rw [List.foldl_cons]
    have := k s (by simp)
    exact fold_le ss _ (by omega) fun x hx => k x (List.mem_cons_of_mem _ hx)
theorem fold_ge {g : List UInt8 → Int} : ∀ (ss : List (List UInt8)) (n : Int), n ≤ ss.foldl (fun n s => max n (g s)) n ∧ ∀ s ∈ ss, g s ≤ ss.foldl (fun n s => max n (g s)) n
  | [], n => ⟨Int.le_refl _, nofun⟩
  | s :: ss, n => by
    rw [List.foldl_cons]
    obtain ⟨h1, h2⟩ := fold_ge (g := g) ss (max n (g s))
    refine ⟨by omega, fun x hx => ?_⟩
    rcases List.mem_cons.1 hx with rfl | hx
    · omega
    · exact h2 x hx
theorem hts_eq {l : List En} {ss : List (List UInt8)} {m : Int} (h0 : 0 ≤ m) (h1 : ∀ s ∈ ss, (envGet l s).1.height ≤ m) (h2 : ∃ s ∈ ss, (envGet l s).1.height = m) : hts l ss = m := by
  obtain ⟨s, hs, e⟩ := h2
  have g1 := fold_le (g := fun s => (envGet l s).1.height) ss 0 h0 h1
  have g2 := (fold_ge (g := fun s => (envGet l s).1.height) ss 0).2 s hs
  exact Int.le_antisymm g1 (by rw [← e]; exact g2)
/-! what the law looks at first -/
def pT : Tm := .mk 2 0 [] [.mk 1 0 []] []
def cT (s : List UInt8) : Tm := .mk 3 0 s [] []
def eA : En := ⟨1, 0, [97], pT, tm0, 0, [], 0, 0, 0, []⟩
def eD : En := ⟨2, 0, [100], pT, cT [97], 1, [], 0, 0, 0, []⟩
def tT : Tre := putAll .nil 0 [eD, eA]
def aT : Tm := .mk 4 0 [] [] [cT [100], cT [97]]
theorem ad1 : addAll [] [eD, eA] = 0 := by kernel_rfl
theorem ad2 : addAll [eD, eA] [eA] = 14 := by kernel_rfl
theorem ad3 : addAll [eD, eA] [en0] = 10 := by kernel_rfl
theorem tT_ok : Places tT [eD, eA] ∧ AllRight [eD, eA] := places_all [eD, eA] .nil [] Places.nil (by intro e he; cases he) ad1
theorem ty1 : enType eA [] = (pT, 0) := by kernel_rfl
theorem va1 : enValue eD [] = (cT [97], 0) := by kernel_rfl
theorem gA : envGet [eD, eA] [97] = (eA, true) := by kernel_rfl
theorem gD : envGet [eD, eA] [100] = (eD, true) := by kernel_rfl
theorem ht1 : hts [eD, eA] (tmConsts aT) = 1 := by
  have hr : tmRight 4 1125899906842624 aT = true := by kernel_rfl
  have hc : cnames aT.subs = [[100], [97]] := by kernel_rfl
  rw [tmConsts, if_pos hr, hc]
  refine hts_eq (by decide) (fun s hs => ?_) ⟨[100], nmSort_in.2 (by simp), by rw [gD]; rfl⟩
  have hs' := nmSort_in.1 hs
  simp only [List.mem_cons, List.not_mem_nil, or_false] at hs'
  rcases hs' with rfl | rfl
  · rw [gD]; decide
  · rw [gA]; decide
theorem na1 : tT.names = [[97], [100]] := by kernel_rfl
theorem ha1 : ([[97], [100]] : List (List UInt8)).all (fun s => (getT s tT).2) = true := by kernel_rfl
theorem ha2 : ([[97], [98]] : List (List UInt8)).all (fun s => (getT s tT).2) = false := by kernel_rfl
theorem sameT (t : Tm) : tmEq t t = true := (tmEq_iff _ _).2 rfl
theorem two_tm (a b : Tm) : Le (.sl .full 5 [tmX a, tmX b]) (.sl .no 5 ([a, b].map tmA)) := Le.trans (Le.own _ _ _) (le_of_eq (by
  show AV.sl .no 5 [tmX a, tmX b] = .sl .no 5 [tmA a, tmA b]
  rw [tmA_eq, tmA_eq]))
theorem le_pL : Le (.sl .full 3 [.agg [.i 1, .i 0, .sl .full 0 []]]) (.sl .no 3 (pT.levels.map lvA)) := Le.slE ⟨⟨Le.refl _, Le.refl _, Le.nil _ _, trivial⟩, trivial⟩
set_option maxRecDepth 100000 in
theorem prop12_con : Ans Tryz.prog 49 [] (tmX pT) := by
  intro H Q hq
  refine con_of_awp (esc := fun _ => false) tab_ok mixed Tryz.func49 rfl (ent Tryz.func49 (by kernel_rfl) rfl) (by kernel_rfl) ?_
  intro hw hn
  have hfin : Le (.agg [.i 2, .i 0, .str [], .sl .full 3 [.agg [.i 1, .i 0, .sl .full 0 []]], .sl .full 0 []]) (tmX pT) := Le.agg ⟨Le.refl _, Le.refl _, Le.refl _, le_pL, Le.nil _ _, trivial⟩
  exact ⟨_, H, hfin, List.Sublist.refl _, hq⟩
set_option maxRecDepth 100000 in
theorem constant12_con (s : List UInt8) : Ans Tryz.prog 50 [.str s] (tmX (cT s)) := by
  intro H Q hq
  refine con_of_awp (esc := fun _ => false) tab_ok mixed Tryz.func50 rfl (ent Tryz.func50 (by kernel_rfl) rfl) (by kernel_rfl) ?_
  intro hw hn
  have hfin : Le (.agg [.i 3, .i 0, .str s, .sl .full 0 [], .sl .full 0 []]) (tmX (cT s)) := Le.agg ⟨Le.refl _, Le.refl _, Le.refl _, Le.nil _ _, Le.nil _ _, trivial⟩
  exact ⟨_, H, hfin, List.Sublist.refl _, hq⟩
set_option maxRecDepth 100000 in
set_option maxHeartbeats 4000000 in
theorem alive12_con : Ans Tryz.prog 32 [] (.b true) := by
  intro H Q hq
  obtain ⟨hp, ha⟩ := tT_ok
  obtain ⟨z0, h0⟩ : ∃ z : Int, z = 0 := ⟨_, rfl⟩
  obtain ⟨z14, h14⟩ : ∃ z : Int, z = 14 := ⟨_, rfl⟩
  obtain ⟨z10, h10⟩ : ∃ z : Int, z = 10 := ⟨_, rfl⟩
  have e0 : Le (.i 0) (.i z0) := le_of_eq (by rw [h0])
  have e14 : Le (.i 14) (.i z14) := le_of_eq (by rw [h14])
  have e10 : Le (.i 10) (.i z10) := le_of_eq (by rw [h10])
  refine con_of_sem tab_ok Tryz.func32 rfl (ent Tryz.func32 (by kernel_rfl) rfl) (by kernel_rfl) ?_
  intro hw hn
  clear hw hn
  refine sem_seq (esc := fun _ => false) tab_ok mixed ?_
  refine sem_seq (esc := fun _ => false) tab_ok mixed ?_
  refine ⟨_, LeL.refl _, envNew_con _ _ ?_⟩
  intro hz1 hz2; clear hz1 hz2
  refine sem_seq (esc := fun _ => false) tab_ok mixed ?_
  refine sem_seq (esc := fun _ => false) tab_ok mixed ?_
  refine ⟨_, LeL.refl _, prop12_con _ _ ?_⟩
  intro hz1 hz2; clear hz1 hz2
  refine sem_le ⟨[(0, .g (.b false)), (1, .g (envX .nil [])), (2, .lp 2 0)], [(2, (enX eA).cells)], H⟩ ?_ ?_
  · exact ⟨⟨Le.refl _, Le.refl _, ⟨rfl, rfl⟩, trivial⟩, ⟨⟨rfl, ⟨Le.refl _, Le.refl _, Le.refl _, Le.refl _, Le.refl _, Le.refl _, Le.refl _, Le.refl _, Le.refl _, Le.refl _, Le.refl _, Le.nil _ _, Le.nil _ _, Le.refl _, Le.refl _, Le.refl _, Le.refl _, Le.refl _, Le.nil _ _, trivial⟩⟩, trivial⟩, List.Sublist.refl _⟩
  refine sem_seq (esc := fun _ => false) tab_ok mixed ?_
  refine ⟨_, LeL.refl _, prop12_con _ _ ?_⟩
  intro hz1 hz2; clear hz1 hz2
  refine ⟨_, LeL.refl _, constant12_con [97] _ _ ?_⟩
  intro hz1 hz2; clear hz1 hz2
  refine sem_le ⟨[(0, .g (.b false)), (1, .g (envX .nil [])), (2, .lp 2 0), (3, .lp 3 0)], [(3, (enX eD).cells), (2, (enX eA).cells)], H⟩ ?_ ?_
  · exact ⟨⟨Le.refl _, Le.refl _, ⟨rfl, rfl⟩, ⟨rfl, rfl⟩, trivial⟩, ⟨⟨rfl, ⟨Le.refl _, Le.refl _, Le.refl _, Le.refl _, Le.refl _, Le.refl _, Le.refl _, Le.refl _, Le.refl _, Le.refl _, Le.refl _, Le.refl _, Le.refl _, Le.refl _, Le.refl _, Le.refl _, Le.refl _, Le.refl _, Le.nil _ _, trivial⟩⟩, ⟨rfl, LeL.refl _⟩, trivial⟩, List.Sublist.refl _⟩
  refine sem_seq (esc := fun _ => false) tab_ok mixed ?_
  refine ⟨[envX .nil [], .sl .full 19 ([eD, eA].map enX)], LeL.refl _, (envAddAll_con .full .nil [] [eD, eA] Places.nil (by intro e he; cases he) (by decide)).to (show _ = AV.tup [envX tT [eD, eA], .i 0] by rw [if_pos ad1]; rfl) _ _ ?_⟩
  intro hz1 hz2; clear hz1 hz2
  refine sem_le ⟨[(0, .g (.b false)), (1, .g (envX .nil [])), (2, .lp 2 0), (3, .lp 3 0), (4, .g (envX tT [eD, eA])), (5, .g (.i z0))], [(3, (enX eD).cells), (2, (enX eA).cells)], H⟩ ?_ ?_
  · exact ⟨⟨Le.refl _, Le.refl _, ⟨rfl, rfl⟩, ⟨rfl, rfl⟩, Le.refl _, e0, trivial⟩, ⟨⟨rfl, LeL.refl _⟩, ⟨rfl, LeL.refl _⟩, trivial⟩, List.Sublist.refl _⟩
  refine sem_seq (esc := fun _ => false) tab_ok mixed ?_
  refine ifB_t h0 ?_
  refine sem_seq (esc := fun _ => false) tab_ok mixed ?_
  refine ⟨[envX tT [eD, eA], .sl .full 19 ([eA].map enX)], LeL.refl _, (envAddAll_con .full tT [eD, eA] [eA] hp ha (by decide)).to (show _ = AV.tup [.v (.pointer none), .i 14] by rw [ad2]; rfl) _ _ ?_⟩
  intro hz1 hz2; clear hz1 hz2
  refine sem_le ⟨[(0, .g (.b false)), (1, .g (envX .nil [])), (2, .lp 2 0), (3, .lp 3 0), (4, .g (envX tT [eD, eA])), (7, .g (.i z14))], [(3, (enX eD).cells), (2, (enX eA).cells)], H⟩ ?_ ?_
  · exact ⟨⟨Le.refl _, Le.refl _, ⟨rfl, rfl⟩, ⟨rfl, rfl⟩, Le.refl _, e14, trivial⟩, ⟨⟨rfl, LeL.refl _⟩, ⟨rfl, LeL.refl _⟩, trivial⟩, List.Sublist.refl _⟩
  refine sem_seq (esc := fun _ => false) tab_ok mixed ?_
  refine ⟨[envX tT [eD, eA], .sl .no 19 ([en0].map enX)], ⟨Le.refl _, Le.slE ⟨⟨Le.refl _, Le.refl _, Le.refl _, Le.refl _, Le.refl _, Le.refl _, Le.nil _ _, Le.nil _ _, Le.refl _, Le.refl _, Le.refl _, Le.nil _ _, Le.nil _ _, Le.refl _, Le.refl _, Le.refl _, Le.refl _, Le.refl _, Le.nil _ _, trivial⟩, trivial⟩, trivial⟩, (envAddAll_con .no tT [eD, eA] [en0] hp ha (by decide)).to (show _ = AV.tup [.v (.pointer none), .i 10] by rw [ad3]; rfl) _ _ ?_⟩
  intro hz1 hz2; clear hz1 hz2
  refine sem_le ⟨[(0, .g (.b false)), (1, .g (envX .nil [])), (2, .lp 2 0), (3, .lp 3 0), (4, .g (envX tT [eD, eA])), (7, .g (.i z14)), (9, .g (.i z10))], [(3, (enX eD).cells), (2, (enX eA).cells)], H⟩ ?_ ?_
  · exact ⟨⟨Le.refl _, Le.refl _, ⟨rfl, rfl⟩, ⟨rfl, rfl⟩, Le.refl _, Le.refl _, e10, trivial⟩, ⟨⟨rfl, LeL.refl _⟩, ⟨rfl, LeL.refl _⟩, trivial⟩, List.Sublist.refl _⟩
  refine sem_seq (esc := fun _ => false) tab_ok mixed ?_
  refine ⟨[envX tT [eD, eA], .str [97], .sl .no 3 (([] : List Lv).map lvA)], ⟨Le.refl _, Le.refl _, Le.nil _ _, trivial⟩, (envType_con tT [eD, eA] hp [97] .no [] gA).to (show _ = AV.tup [tmX pT, .i 0] by rw [ty1]) _ _ ?_⟩
  intro hz1 hz2; clear hz1 hz2
  refine sem_le ⟨[(0, .g (.b false)), (1, .g (envX .nil [])), (2, .lp 2 0), (3, .lp 3 0), (4, .g (envX tT [eD, eA])), (7, .g (.i z14)), (9, .g (.i z10)), (10, .lp 10 0), (11, .g (.i z0))], [(10, (tmX pT).cells), (3, (enX eD).cells), (2, (enX eA).cells)], H⟩ ?_ ?_
  · exact ⟨⟨Le.refl _, Le.refl _, ⟨rfl, rfl⟩, ⟨rfl, rfl⟩, Le.refl _, Le.refl _, Le.refl _, ⟨rfl, rfl⟩, e0, trivial⟩, ⟨⟨rfl, LeL.refl _⟩, ⟨rfl, LeL.refl _⟩, ⟨rfl, LeL.refl _⟩, trivial⟩, List.Sublist.refl _⟩
  refine sem_seq (esc := fun _ => false) tab_ok mixed ?_
  refine ⟨[envX tT [eD, eA], .str [100], .sl .no 3 (([] : List Lv).map lvA)], ⟨Le.refl _, Le.refl _, Le.nil _ _, trivial⟩, (envValue_con tT [eD, eA] hp [100] .no [] gD).to (show _ = AV.tup [tmX (cT [97]), .i 0] by rw [va1]) _ _ ?_⟩
  intro hz1 hz2; clear hz1 hz2
  refine sem_le ⟨[(0, .g (.b false)), (1, .g (envX .nil [])), (2, .lp 2 0), (3, .lp 3 0), (4, .g (envX tT [eD, eA])), (7, .g (.i z14)), (9, .g (.i z10)), (10, .lp 10 0), (11, .g (.i z0)), (12, .lp 12 0), (13, .g (.i z0))], [(12, (tmX (cT [97])).cells), (10, (tmX pT).cells), (3, (enX eD).cells), (2, (enX eA).cells)], H⟩ ?_ ?_
  · exact ⟨⟨Le.refl _, Le.refl _, ⟨rfl, rfl⟩, ⟨rfl, rfl⟩, Le.refl _, Le.refl _, Le.refl _, ⟨rfl, rfl⟩, Le.refl _, ⟨rfl, rfl⟩, e0, trivial⟩, ⟨⟨rfl, LeL.refl _⟩, ⟨rfl, LeL.refl _⟩, ⟨rfl, LeL.refl _⟩, ⟨rfl, LeL.refl _⟩, trivial⟩, List.Sublist.refl _⟩
  refine sem_seq (esc := fun _ => false) tab_ok mixed ?_
  refine ⟨[envX tT [eD, eA], .str [100]], LeL.refl _, (envGet_con tT [eD, eA] hp ha [100]).to (show _ = AV.tup [enX eD, .b true] by rw [gD]) _ _ ?_⟩
  intro hz1 hz2; clear hz1 hz2
  refine sem_le ⟨[(0, .g (.b false)), (1, .g (envX .nil [])), (4, .g (envX tT [eD, eA])), (7, .g (.i z14)), (9, .g (.i z10)), (10, .lp 10 0), (11, .g (.i z0)), (12, .lp 12 0), (13, .g (.i z0)), (14, .lp 14 0), (15, .g (.b true))], [(14, (enX eD).cells), (12, (tmX (cT [97])).cells), (10, (tmX pT).cells), (3, (enX eD).cells), (2, (enX eA).cells)], H⟩ ?_ ?_
  · exact ⟨⟨Le.refl _, Le.refl _, Le.refl _, Le.refl _, Le.refl _, ⟨rfl, rfl⟩, Le.refl _, ⟨rfl, rfl⟩, Le.refl _, ⟨rfl, rfl⟩, Le.refl _, trivial⟩, ⟨⟨rfl, LeL.refl _⟩, ⟨rfl, LeL.refl _⟩, ⟨rfl, LeL.refl _⟩, ⟨rfl, LeL.refl _⟩, ⟨rfl, LeL.refl _⟩, trivial⟩, List.Sublist.refl _⟩
  refine sem_seq (esc := fun _ => false) tab_ok mixed ?_
  refine ⟨[0, 1, 2, 3, 4, 5, 6, 7, 8, 9, 10, 11, 12, 13, 14, 15, 16, 17, 18, 19, 20, 21, 22, 23, 24, 25, 26, 27, 28, 29, 30, 31, 32, 33, 34, 35, 36, 37, 38, 39, 40, 41, 42, 44, 43, 45, 46, 47, 48, 50, 49, 51, 52, 53, 54, 55, 56, 57, 58, 59, 60, 61, 62, 63, 64, 65, 66, 67, 68, 69, 70, 71, 72, 73, 74, 75, 76, 77, 78, 79], [], ord_fast (by kernel_rfl), by simp, ?_⟩
  refine ifB_t h14 ?_
  refine ifB_t h10 ?_
  refine ifB_t h0 ?_
  refine ifB_t h0 ?_
  refine ⟨_, LeL.refl _, prop12_con _ _ ?_⟩
  intro hz1 hz2; clear hz1 hz2
  refine ⟨[tmX pT, tmX pT], LeL.refl _, (SameTerm_con _ _ _ (Nat.le_refl _)).as (sameT pT) _ _ ?_⟩
  intro hz1 hz2; clear hz1 hz2
  refine ⟨_, LeL.refl _, constant12_con [97] _ _ ?_⟩
  intro hz1 hz2; clear hz1 hz2
  refine ⟨[tmX (cT [97]), tmX (cT [97])], LeL.refl _, (SameTerm_con _ _ _ (Nat.le_refl _)).as (sameT (cT [97])) _ _ ?_⟩
  intro hz1 hz2; clear hz1 hz2
  refine ⟨_, LeL.refl _, constant12_con [100] _ _ ?_⟩
  intro hz1 hz2; clear hz1 hz2
  refine ⟨_, LeL.refl _, constant12_con [97] _ _ ?_⟩
  intro hz1 hz2; clear hz1 hz2
  refine ⟨[envX tT [eD, eA], tmX aT], ⟨Le.refl _, Le.agg ⟨Le.refl _, Le.refl _, Le.refl _, Le.nil _ _, two_tm _ _, trivial⟩, trivial⟩, (envHeight_con tT [eD, eA] hp aT).to (congrArg AV.i ht1) _ _ ?_⟩
  intro hz1 hz2; clear hz1 hz2
  refine ⟨[envX tT [eD, eA]], LeL.refl _, (envNames_con tT [eD, eA] (by decide)).to (congrArg stsX na1) _ _ ?_⟩
  intro hz1 hz2; clear hz1 hz2
  refine ⟨[stsX [[97], [100]], stsX [[97], [100]]], ⟨Le.refl _, Le.own _ _ _, trivial⟩, (SameTexts_con _ _).as (decide_eq_true rfl) _ _ ?_⟩
  intro hz1 hz2; clear hz1 hz2
  refine ⟨[envX tT [eD, eA]], LeL.refl _, (envOrder_con tT [eD, eA] (by decide)).to (show _ = stsX [[100], [97]] from rfl) _ _ ?_⟩
  intro hz1 hz2; clear hz1 hz2
  refine ⟨[stsX [[100], [97]], stsX [[100], [97]]], ⟨Le.refl _, Le.own _ _ _, trivial⟩, (SameTexts_con _ _).as (decide_eq_true rfl) _ _ ?_⟩
  intro hz1 hz2; clear hz1 hz2
  refine ⟨[envX tT [eD, eA]], LeL.refl _, (envLen_con tT [eD, eA]).to (show _ = AV.i 2 from rfl) _ _ ?_⟩
  intro hz1 hz2; clear hz1 hz2
  refine ⟨[envX .nil []], LeL.refl _, (envLen_con .nil []).to (show _ = AV.i 0 from rfl) _ _ ?_⟩
  intro hz1 hz2; clear hz1 hz2
  refine ⟨[envX tT [eD, eA], .sl .full 1 (([[97], [100]] : List (List UInt8)).map .str)], LeL.refl _, (envHas_con .full tT [eD, eA] [[97], [100]]).as ha1 _ _ ?_⟩
  intro hz1 hz2; clear hz1 hz2
  refine ⟨[envX tT [eD, eA], .sl .full 1 (([[97], [98]] : List (List UInt8)).map .str)], LeL.refl _, (envHas_con .full tT [eD, eA] [[97], [98]]).as ha2 _ _ ?_⟩
  intro hz1 hz2; clear hz1 hz2
  refine ⟨[envX tT [eD, eA], .str [100]], LeL.refl _, (envKind_con tT [eD, eA] hp [100]).to (show _ = AV.i 2 by rw [gD]; rfl) _ _ ?_⟩
  intro hz1 hz2; clear hz1 hz2
  refine sem_of (esc := fun _ => false) tab_ok mixed ?_
  exact ⟨_, H, Le.refl _, List.Sublist.refl _, hq⟩
set_option maxRecDepth 100000 in
theorem great12_con (list : List En) (H : Heap) (Q : AV → Heap → Prop) (hq : ∀ q : Bool, (q = false → list.length ≤ 30) → Q (.b q) H) : Con Tryz.prog 33 [ensX list] H Q := by
  have hel := ens_len list
  refine con_of_awp (esc := fun _ => false) tab_ok mixed Tryz.func33 rfl (ent Tryz.func33 (by kernel_rfl) rfl) (by kernel_rfl) ?_
  intro hw hn
  clear hw hn
  refine ifB_dec (fun h0 => ?_) (fun h0 => ?_)
  · exact ⟨_, H, Le.refl _, List.Sublist.refl _, hq true nofun⟩
  refine ⟨Nat × Int, fun x => ⟨[(0, .g (ensX list)), (2, .g (.b false)), (3, .g (.i x.2)), (4, .g (.i x.1))], [], H⟩, fun x => x.1 ≤ list.length ∧ 0 ≤ x.2 ∧ x.2 ≤ 6000, fun x => list.length - x.1, ⟨(0, 0), ⟨Nat.zero_le _, by decide, by decide⟩, ?_⟩, ?_⟩
  · (constructor <;> repeat' (first | exact trivial | exact ⟨rfl, rfl⟩ | exact ⟨rfl, LeL.refl _⟩ | exact Le.refl _ | exact List.Sublist.refl _ | (show Le (AV.i _) (AV.i _); rw [List.length_map]; exact Le.refl _) | refine And.intro ?_ ?_))
  · rintro ⟨k, n⟩ ⟨hk, hn0, hn1⟩
    simp only at hk hn0 hn1
    refine ifB_dec (fun h1 => ?_) (fun h1 => ?_)
    · have hlt : k < list.length := by omega
      refine ⟨k, rfl, _, enAt' hlt, ?_⟩
      refine ⟨_, LeL.refl _, Great11_con list[k] _ _ fun q _ => ?_⟩
      intro hz1 hz2; clear hz1 hz2
      cases q with
      | true => exact ⟨_, H, Le.refl _, List.Sublist.refl _, hq true nofun⟩
      | false =>
        refine ⟨[0, 1, 2, 3, 4, 5, 7, 8, 9, 10, 11, 6, 12, 13, 14, 15], [], by kernel_rfl, by simp, ?_⟩
        refine ⟨k, rfl, _, enAt' hlt, k, rfl, _, enAt' hlt, ?_⟩
        refine ⟨[tmX list[k].type, .i (2500 : Nat)], LeL.refl _, tmBig_con 2500 (by decide) _ list[k].type (Nat.le_refl _) _ _ ?_⟩
        intro hz1 hz2; clear hz1 hz2
        refine ⟨[tmX list[k].value, .i (2500 : Nat)], LeL.refl _, tmBig_con 2500 (by decide) _ list[k].value (Nat.le_refl _) _ _ ?_⟩
        intro hz1 hz2; clear hz1 hz2
        refine ⟨in64_of (by first | omega | (dsimp only; omega)) (by first | omega | (dsimp only; omega)), ?_⟩
        refine ⟨in64_of (by first | omega | (dsimp only; omega)) (by first | omega | (dsimp only; omega)), ?_⟩
        refine ifB_dec (fun h2 => ?_) (fun h2 => ?_)
        · exact ⟨_, H, Le.refl _, List.Sublist.refl _, hq true nofun⟩
        · refine ⟨in64_of (by first | omega | (dsimp only; omega)) (by first | omega | (dsimp only; omega)), ?_⟩
          refine ⟨(k + 1, n + ((min list[k].type.big (2500 + 1) : Nat) + (min list[k].value.big (2500 + 1) : Nat) : Int)), ⟨by simp only; omega, by simp only; omega, by simp only; omega⟩, by (try dsimp only); omega, ?_⟩
          (constructor <;> repeat' (first | exact trivial | exact ⟨rfl, rfl⟩ | exact ⟨rfl, LeL.refl _⟩ | exact Le.refl _ | exact List.Sublist.refl _ | (show Le (AV.i _) (AV.i _); rw [List.length_map]; exact Le.refl _) | refine And.intro ?_ ?_))
    · exact ⟨_, H, Le.refl _, List.Sublist.refl _, hq false fun _ => by omega⟩
end Go.Proofs.YtnffnfkpicnhdaaGreatDoor
