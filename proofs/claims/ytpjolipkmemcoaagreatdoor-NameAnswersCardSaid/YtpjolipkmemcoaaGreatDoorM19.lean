/-
  Texts put together: W0, Lays4, W1, W2, W3, W4, W5, W6. No condition.
-/
import Derived.Test.YtpjolipkmemcoaaGreatDoorM18
import Derived.Test.YtpjolipkmemcoaaGreatDoorM6
import Derived.Lib.Split
import Derived.Lib.LastIndexByte
import Derived.Lib.TrimByte
import Derived.Shelf.Strings.Prefix
import Derived.Shelf.Strings.LastIndex
import Derived.Shelf.Strings.Trim
import Derived.Shelf.Strings.SlTrimAscii
import Derived.Shelf.Strings.Split
import Derived.Shelf.Strconv.Itoa3
import Derived.Shelf.LaysM
import Derived.Ground.NamesProg
import Derived.Lib.ItoaLen
/-
  Names, plain: parts, parents, what stands under a name. No condition.
-/
namespace Go.Proofs.YtpjolipkmemcoaaGreatDoor

/-- cut at the dots -/
def sp : List UInt8 → List (List UInt8)
  | [] => [[]]
  | c :: r => if c = 46 then [] :: sp r else match sp r with
    | [] => [[c]]
    | h :: t => (c :: h) :: t
theorem sp_ne (l : List UInt8) : ∃ h t, sp l = h :: t := by
  cases l with
  | nil => exact ⟨_, _, rfl⟩
  | cons c r =>
    rw [sp]
    split
    · exact ⟨_, _, rfl⟩
    · split
      · exact ⟨_, _, rfl⟩
      · exact ⟨_, _, rfl⟩
theorem sp_dot (r : List UInt8) : sp (46 :: r) = [] :: sp r := by rw [sp, if_pos rfl]
theorem sp_other {c : UInt8} (h : c ≠ 46) {r x : List UInt8} {t : List (List UInt8)} (hr : sp r = x :: t) : sp (c :: r) = (c :: x) :: t := by rw [sp, if_neg h, hr]
theorem sp_app : ∀ a r : List UInt8, sp (a ++ 46 :: r) = sp a ++ sp r
  | [], r => sp_dot r
  | c :: a, r => by
    obtain ⟨h, t, e⟩ := sp_ne a
    have ih := sp_app a r
    rw [List.cons_append]
    by_cases hc : c = 46
    · subst hc
      rw [sp_dot, sp_dot, ih]
      rfl
    · rw [e] at ih
      rw [sp_other hc e, sp_other hc ih]
      rfl
theorem sp_end : ∀ {x : List UInt8}, 46 ∉ x → sp x = [x]
  | [], _ => rfl
  | c :: x, h => sp_other (fun e => h (by rw [e]; exact List.mem_cons_self)) (sp_end fun k => h (List.mem_cons_of_mem _ k))
theorem sp_nodot : ∀ {l x : List UInt8}, x ∈ sp l → 46 ∉ x
  | [], x, h => by
    rw [sp, List.mem_singleton] at h
    subst h
    exact List.not_mem_nil
  | c :: l, x, h => by
    obtain ⟨a, t, e⟩ := sp_ne l
    by_cases hc : c = 46
    · subst hc
      rw [sp_dot] at h
      rcases List.mem_cons.1 h with rfl | h
      · exact List.not_mem_nil
      · exact sp_nodot h
    · rw [sp_other hc e] at h
      rcases List.mem_cons.1 h with rfl | h
      · intro k
        rcases List.mem_cons.1 k with k | k
        · exact hc k.symm
        · exact sp_nodot (l := l) (by rw [e]; exact List.mem_cons_self) k
      · exact sp_nodot (l := l) (by rw [e]; exact List.mem_cons_of_mem _ h)
theorem sp_len : ∀ l : List UInt8, (sp l).length ≤ l.length + 1
  | [] => Nat.le_refl _
  | c :: l => by
    obtain ⟨a, t, e⟩ := sp_ne l
    have ih := sp_len l
    by_cases hc : c = 46
    · subst hc
      rw [sp_dot, List.length_cons, List.length_cons]
      omega
    · rw [e] at ih
      rw [sp_other hc e]
      simp only [List.length_cons] at ih ⊢
      omega
/-- at the first dot, or at the end -/
theorem dot_cases (l : List UInt8) : 46 ∉ l ∨ ∃ a r, 46 ∉ a ∧ l = a ++ 46 :: r := by
  induction l with
  | nil => exact Or.inl List.not_mem_nil
  | cons c l ih =>
    by_cases hc : c = 46
    · subst hc
      exact Or.inr ⟨[], l, List.not_mem_nil, rfl⟩
    · rcases ih with h | ⟨a, r, h1, h2⟩
      · refine Or.inl fun k => ?_
        rcases List.mem_cons.1 k with k | k
        · exact hc k.symm
        · exact h k
      · refine Or.inr ⟨c :: a, r, fun k => ?_, by rw [h2]; rfl⟩
        rcases List.mem_cons.1 k with k | k
        · exact hc k.symm
        · exact h1 k
/-- at the last dot, or at the end -/
theorem dot_last (l : List UInt8) : 46 ∉ l ∨ ∃ a r, 46 ∉ r ∧ l = a ++ 46 :: r := by
  rcases dot_cases l.reverse with h | ⟨a, r, h1, h2⟩
  · exact Or.inl fun k => h (List.mem_reverse.2 k)
  · refine Or.inr ⟨r.reverse, a.reverse, fun k => h1 (List.mem_reverse.1 k), ?_⟩
    have := congrArg List.reverse h2
    rw [List.reverse_reverse, List.reverse_append, List.reverse_cons, List.append_assoc] at this
    exact this
theorem nm_parts : ∀ (n : Nat) (l : List UInt8), l.length ≤ n → nmGo true l = (sp l).all partOk
  | n, l, hn => by
    rcases dot_cases l with h | ⟨a, r, h1, h2⟩
    · rw [nm_true_end l h, sp_end h]
      simp
    · cases n with
      | zero => rw [h2] at hn; simp at hn
      | succ n =>
        have hr : r.length ≤ n := by rw [h2] at hn; simp at hn; omega
        rw [h2, nm_true_dot a r h1, sp_app, sp_end h1, nm_parts n r hr]
        simp
theorem nameOk_iff {l : List UInt8} : nameOk l = true ↔ l.length ≤ 40 ∧ ∀ p ∈ sp l, partOk p = true := by
  unfold nameOk
  rw [nm_parts _ l (Nat.le_refl _)]
  simp only [Bool.and_eq_true, decide_eq_true_eq, List.all_eq_true]
  constructor
  · rintro ⟨⟨_, h2⟩, h3⟩
    exact ⟨h2, h3⟩
  · rintro ⟨h2, h3⟩
    refine ⟨⟨?_, h2⟩, h3⟩
    cases l with
    | nil => exact absurd (h3 [] (by rw [sp]; exact List.mem_singleton.2 rfl)) (by decide)
    | cons c l => simp
theorem join_sp : ∀ l : List UInt8, Lib.join (sp l) [46] = l := by
  have key : ∀ (n : Nat) (l : List UInt8), l.length ≤ n → Lib.join (sp l) [46] = l := by
    intro n
    induction n with
    | zero =>
      intro l hl
      rw [List.length_eq_zero_iff.1 (Nat.le_zero.1 hl)]
      rfl
    | succ n ih =>
      intro l hl
      rcases dot_cases l with h | ⟨a, r, h1, h2⟩
      · rw [sp_end h, Lib.join_one]
      · have hr := ih r (by rw [h2] at hl; simp at hl; omega)
        obtain ⟨x, t, e⟩ := sp_ne r
        rw [h2, sp_app, sp_end h1, List.singleton_append, Lib.join_cons]
        rw [e] at hr ⊢
        rw [Lib.join_cons] at hr
        unfold Lib.joinTail at hr ⊢
        rw [List.map_cons, List.flatten_cons]
        rw [show [46] ++ x ++ (t.map ([46] ++ ·)).flatten = 46 :: (x ++ (t.map ([46] ++ ·)).flatten) from rfl, hr]
  exact fun l => key _ l (Nat.le_refl _)
theorem sp_join : ∀ {ps : List (List UInt8)}, ps ≠ [] → (∀ p ∈ ps, 46 ∉ p) → sp (Lib.join ps [46]) = ps
  | [], h, _ => absurd rfl h
  | [p], _, h => by rw [Lib.join_one, sp_end (h p (by simp))]
  | p :: q :: ps, _, h => by
    have ih := sp_join (ps := q :: ps) (by simp) fun x hx => h x (List.mem_cons_of_mem _ hx)
    have e : Lib.join (p :: q :: ps) [46] = p ++ 46 :: Lib.join (q :: ps) [46] := by
      rw [Lib.join_cons, Lib.join_cons]
      unfold Lib.joinTail
      rw [List.map_cons, List.flatten_cons]
      rfl
    rw [e, sp_app, sp_end (h p (by simp)), ih]
    rfl
theorem partOk_nodot {p : List UInt8} (h : partOk p = true) : 46 ∉ p := by
  cases p with
  | nil => exact List.not_mem_nil
  | cons c p =>
    rw [part_cons, Bool.and_eq_true, List.all_eq_true] at h
    intro k
    rcases List.mem_cons.1 k with k | k
    · rw [← k] at h
      exact absurd h.1 (by decide)
    · exact absurd (h.2 46 k) (by decide)
theorem partOk_ne {p : List UInt8} (h : partOk p = true) : p ≠ [] := by rintro rfl; exact absurd h (by decide)
theorem nameOk_part {p : List UInt8} (h : partOk p = true) (hl : p.length ≤ 40) : nameOk p = true :=
  nameOk_iff.2 ⟨hl, by rw [sp_end (partOk_nodot h)]; simpa using h⟩
theorem nameOk_ne {l : List UInt8} (h : nameOk l = true) : l ≠ [] := by
  rintro rfl
  exact absurd h (by decide)
/-- a name's parts -/
def nmParts (s : List UInt8) : List (List UInt8) := if nameOk s = true then sp s else []
theorem part_le {l p : List UInt8} (h : p ∈ sp l) : p.length ≤ l.length := by
  have key : ∀ (n : Nat) (l : List UInt8), l.length ≤ n → ∀ p ∈ sp l, p.length ≤ l.length := by
    intro n
    induction n with
    | zero =>
      intro l hl p hp
      rw [List.length_eq_zero_iff.1 (Nat.le_zero.1 hl)] at hp
      rw [sp, List.mem_singleton] at hp
      subst hp
      exact Nat.zero_le _
    | succ n ih =>
      intro l hl p hp
      rcases dot_cases l with h | ⟨a, r, h1, h2⟩
      · rw [sp_end h, List.mem_singleton] at hp
        rw [hp]
        exact Nat.le_refl _
      · have hr : r.length ≤ n := by rw [h2] at hl; simp at hl; omega
        rw [h2, sp_app, sp_end h1, List.singleton_append] at hp
        rw [h2, List.length_append, List.length_cons]
        rcases List.mem_cons.1 hp with rfl | hp
        · omega
        · have := ih r hr p hp
          omega
  exact key _ l (Nat.le_refl _) p h
theorem join_parts {s : List UInt8} (h : nameOk s = true) : nmJoin (sp s) = (s, true) := by
  have h1 := nameOk_iff.1 h
  unfold nmJoin
  rw [join_sp, if_neg]
  rintro (k | k)
  · obtain ⟨p, hp, hn⟩ := List.any_eq_true.1 k
    rw [nameOk_part (h1.2 p hp) (Nat.le_trans (part_le hp) h1.1)] at hn
    cases hn
  · rw [h] at k
    cases k
/-! a name's parent, and its last part -/
def cutAt (s : List UInt8) : List UInt8 × List UInt8 :=
  match (s.reverse.findIdx? fun c => decide (c = 46)) with
  | some i => (s.take (s.length - 1 - i), s.drop (s.length - i))
  | none => ([], s)
theorem cut_none {s : List UInt8} (h : 46 ∉ s) : cutAt s = ([], s) := by
  unfold cutAt
  have : s.reverse.findIdx? (fun c => decide (c = 46)) = none := by
    rw [List.findIdx?_eq_none_iff]
    intro x hx
    rw [decide_eq_false_iff_not]
    rintro rfl
    exact h (List.mem_reverse.1 hx)
  rw [this]
theorem cut_some {a r : List UInt8} (h : 46 ∉ r) : cutAt (a ++ 46 :: r) = (a, r) := by
  unfold cutAt
  have : (a ++ 46 :: r).reverse.findIdx? (fun c => decide (c = 46)) = some r.length := by
    rw [List.reverse_append, List.reverse_cons, List.append_assoc, List.findIdx?_eq_some_iff_getElem]
    refine ⟨by simp, ?_, fun j hj => ?_⟩
    · rw [List.getElem_append_right (by simp)]
      simp
    · rw [List.getElem_append_left (by simpa using hj)]
      rw [decide_eq_true_eq]
      intro e
      exact h (List.mem_reverse.1 (e ▸ List.getElem_mem _))
  rw [this]
  simp only
  have e1 : (a ++ 46 :: r).length - 1 - r.length = a.length := by simp
  have e2 : (a ++ 46 :: r).length - r.length = a.length + 1 := by simp; omega
  rw [e1, e2, List.take_left' rfl, ← List.drop_drop, List.drop_left' rfl]
  rfl
def nmCut (s : List UInt8) : List UInt8 × List UInt8 := if nameOk s = true then cutAt s else ([], [])
def nmParent (s : List UInt8) : List UInt8 := (nmCut s).1
def nmLast (s : List UInt8) : List UInt8 := (nmCut s).2
/-- what the parent is -/
theorem parent_cases {s : List UInt8} (h : nameOk s = true) : (46 ∉ s ∧ nmParent s = [] ∧ nmLast s = s ∧ sp s = [s]) ∨ ∃ a r, 46 ∉ r ∧ s = a ++ 46 :: r ∧ nmParent s = a ∧ nmLast s = r ∧ sp s = sp a ++ [r] ∧ nameOk a = true ∧ nameOk r = true := by
  have hc : nmCut s = cutAt s := by rw [nmCut, if_pos h]
  have h1 := nameOk_iff.1 h
  rcases dot_last s with hd | ⟨a, r, hd, rfl⟩
  · refine Or.inl ⟨hd, ?_, ?_, sp_end hd⟩
    · rw [nmParent, hc, cut_none hd]
    · rw [nmLast, hc, cut_none hd]
  · have e : sp (a ++ 46 :: r) = sp a ++ [r] := by rw [sp_app, sp_end hd]
    rw [e] at h1
    rw [List.length_append, List.length_cons] at h1
    refine Or.inr ⟨a, r, hd, rfl, ?_, ?_, e, ?_, ?_⟩
    · rw [nmParent, hc, cut_some hd]
    · rw [nmLast, hc, cut_some hd]
    · exact nameOk_iff.2 ⟨by omega, fun p hp => h1.2 p (List.mem_append.2 (Or.inl hp))⟩
    · exact nameOk_part (h1.2 r (by simp)) (by omega)
theorem join_two {a r : List UInt8} (ha : nameOk a = true) (hr : nameOk r = true) (h : nameOk (a ++ 46 :: r) = true) : nmJoin [a, r] = (a ++ 46 :: r, true) := by
  have e : Lib.join [a, r] [46] = a ++ 46 :: r := by rw [Lib.join_cons]; unfold Lib.joinTail; simp
  unfold nmJoin
  rw [e, if_neg]
  rintro (k | k)
  · simp [ha, hr] at k
  · rw [h] at k; cases k
/-! under -/
def nmUnder (s top : List UInt8) : Bool := nameOk s && (nameOk top && (decide (s = top) || Lib.hasPrefix s (top ++ [46])))
theorem under_iff {s top : List UInt8} : nmUnder s top = true ↔ nameOk s = true ∧ nameOk top = true ∧ (s = top ∨ ∃ r, s = top ++ 46 :: r) := by
  unfold nmUnder Lib.hasPrefix
  simp only [Bool.and_eq_true, Bool.or_eq_true, decide_eq_true_eq, List.isPrefixOf_iff_prefix]
  constructor
  · rintro ⟨h1, h2, h3 | ⟨r, h3⟩⟩
    · exact ⟨h1, h2, Or.inl h3⟩
    · exact ⟨h1, h2, Or.inr ⟨r, by rw [← h3]; simp⟩⟩
  · rintro ⟨h1, h2, h3 | ⟨r, h3⟩⟩
    · exact ⟨h1, h2, Or.inl h3⟩
    · exact ⟨h1, h2, Or.inr ⟨r, by rw [h3]; simp⟩⟩
theorem under_self {s : List UInt8} (h : nameOk s = true) : nmUnder s s = true := under_iff.2 ⟨h, h, Or.inl rfl⟩
theorem under_anti {a b : List UInt8} (h : nmUnder a b = true) (k : nmUnder b a = true) : a = b := by
  obtain ⟨_, _, h | ⟨r, h⟩⟩ := under_iff.1 h
  · exact h
  · obtain ⟨_, _, k | ⟨q, k⟩⟩ := under_iff.1 k
    · exact k.symm
    · have h1 := congrArg List.length h
      have h2 := congrArg List.length k
      simp at h1 h2
      omega
theorem under_trans {a b c : List UInt8} (h : nmUnder a b = true) (k : nmUnder b c = true) : nmUnder a c = true := by
  obtain ⟨ha, hb, h⟩ := under_iff.1 h
  obtain ⟨_, hc, k⟩ := under_iff.1 k
  refine under_iff.2 ⟨ha, hc, ?_⟩
  rcases h with rfl | ⟨r, rfl⟩
  · exact k
  · rcases k with rfl | ⟨q, rfl⟩
    · exact Or.inr ⟨r, rfl⟩
    · exact Or.inr ⟨q ++ 46 :: r, by simp⟩
theorem under_parts {a b : List UInt8} (h : nmUnder a b = true) : (nmParts b).length ≤ (nmParts a).length := by
  obtain ⟨ha, hb, h⟩ := under_iff.1 h
  rw [nmParts, nmParts, if_pos ha, if_pos hb]
  rcases h with rfl | ⟨r, rfl⟩
  · exact Nat.le_refl _
  · rw [sp_app, List.length_append]
    omega
end Go.Proofs.YtpjolipkmemcoaaGreatDoor

/-
  DERIVED: THE SHELF's CONTRACTS AT THIS DUMP, IN PLAIN WORDS (tools/lay-plain.mjs out of 'YtpjolipkmemcoaaGreatDoorLays4.lean', which tools/lay-shelf.mjs wrote): THE SAME DECLARATIONS UNDER THE SAME NAMES: 'import', 'namespace', 'open', 'def', 'theorem' AND NOTHING ELSE: no command of the shelf's: FOR A HAND-IN. Each laying: the table of numbers ('.._ren') and one theorem, a field a fact of the dump's own or the kernel's comparison; each contract: ONE APPLICATION.
-/
namespace Go.Proofs.YtpjolipkmemcoaaGreatDoor
open Go.Shelf
def Tryz.l99_ren : Go.Shelf.Ren := ⟨fun | 99 => 38 | 206 => 57 | n => n, fun | 9 => 9 | 4 => 4 | 3 => 3 | n => n, fun | n => n⟩
theorem Tryz.l99 : Go.Proofs.Lays.n99 Tryz.prog Tryz.l99_ren := {
  mixed := by kernel_rfl
  f99 := Tryz.func38.trans (congrArg some (by kernel_rfl))
  f206 := Tryz.func57.trans (congrArg some (by kernel_rfl))
  t3 := Tryz.underlying3
  a3 := Tryz.isAgg3
  z3 := Tryz.sizeOf3
  v3 := Tryz.zeroValue3
  t4 := Tryz.underlying4
  a4 := Tryz.isAgg4
  z4 := Tryz.sizeOf4
  v4 := Tryz.zeroValue4
  t9 := Tryz.underlying9
  a9 := Tryz.isAgg9
  z9 := Tryz.sizeOf9
  v9 := Tryz.zeroValue9 }
def Tryz.l148_ren : Go.Shelf.Ren := ⟨fun | 148 => 56 | 222 => 75 | 223 => 76 | 269 => 90 | n => n, fun | 9 => 9 | 3 => 3 | 4 => 4 | 5 => 5 | 146 => 95 | 51 => 94 | 46 => 90 | n => n, fun | n => n⟩
theorem Tryz.l148 : Go.Proofs.Lays.n148 Tryz.prog Tryz.l148_ren := {
  mixed := by kernel_rfl
  f148 := Tryz.func56.trans (congrArg some (by kernel_rfl))
  f222 := Tryz.func75.trans (congrArg some (by kernel_rfl))
  f223 := Tryz.func76.trans (congrArg some (by kernel_rfl))
  f269 := Tryz.func90.trans (congrArg some (by kernel_rfl))
  t3 := Tryz.underlying3
  a3 := Tryz.isAgg3
  z3 := Tryz.sizeOf3
  v3 := Tryz.zeroValue3
  t4 := Tryz.underlying4
  a4 := Tryz.isAgg4
  z4 := Tryz.sizeOf4
  v4 := Tryz.zeroValue4
  t5 := Tryz.underlying5
  a5 := Tryz.isAgg5
  z5 := Tryz.sizeOf5
  v5 := Tryz.zeroValue5
  t9 := Tryz.underlying9
  a9 := Tryz.isAgg9
  z9 := Tryz.sizeOf9
  v9 := Tryz.zeroValue9
  t46 := Tryz.underlying90
  a46 := Tryz.isAgg90
  z46 := Tryz.sizeOf90
  v46 := Tryz.zeroValue90
  t51 := Tryz.underlying94
  a51 := Tryz.isAgg94
  z51 := Tryz.sizeOf94
  v51 := Tryz.zeroValue94
  t146 := Tryz.underlying95
  a146 := Tryz.isAgg95
  z146 := Tryz.sizeOf95
  v146 := Tryz.zeroValue95 }
def Tryz.l162_ren : Go.Shelf.Ren := ⟨fun | 162 => 41 | 232 => 60 | 227 => 61 | 234 => 62 | 236 => 63 | 228 => 78 | 271 => 79 | 151 => 80 | 120 => 95 | 197 => 70 | 152 => 96 | 260 => 86 | 137 => 116 | 119 => 117 | 224 => 110 | 225 => 109 | 217 => 108 | 266 => 124 | n => n, fun | 9 => 9 | 4 => 4 | 3 => 3 | 5 => 5 | 117 => 74 | 116 => 73 | 0 => 0 | 124 => 77 | 21 => 21 | 105 => 80 | 46 => 90 | 119 => 113 | 139 => 116 | 138 => 115 | n => n, fun | 3 => 1 | 4 => 2 | n => n⟩
theorem Tryz.l162 : Go.Proofs.Lays.n162 Tryz.prog Tryz.l162_ren := {
  mixed := by kernel_rfl
  f119 := Tryz.func117.trans (congrArg some (by kernel_rfl))
  f120 := Tryz.func95.trans (congrArg some (by kernel_rfl))
  f137 := Tryz.func116.trans (congrArg some (by kernel_rfl))
  f151 := Tryz.func80.trans (congrArg some (by kernel_rfl))
  f152 := Tryz.func96.trans (congrArg some (by kernel_rfl))
  f162 := Tryz.func41.trans (congrArg some (by kernel_rfl))
  f197 := Tryz.func70.trans (congrArg some (by kernel_rfl))
  f217 := Tryz.func108.trans (congrArg some (by kernel_rfl))
  f224 := Tryz.func110.trans (congrArg some (by kernel_rfl))
  f225 := Tryz.func109.trans (congrArg some (by kernel_rfl))
  f227 := Tryz.func61.trans (congrArg some (by kernel_rfl))
  f228 := Tryz.func78.trans (congrArg some (by kernel_rfl))
  f232 := Tryz.func60.trans (congrArg some (by kernel_rfl))
  f234 := Tryz.func62.trans (congrArg some (by kernel_rfl))
  f236 := Tryz.func63.trans (congrArg some (by kernel_rfl))
  f260 := Tryz.func86.trans (congrArg some (by kernel_rfl))
  f266 := Tryz.func124.trans (congrArg some (by kernel_rfl))
  f271 := Tryz.func79.trans (congrArg some (by kernel_rfl))
  t0 := Tryz.underlying0
  a0 := Tryz.isAgg0
  z0 := Tryz.sizeOf0
  v0 := Tryz.zeroValue0
  t3 := Tryz.underlying3
  a3 := Tryz.isAgg3
  z3 := Tryz.sizeOf3
  v3 := Tryz.zeroValue3
  t4 := Tryz.underlying4
  a4 := Tryz.isAgg4
  z4 := Tryz.sizeOf4
  v4 := Tryz.zeroValue4
  t5 := Tryz.underlying5
  a5 := Tryz.isAgg5
  z5 := Tryz.sizeOf5
  v5 := Tryz.zeroValue5
  t9 := Tryz.underlying9
  a9 := Tryz.isAgg9
  z9 := Tryz.sizeOf9
  v9 := Tryz.zeroValue9
  t21 := Tryz.underlying21
  a21 := Tryz.isAgg21
  z21 := Tryz.sizeOf21
  v21 := Tryz.zeroValue21
  t46 := Tryz.underlying90
  a46 := Tryz.isAgg90
  z46 := Tryz.sizeOf90
  v46 := Tryz.zeroValue90
  t105 := Tryz.underlying80
  a105 := Tryz.isAgg80
  z105 := Tryz.sizeOf80
  v105 := Tryz.zeroValue80
  t116 := Tryz.underlying73
  a116 := Tryz.isAgg73
  z116 := Tryz.sizeOf73
  t117 := Tryz.underlying74
  a117 := Tryz.isAgg74
  z117 := Tryz.sizeOf74
  v117 := Tryz.zeroValue74
  t119 := Tryz.underlying113
  a119 := Tryz.isAgg113
  z119 := Tryz.sizeOf113
  t124 := Tryz.underlying77
  a124 := Tryz.isAgg77
  z124 := Tryz.sizeOf77
  v124 := Tryz.zeroValue77
  t138 := Tryz.underlying115
  a138 := Tryz.isAgg115
  z138 := Tryz.sizeOf115
  v138 := Tryz.zeroValue115
  t139 := Tryz.underlying116
  a139 := Tryz.isAgg116
  z139 := Tryz.sizeOf116
  v139 := Tryz.zeroValue116
  g3 := by kernel_rfl
  g4 := by kernel_rfl }
def Tryz.l146_ren : Go.Shelf.Ren := ⟨fun | 146 => 35 | 221 => 55 | 268 => 73 | 138 => 74 | 143 => 71 | 195 => 88 | 197 => 70 | 218 => 89 | 219 => 87 | 260 => 86 | 217 => 108 | 225 => 109 | 224 => 110 | 267 => 111 | 266 => 124 | 314 => 125 | n => n, fun | 9 => 9 | 31 => 22 | 3 => 3 | 4 => 4 | 0 => 0 | 105 => 80 | 21 => 21 | 5 => 5 | 46 => 90 | 119 => 113 | 139 => 116 | 138 => 115 | 146 => 95 | 51 => 94 | n => n, fun | 1 => 0 | 3 => 1 | 4 => 2 | n => n⟩
theorem Tryz.l146 : Go.Proofs.Lays.n146 Tryz.prog Tryz.l146_ren := {
  mixed := by kernel_rfl
  f138 := Tryz.func74.trans (congrArg some (by kernel_rfl))
  f143 := Tryz.func71.trans (congrArg some (by kernel_rfl))
  f146 := Tryz.func35.trans (congrArg some (by kernel_rfl))
  f195 := Tryz.func88.trans (congrArg some (by kernel_rfl))
  f197 := Tryz.func70.trans (congrArg some (by kernel_rfl))
  f217 := Tryz.func108.trans (congrArg some (by kernel_rfl))
  f218 := Tryz.func89.trans (congrArg some (by kernel_rfl))
  f219 := Tryz.func87.trans (congrArg some (by kernel_rfl))
  f221 := Tryz.func55.trans (congrArg some (by kernel_rfl))
  f224 := Tryz.func110.trans (congrArg some (by kernel_rfl))
  f225 := Tryz.func109.trans (congrArg some (by kernel_rfl))
  f260 := Tryz.func86.trans (congrArg some (by kernel_rfl))
  f266 := Tryz.func124.trans (congrArg some (by kernel_rfl))
  f267 := Tryz.func111.trans (congrArg some (by kernel_rfl))
  f268 := Tryz.func73.trans (congrArg some (by kernel_rfl))
  f314 := Tryz.func125.trans (congrArg some (by kernel_rfl))
  t0 := Tryz.underlying0
  a0 := Tryz.isAgg0
  z0 := Tryz.sizeOf0
  v0 := Tryz.zeroValue0
  t3 := Tryz.underlying3
  a3 := Tryz.isAgg3
  z3 := Tryz.sizeOf3
  v3 := Tryz.zeroValue3
  t4 := Tryz.underlying4
  a4 := Tryz.isAgg4
  z4 := Tryz.sizeOf4
  v4 := Tryz.zeroValue4
  t5 := Tryz.underlying5
  a5 := Tryz.isAgg5
  z5 := Tryz.sizeOf5
  v5 := Tryz.zeroValue5
  t9 := Tryz.underlying9
  a9 := Tryz.isAgg9
  z9 := Tryz.sizeOf9
  v9 := Tryz.zeroValue9
  t21 := Tryz.underlying21
  a21 := Tryz.isAgg21
  z21 := Tryz.sizeOf21
  v21 := Tryz.zeroValue21
  t31 := Tryz.underlying22
  a31 := Tryz.isAgg22
  z31 := Tryz.sizeOf22
  v31 := Tryz.zeroValue22
  t46 := Tryz.underlying90
  a46 := Tryz.isAgg90
  z46 := Tryz.sizeOf90
  v46 := Tryz.zeroValue90
  t51 := Tryz.underlying94
  a51 := Tryz.isAgg94
  z51 := Tryz.sizeOf94
  v51 := Tryz.zeroValue94
  t105 := Tryz.underlying80
  a105 := Tryz.isAgg80
  z105 := Tryz.sizeOf80
  v105 := Tryz.zeroValue80
  t119 := Tryz.underlying113
  a119 := Tryz.isAgg113
  z119 := Tryz.sizeOf113
  t138 := Tryz.underlying115
  a138 := Tryz.isAgg115
  z138 := Tryz.sizeOf115
  v138 := Tryz.zeroValue115
  t139 := Tryz.underlying116
  a139 := Tryz.isAgg116
  z139 := Tryz.sizeOf116
  v139 := Tryz.zeroValue116
  t146 := Tryz.underlying95
  a146 := Tryz.isAgg95
  z146 := Tryz.sizeOf95
  v146 := Tryz.zeroValue95
  g1 := by kernel_rfl
  g3 := by kernel_rfl
  g4 := by kernel_rfl }
def Tryz.l171_ren : Go.Shelf.Ren := ⟨fun | 171 => 40 | 243 => 59 | 246 => 77 | 283 => 91 | 284 => 92 | 285 => 93 | 286 => 94 | 129 => 107 | 317 => 112 | 318 => 113 | 319 => 114 | 320 => 115 | 337 => 126 | 338 => 127 | n => n, fun | 3 => 3 | 9 => 9 | 2 => 2 | 4 => 4 | 171 => 97 | 0 => 0 | 53 => 98 | 37 => 56 | 5 => 5 | 173 => 101 | 212 => 119 | 51 => 94 | 20 => 20 | 213 => 120 | 46 => 90 | 232 => 131 | 233 => 132 | n => n, fun | 17 => 3 | 18 => 4 | 19 => 5 | n => n⟩
theorem Tryz.l171 : Go.Proofs.LaysM.n171 Tryz.prog Tryz.l171_ren := {
  mixed := by kernel_rfl
  f129 := Tryz.func107.trans (congrArg some (by kernel_rfl))
  f171 := Tryz.func40.trans (congrArg some (by kernel_rfl))
  f243 := Tryz.func59.trans (congrArg some (by kernel_rfl))
  f246 := Tryz.func77.trans (congrArg some (by kernel_rfl))
  f283 := Tryz.func91.trans (congrArg some (by kernel_rfl))
  f284 := Tryz.func92.trans (congrArg some (by kernel_rfl))
  f285 := Tryz.func93.trans (congrArg some (by kernel_rfl))
  f286 := Tryz.func94.trans (congrArg some (by kernel_rfl))
  f317 := Tryz.func112.trans (congrArg some (by kernel_rfl))
  f318 := Tryz.func113.trans (congrArg some (by kernel_rfl))
  f319 := Tryz.func114.trans (congrArg some (by kernel_rfl))
  f320 := Tryz.func115.trans (congrArg some (by kernel_rfl))
  f337 := Tryz.func126.trans (congrArg some (by kernel_rfl))
  f338 := Tryz.func127.trans (congrArg some (by kernel_rfl))
  t0 := Tryz.underlying0
  a0 := Tryz.isAgg0
  z0 := Tryz.sizeOf0
  v0 := Tryz.zeroValue0
  t2 := Tryz.underlying2
  a2 := Tryz.isAgg2
  z2 := Tryz.sizeOf2
  v2 := Tryz.zeroValue2
  t3 := Tryz.underlying3
  a3 := Tryz.isAgg3
  z3 := Tryz.sizeOf3
  v3 := Tryz.zeroValue3
  t4 := Tryz.underlying4
  a4 := Tryz.isAgg4
  z4 := Tryz.sizeOf4
  v4 := Tryz.zeroValue4
  t5 := Tryz.underlying5
  a5 := Tryz.isAgg5
  z5 := Tryz.sizeOf5
  v5 := Tryz.zeroValue5
  t9 := Tryz.underlying9
  a9 := Tryz.isAgg9
  z9 := Tryz.sizeOf9
  v9 := Tryz.zeroValue9
  t20 := Tryz.underlying20
  a20 := Tryz.isAgg20
  z20 := Tryz.sizeOf20
  v20 := Tryz.zeroValue20
  t37 := Tryz.underlying56
  a37 := Tryz.isAgg56
  z37 := Tryz.sizeOf56
  v37 := Tryz.zeroValue56
  t46 := Tryz.underlying90
  a46 := Tryz.isAgg90
  z46 := Tryz.sizeOf90
  v46 := Tryz.zeroValue90
  t51 := Tryz.underlying94
  a51 := Tryz.isAgg94
  z51 := Tryz.sizeOf94
  v51 := Tryz.zeroValue94
  t53 := Tryz.underlying98
  a53 := Tryz.isAgg98
  z53 := Tryz.sizeOf98
  v53 := Tryz.zeroValue98
  t171 := Tryz.underlying97
  a171 := Tryz.isAgg97
  z171 := Tryz.sizeOf97
  v171 := Tryz.zeroValue97
  t173 := Tryz.underlying101
  a173 := Tryz.isAgg101
  z173 := Tryz.sizeOf101
  v173 := Tryz.zeroValue101
  t212 := Tryz.underlying119
  a212 := Tryz.isAgg119
  z212 := Tryz.sizeOf119
  v212 := Tryz.zeroValue119
  t213 := Tryz.underlying120
  a213 := Tryz.isAgg120
  z213 := Tryz.sizeOf120
  t232 := Tryz.underlying131
  a232 := Tryz.isAgg131
  z232 := Tryz.sizeOf131
  v232 := Tryz.zeroValue131
  t233 := Tryz.underlying132
  a233 := Tryz.isAgg132
  z233 := Tryz.sizeOf132
  v233 := Tryz.zeroValue132
  g17 := by kernel_rfl
  g18 := by kernel_rfl
  g19 := by kernel_rfl
  i0 := by kernel_rfl
  i2 := by kernel_rfl
  i3 := by kernel_rfl
  i4 := by kernel_rfl
  i5 := by kernel_rfl
  i9 := by kernel_rfl
  i20 := by kernel_rfl
  i37 := by kernel_rfl
  i46 := by kernel_rfl
  i51 := by kernel_rfl
  i53 := by kernel_rfl
  i171 := by kernel_rfl
  i173 := by kernel_rfl
  i212 := by kernel_rfl
  i232 := by kernel_rfl
  i233 := by kernel_rfl
  m17 := by kernel_rfl
  m18 := by kernel_rfl
  m19 := by kernel_rfl }
end Go.Proofs.YtpjolipkmemcoaaGreatDoor

/-
  strings.HasPrefix, LastIndex, TrimRight, Split, strconv.Itoa: contracts. No condition.
-/
namespace Go.Proofs.YtpjolipkmemcoaaGreatDoor
open Go.RowKit

/-- a call that answers a value of no memory, and leaves the world as it is, below its end -/
theorem ans_below {P : Program} {f : FuncId} {args : List AV} {r : AV} (he : ∀ as' w, (callFunc f as').run P w = .ok (.enter f as') w) (hc : ∀ (M : Mem) (w : World) (vs : List Value), GW w → repT M args vs → ∃ v, (∀ M, rep M r v) ∧ Calls P f vs.toArray w fun e w' => e = .returned v ∧ Below w.heap.size w w') : Ans P f args r := by
  intro H Q hq M w vs hG hI hargs
  obtain ⟨v, hv, h⟩ := hc M w vs hG.1 hargs
  rw [he]
  refine Calls.mono h ?_
  rintro e w' ⟨rfl, hb⟩
  obtain ⟨e1, e2⟩ := evo_below hI hb
  exact ⟨_, rfl, M, r, H, e1.mono (by simp), e2, fun q hq => Or.inl hq, hv M, hq⟩
theorem rep_s {M : Mem} {s : List UInt8} (h : s.length ≤ 1125899906842624) : rep M (.str s) (.string ⟨s.toArray⟩) := by
  simp only [rep, true_and]
  exact h
theorem str_arg {M : Mem} {s : List UInt8} {v : Value} (h : rep M (.str s) v) : v = .string ⟨s.toArray⟩ ∧ s.length ≤ 1125899906842624 := by simpa only [rep] using h
set_option maxRecDepth 100000 in
theorem HasPrefix_con (s p : List UInt8) : Ans Tryz.prog 38 [.str s, .str p] (.b (Lib.hasPrefix s p)) := by
  refine ans_below (ent Tryz.func38 (by kernel_rfl) rfl) fun M w vs _ hargs => ?_
  simp only [repT] at hargs
  obtain ⟨v, _, rfl, hv, v2, _, rfl, hv2, rfl⟩ := hargs
  obtain ⟨rfl, _⟩ := str_arg hv
  obtain ⟨rfl, _⟩ := str_arg hv2
  refine ⟨.bool (Lib.hasPrefix s p), fun _ => rep_b, Calls.mono (Any.strings_HasPrefix Tryz.l99 ⟨s.toArray⟩ ⟨p.toArray⟩ w) ?_⟩
  rintro e w' ⟨rfl, hw⟩
  rw [hw]
  exact ⟨rfl, Below.refl _ _⟩
set_option maxRecDepth 100000 in
theorem LastIndex_con (s : List UInt8) (hs : s.length ≤ 1000) : Ans Tryz.prog 56 [.str s, .str [46]] (.i (Lib.lastIndexByte ⟨s.toArray⟩ 46)) := by
  refine ans_below (ent Tryz.func56 (by kernel_rfl) rfl) fun M w vs _ hargs => ?_
  simp only [repT] at hargs
  obtain ⟨v, _, rfl, hv, v2, _, rfl, hv2, rfl⟩ := hargs
  obtain ⟨rfl, _⟩ := str_arg hv
  obtain ⟨rfl, _⟩ := str_arg hv2
  refine ⟨.int .i64 (Lib.lastIndexByte ⟨s.toArray⟩ 46), fun M => by simp [AV.i, rep, Value.oneCell'], Calls.mono (Any.strings_LastIndex_one Tryz.l148 ⟨s.toArray⟩ ⟨#[46]⟩ rfl (by show s.toArray.size < _; simp; omega) w) ?_⟩
  rintro e w' ⟨he, hw⟩
  rw [hw]
  exact ⟨he, Below.refl _ _⟩
theorem last_none {s : List UInt8} (h : 46 ∉ s) : Lib.lastIndexByte ⟨s.toArray⟩ 46 = -1 := by
  rcases Lib.lastIndexByte_spec ⟨s.toArray⟩ 46 with ⟨e, _⟩ | ⟨i, hi, _, hc, _⟩
  · exact e
  · exfalso
    have hi' : i < s.length := by simpa [ByteArray.size] using hi
    have hc' : ((s.toArray[i]!).toNat : Int) = 46 := hc
    rw [getElem!_pos s.toArray i (by simpa using hi')] at hc'
    simp only [List.getElem_toArray] at hc'
    have : s[i] = 46 := UInt8.toNat_inj.1 (by show s[i].toNat = 46; omega)
    exact h (this ▸ List.getElem_mem hi')
theorem last_some {a r : List UInt8} (h : 46 ∉ r) : Lib.lastIndexByte ⟨(a ++ 46 :: r).toArray⟩ 46 = a.length := by
  rcases Lib.lastIndexByte_spec ⟨(a ++ 46 :: r).toArray⟩ 46 with ⟨_, hn⟩ | ⟨i, hi, e, hc, hn⟩
  · exfalso
    have := hn a.length (by simp [ByteArray.size])
    have e : (a ++ 46 :: r).toArray[a.length]! = 46 := by rw [getElem!_pos _ _ (by simp)]; simp
    exact this (by show (((a ++ 46 :: r).toArray[a.length]!).toNat : Int) = 46; rw [e]; rfl)
  · have hi' : i < (a ++ 46 :: r).length := by simpa [ByteArray.size] using hi
    have hc' : (((a ++ 46 :: r).toArray[i]!).toNat : Int) = 46 := hc
    rw [getElem!_pos _ i (by simpa using hi')] at hc'
    simp only [List.getElem_toArray] at hc'
    have hci : (a ++ 46 :: r)[i] = 46 := UInt8.toNat_inj.1 (by show (a ++ 46 :: r)[i].toNat = 46; omega)
    rw [e]
    rcases Nat.lt_trichotomy i a.length with hlt | heq | hgt
    · exfalso
      have := hn a.length hlt (by simp [ByteArray.size])
      have e : (a ++ 46 :: r).toArray[a.length]! = 46 := by rw [getElem!_pos _ _ (by simp)]; simp
      exact this (by show (((a ++ 46 :: r).toArray[a.length]!).toNat : Int) = 46; rw [e]; rfl)
    · rw [heq]
    · exfalso
      rw [List.getElem_append_right (by omega), List.getElem_cons, dif_neg (by omega)] at hci
      exact h (hci ▸ List.getElem_mem _)
set_option maxRecDepth 100000 in
theorem TrimRight_con (s : List UInt8) (hs : s.length ≤ 1000) : Ans Tryz.prog 41 [.str s, .str [46]] (.str (Lib.trimRightB s 46)) := by
  refine ans_below (ent Tryz.func41 (by kernel_rfl) rfl) fun M w vs _ hargs => ?_
  simp only [repT] at hargs
  obtain ⟨v, _, rfl, hv, v2, _, rfl, hv2, rfl⟩ := hargs
  obtain ⟨rfl, _⟩ := str_arg hv
  obtain ⟨rfl, _⟩ := str_arg hv2
  have hl : (Lib.trimRightB s 46).length ≤ s.length := by
    unfold Lib.trimRightB
    rw [List.length_reverse]
    refine Nat.le_trans (List.dropWhile_sublist _).length_le ?_
    rw [List.length_reverse]
    exact Nat.le_refl _
  refine ⟨.string ⟨(Lib.trimRightB s 46).toArray⟩, fun M => rep_s (by omega), Calls.mono (Any.strings_TrimRight_one Tryz.l162 ⟨s.toArray⟩ 46 (by decide) w (by show s.toArray.size ≤ _; simp; omega)) ?_⟩
  rintro e w' ⟨he, hw⟩
  rw [hw]
  exact ⟨he, Below.refl _ _⟩
/-- digits -/
def decB (n : Nat) : List UInt8 := Lib.decDigits n
theorem itoa_dec (n : Nat) : Lib.itoa (n : Int) = decB n := by unfold Lib.itoa; rw [if_neg (by omega)]; rfl
set_option maxRecDepth 100000 in
theorem Itoa_con (n : Nat) (hn : n ≤ 1000000) : Ans Tryz.prog 40 [.i n] (.str (decB n)) := by
  refine ans_below (ent Tryz.func40 (by kernel_rfl) rfl) fun M w vs hG hargs => ?_
  simp only [repT] at hargs
  obtain ⟨v, _, rfl, hv, rfl⟩ := hargs
  simp only [AV.i, rep] at hv
  obtain ⟨rfl, _⟩ := hv
  have hl := Lib.itoa_length_le (n : Int) (by omega) (by omega)
  rw [itoa_dec] at hl
  refine ⟨.string ⟨(decB n).toArray⟩, fun M => rep_s (by omega), Calls.mono (Any.strconv_Itoa Tryz.l171 (n : Int) (by omega) (by omega) w hG.2) ?_⟩
  rintro e w' ⟨he, k, os, hw⟩
  rw [itoa_dec] at he
  refine ⟨he, ?_⟩
  rw [hw]
  refine ⟨rfl, rfl, rfl, ?_, fun j hj => ?_⟩
  · show w.heap.size ≤ (w.heap ++ os).size
    rw [Array.size_append]; omega
  · show (w.heap ++ os)[j]? = w.heap[j]?
    exact Array.getElem?_append_left hj
/-! Split -/
theorem index_dot : ∀ {a r : List UInt8}, 46 ∉ a → Lib.index (a ++ 46 :: r) [46] = a.length
  | [], r, _ => by
    rw [List.nil_append, Lib.index, if_pos (by simp [List.isPrefixOf])]
    rfl
  | c :: a, r, h => by
    have hc : c ≠ 46 := fun e => h (by rw [e]; exact List.mem_cons_self)
    have ih := index_dot (a := a) (r := r) fun k => h (List.mem_cons_of_mem _ k)
    rw [List.cons_append, Lib.index, if_neg (by simp [List.isPrefixOf, Ne.symm hc]), ih, if_neg (by simp), List.length_cons]
    omega
theorem index_nodot : ∀ {a : List UInt8}, 46 ∉ a → Lib.index a [46] = -1
  | [], _ => rfl
  | c :: a, h => by
    have hc : c ≠ 46 := fun e => h (by rw [e]; exact List.mem_cons_self)
    have ih := index_nodot (a := a) fun k => h (List.mem_cons_of_mem _ k)
    rw [Lib.index, if_neg (by simp [List.isPrefixOf, Ne.symm hc]), ih]
    rfl
theorem split_sp : ∀ (n : Nat) (l : List UInt8), l.length ≤ n → Lib.splitK [46] 0 (Lib.count l [46]) l = sp l
  | n, l, hn => by
    rcases dot_cases l with h | ⟨a, r, h1, rfl⟩
    · rw [Lib.count_miss (index_nodot h), sp_end h]
      rfl
    · cases n with
      | zero => simp at hn
      | succ n =>
        have hr : r.length ≤ n := by simp at hn; omega
        have hi := index_dot (r := r) h1
        have hd : (a ++ 46 :: r).drop (a.length + ([46] : List UInt8).length) = r := by
          rw [← List.drop_drop, List.drop_left' rfl]
          rfl
        rw [Lib.count_hit (by simp) hi, hd, Nat.add_comm 1, Lib.splitK, hi, if_neg (by simp)]
        have e1 : ((a.length : Nat) : Int).toNat = a.length := by omega
        rw [e1, hd, split_sp n r hr, Nat.add_zero, List.take_left' rfl, sp_app, sp_end h1]
        rfl
/-- cells that were laid are read for ever -/
theorem evo_laid {M : Mem} {H : Heap} {w : World} (h : Inv M H w) (ss : List (List UInt8)) (hl : ∀ s ∈ ss, s.length ≤ 1125899906842624) (T : TypeId) : ∃ M', Evo H.keys M w M' (w.alloc (.cells (ss.map encStr).toArray T)) ∧ Inv M' H (w.alloc (.cells (ss.map encStr).toArray T)) ∧ atL M' (ss.map .str) w.heap.size 0 := by
  obtain ⟨e1, e2, e3⟩ := inv_var h (strs_rep (M := M) hl) T
  obtain ⟨M', g1, g2, g3⟩ := inv_ice e2 (Heap.Rem.here)
  refine ⟨M', (e1.mono (by simp)).trans g1 fun b hb => ?_, g2, g3⟩
  simp only [Heap.keys, List.map_cons, List.mem_cons] at hb
  rcases hb with rfl | hb
  · exact Or.inr (Nat.le_refl _)
  · exact Or.inl hb
set_option maxRecDepth 100000 in
theorem Split_con (s : List UInt8) (hs : s.length ≤ 1000) : Ans Tryz.prog 35 [.str s, .str [46]] (.sl .full 1 ((sp s).map .str)) := by
  intro H Q hq M w vs hG hI hargs
  simp only [repT] at hargs
  obtain ⟨v, _, rfl, hv, v2, _, rfl, hv2, rfl⟩ := hargs
  obtain ⟨rfl, _⟩ := str_arg hv
  obtain ⟨rfl, _⟩ := str_arg hv2
  obtain ⟨m, hm⟩ := hG.1.1
  rw [ent Tryz.func35 (by kernel_rfl) rfl]
  have hsz : (⟨s.toArray⟩ : ByteArray).size < 4294967281 := by show s.toArray.size < _; simp; omega
  refine Calls.mono (Any.strings_Split Tryz.l146 (by kernel_rfl) ⟨s.toArray⟩ ⟨#[46]⟩ m w hsz hm (by decide)) ?_
  rintro e w' ⟨rfl, hw⟩
  have hsp : (Lib.splitB ⟨#[46]⟩ 0 (Lib.countB ⟨s.toArray⟩ ⟨#[46]⟩) ⟨s.toArray⟩).map (·.data.toList) = sp s := by
    rw [Lib.splitB_data]
    exact split_sp _ s (Nat.le_refl _)
  have hst : (Lib.splitB ⟨#[46]⟩ 0 (Lib.countB ⟨s.toArray⟩ ⟨#[46]⟩) ⟨s.toArray⟩).map Value.string = (sp s).map encStr := by
    rw [← hsp, List.map_map]
    exact List.map_congr_left fun b _ => rfl
  have hlen : Lib.countB ⟨s.toArray⟩ ⟨#[46]⟩ + 1 = (sp s).length := by
    rw [← hsp, List.length_map]
    exact (Lib.splitB_all ⟨#[46]⟩ (by decide) 0 _ _ rfl).symm
  rw [hst] at hw
  rw [hlen]
  have hsl := sp_len s
  obtain ⟨M', g1, g2, g3⟩ := evo_laid hI (sp s) (fun p hp => by have := part_le hp; omega) (Tryz.l146_ren.t 9)
  rw [← hw] at g1 g2
  refine ⟨_, rfl, M', .sl .full 1 ((sp s).map .str), H, g1, g2, fun b hb => Or.inl hb, ?_, hq⟩
  simp only [rep]
  rw [List.length_map]
  exact ⟨_, _, rfl, Nat.le_refl _, by simp only [maxLen]; omega, nofun, wide_sts _, rfl, fun _ => ⟨_, _, rfl, atE.flat.2 (by rw [flat_strs]; exact g3)⟩⟩
end Go.Proofs.YtpjolipkmemcoaaGreatDoor

/-
  Fresh names, plain. No condition.
-/
namespace Go.Proofs.YtpjolipkmemcoaaGreatDoor

/-! digits -/
theorem decB_step (n : Nat) : decB n = (if n < 10 then [] else decB (n / 10)) ++ [UInt8.ofNat (48 + n % 10)] := by
  unfold decB
  rw [Lib.decDigits]
  by_cases h : n < 10
  · rw [dif_pos h, if_pos h, Nat.mod_eq_of_lt h]; rfl
  · rw [dif_neg h, if_neg h]
theorem dig_of {k : Nat} (h : k < 10) : digB (UInt8.ofNat (48 + k)) = true := by
  have : k = 0 ∨ k = 1 ∨ k = 2 ∨ k = 3 ∨ k = 4 ∨ k = 5 ∨ k = 6 ∨ k = 7 ∨ k = 8 ∨ k = 9 := by omega
  rcases this with rfl | rfl | rfl | rfl | rfl | rfl | rfl | rfl | rfl | rfl <;> decide
theorem dec_dig (n : Nat) : ∀ c ∈ decB n, digB c = true := by
  induction n using Nat.strongRecOn with
  | _ n ih =>
    intro c hc
    rw [decB_step] at hc
    rcases List.mem_append.1 hc with hc | hc
    · by_cases h : n < 10
      · rw [if_pos h] at hc; cases hc
      · rw [if_neg h] at hc
        exact ih (n / 10) (by omega) c hc
    · rw [List.mem_singleton] at hc
      subst hc
      exact dig_of (Nat.mod_lt _ (by decide))
theorem dec_len {k n : Nat} (hk : 0 < k) (h : n < 10 ^ k) : (decB n).length ≤ k := by
  induction k generalizing n with
  | zero => omega
  | succ k ih =>
    rw [decB_step, List.length_append]
    by_cases hn : n < 10
    · rw [if_pos hn]; simp
    · rw [if_neg hn]
      have hk' : 0 < k := by
        rcases Nat.eq_zero_or_pos k with rfl | h0
        · simp at h; omega
        · exact h0
      rw [Nat.pow_succ] at h
      have := ih (n := n / 10) hk' (by omega)
      simp only [List.length_cons, List.length_nil]
      omega
theorem ofNat_inj {a b : Nat} (ha : a < 10) (hb : b < 10) (h : UInt8.ofNat (48 + a) = UInt8.ofNat (48 + b)) : a = b := by
  have := congrArg UInt8.toNat h
  simp only [UInt8.toNat_ofNat'] at this
  omega
theorem dec_inj : ∀ (n m : Nat), decB n = decB m → n = m := by
  intro n
  induction n using Nat.strongRecOn with
  | _ n ih =>
    intro m h
    rw [decB_step n, decB_step m] at h
    obtain ⟨h1, h2⟩ := List.append_inj' h rfl
    have h3 := ofNat_inj (Nat.mod_lt _ (by decide)) (Nat.mod_lt _ (by decide)) (List.cons.inj h2).1
    have hne : ∀ k, decB k ≠ [] := fun k e => by
      rw [decB_step] at e
      simp at e
    by_cases hn : n < 10
    · rw [if_pos hn] at h1
      by_cases hm : m < 10
      · omega
      · rw [if_neg hm] at h1
        exact absurd h1.symm (hne _)
    · rw [if_neg hn] at h1
      by_cases hm : m < 10
      · rw [if_pos hm] at h1
        exact absurd h1 (hne _)
      · rw [if_neg hm] at h1
        have := ih (n / 10) (by omega) (m / 10) h1
        omega
/-! a fresh name -/
def tailB (n : Nat) : List UInt8 := 95 :: decB n
def frontB (s : List UInt8) (m : Nat) : List UInt8 := if (s.take m).length < s.length then Lib.trimRightB (s.take m) 46 else s.take m
def freshAt (s : List UInt8) (n : Nat) : List UInt8 := frontB s (min s.length (40 - (tailB n).length)) ++ tailB n
/-- the names that are tried, one behind the other -/
def freshK (s : List UInt8) : Nat → List UInt8
  | 0 => s
  | n + 1 => freshAt s (n + 1)
theorem tail_inj {a b x y : List UInt8} (hx : 95 ∉ x) (hy : 95 ∉ y) (h : a ++ 95 :: x = b ++ 95 :: y) : x = y := by
  have key : ∀ (x y a b : List UInt8), 95 ∉ x → 95 ∉ y → x ++ 95 :: a = y ++ 95 :: b → x = y := by
    intro x
    induction x with
    | nil =>
      intro y a b _ hy h
      cases y with
      | nil => rfl
      | cons c y =>
        rw [List.nil_append, List.cons_append] at h
        exact absurd (by rw [← (List.cons.inj h).1]; exact List.mem_cons_self) hy
    | cons c x ih =>
      intro y a b hx hy h
      cases y with
      | nil =>
        rw [List.nil_append, List.cons_append] at h
        exact absurd (by rw [(List.cons.inj h).1]; exact List.mem_cons_self) hx
      | cons d y =>
        rw [List.cons_append, List.cons_append] at h
        obtain ⟨h1, h2⟩ := List.cons.inj h
        rw [h1, ih y a b (fun k => hx (List.mem_cons_of_mem _ k)) (fun k => hy (List.mem_cons_of_mem _ k)) h2]
  have h' := congrArg List.reverse h
  rw [List.reverse_append, List.reverse_append, List.reverse_cons, List.reverse_cons, List.append_assoc, List.append_assoc] at h'
  have := key x.reverse y.reverse a.reverse b.reverse (fun k => hx (List.mem_reverse.1 k)) (fun k => hy (List.mem_reverse.1 k)) h'
  exact List.reverse_inj.1 this
theorem dec_no95 (n : Nat) : 95 ∉ decB n := fun h => absurd (dec_dig n 95 h) (by decide)
theorem dec_no46 (n : Nat) : 46 ∉ decB n := fun h => absurd (dec_dig n 46 h) (by decide)
theorem freshAt_inj {s : List UInt8} {i j : Nat} (h : freshAt s i = freshAt s j) : i = j := dec_inj _ _ (tail_inj (dec_no95 i) (dec_no95 j) h)
/-- one of so many isn't taken -/
theorem fresh_ex (s : List UInt8) (taken : List (List UInt8)) : ∃ k, k ≤ taken.length + 1 ∧ freshK s k ∉ taken := by
  by_cases h : ∃ k, k ≤ taken.length + 1 ∧ freshK s k ∉ taken
  · exact h
  · exfalso
    have hall : ∀ k, k ≤ taken.length + 1 → freshK s k ∈ taken := fun k hk => by
      by_cases h1 : freshK s k ∈ taken
      · exact h1
      · exact absurd ⟨k, hk, h1⟩ h
    have hn : ((List.range (taken.length + 1)).map fun i => freshAt s (i + 1)).Nodup := by
      unfold List.Nodup
      rw [List.pairwise_map]
      refine List.Pairwise.imp ?_ (List.pairwise_lt_range (n := taken.length + 1))
      intro a b hab e
      have := freshAt_inj e
      omega
    have := hn.length_le_of_subset (l₂ := taken) fun x hx => by
      obtain ⟨i, hi, rfl⟩ := List.mem_map.1 hx
      exact hall (i + 1) (by have := List.mem_range.1 hi; omega)
    rw [List.length_map, List.length_range] at this
    omega
/-- the first that isn't taken -/
def freshN (s : List UInt8) (taken : List (List UInt8)) : Nat := (List.range (taken.length + 2)).findIdx fun k => !decide (freshK s k ∈ taken)
theorem freshN_spec (s : List UInt8) (taken : List (List UInt8)) : freshN s taken ≤ taken.length + 1 ∧ freshK s (freshN s taken) ∉ taken ∧ ∀ k, k < freshN s taken → freshK s k ∈ taken := by
  obtain ⟨k, hk, hf⟩ := fresh_ex s taken
  have hlt : freshN s taken < (List.range (taken.length + 2)).length := List.findIdx_lt_length_of_exists ⟨k, List.mem_range.2 (by omega), by rw [decide_eq_false hf]; rfl⟩
  have h1 : (!decide (freshK s ((List.range (taken.length + 2))[freshN s taken]'hlt) ∈ taken)) = true := List.findIdx_getElem (p := fun k => !decide (freshK s k ∈ taken)) (w := hlt)
  rw [List.getElem_range] at h1
  have hlt2 := hlt
  rw [List.length_range] at hlt2
  refine ⟨by omega, fun hc => ?_, fun j hj => ?_⟩
  · rw [decide_eq_true hc] at h1
    cases h1
  · have hjl : j < (List.range (taken.length + 2)).length := Nat.lt_trans hj hlt
    have h2 : (!decide (freshK s ((List.range (taken.length + 2))[j]'hjl) ∈ taken)) = false := List.not_of_lt_findIdx (p := fun k => !decide (freshK s k ∈ taken)) (xs := List.range (taken.length + 2)) (i := j) hj
    rw [List.getElem_range] at h2
    by_cases hc : freshK s j ∈ taken
    · exact hc
    · rw [decide_eq_false hc] at h2
      cases h2
theorem freshN_eq {s : List UInt8} {taken : List (List UInt8)} {k : Nat} (h : freshK s k ∉ taken) (h1 : ∀ j, j < k → freshK s j ∈ taken) : freshN s taken = k := by
  obtain ⟨_, g2, g3⟩ := freshN_spec s taken
  rcases Nat.lt_trichotomy (freshN s taken) k with h2 | h2 | h2
  · exact absurd (h1 _ h2) g2
  · exact h2
  · exact absurd (g3 _ h2) h
def nmFresh (s : List UInt8) (taken : List (List UInt8)) : List UInt8 := if nameOk s = true then freshK s (freshN s taken) else []
theorem fresh_free {s : List UInt8} {taken : List (List UInt8)} (h : nameOk s = true) : nmFresh s taken ∉ taken ∧ (s ∉ taken ↔ nmFresh s taken = s) := by
  rw [nmFresh, if_pos h]
  obtain ⟨_, g2, g3⟩ := freshN_spec s taken
  refine ⟨g2, fun k => ?_, fun k => ?_⟩
  · rw [freshN_eq (k := 0) k (fun j hj => absurd hj (Nat.not_lt_zero _))]
    rfl
  · rw [← k]; exact g2
/-! a fresh name is right -/
theorem nm_prefix : ∀ (f : Bool) (t u : List UInt8), t.getLast? ≠ some 46 → t ≠ [] → nmGo f (t ++ u) = true → nmGo f t = true
  | _, [], _, _, h, _ => absurd rfl h
  | f, c :: t, u, hl, _, h => by
    rw [List.cons_append, nmGo_cons] at h
    rw [nmGo_cons]
    by_cases hc : c = 46
    · subst hc
      rw [if_pos (by rfl)] at h ⊢
      cases f with
      | true => exact h
      | false =>
        rw [if_neg (by decide)] at h ⊢
        cases t with
        | nil => exact absurd rfl hl
        | cons d t => exact nm_prefix true (d :: t) u (by rwa [List.getLast?_cons_cons] at hl) (by simp) h
    · have hb : (c == 46) = false := beq_false_of_ne hc
      rw [hb] at h ⊢
      rw [if_neg (by decide)] at h ⊢
      split at h
      · rename_i hq
        rw [if_pos hq]
        cases t with
        | nil => rfl
        | cons d t => exact nm_prefix false (d :: t) u (by rwa [List.getLast?_cons_cons] at hl) (by simp) h
      · cases h
theorem nm_more : ∀ (f : Bool) (t x : List UInt8), nmGo f t = true → 46 ∉ x → x.all okB = true → nmGo f (t ++ x) = true
  | f, [], x, h, h1, h2 => by
    cases f with
    | true => cases h
    | false => rw [List.nil_append, nm_false_end x h1]; exact h2
  | f, c :: t, x, h, h1, h2 => by
    rw [List.cons_append, nmGo_cons]
    rw [nmGo_cons] at h
    split at h
    · rename_i hc
      rw [if_pos hc]
      split at h
      · cases h
      · rename_i hf
        rw [if_neg hf]
        exact nm_more true t x h h1 h2
    · rename_i hc
      rw [if_neg hc]
      split at h
      · rename_i hq
        rw [if_pos hq]
        exact nm_more false t x h h1 h2
      · cases h
theorem trim_spec (l : List UInt8) : ∃ u, l = Lib.trimRightB l 46 ++ u ∧ (∀ c ∈ u, c = 46) ∧ (Lib.trimRightB l 46).getLast? ≠ some 46 := by
  unfold Lib.trimRightB
  refine ⟨(l.reverse.takeWhile (· == 46)).reverse, ?_, fun c hc => ?_, ?_⟩
  · rw [← List.reverse_append, List.takeWhile_append_dropWhile, List.reverse_reverse]
  · have := List.all_eq_true.1 (List.all_takeWhile (p := fun x : UInt8 => x == 46) (l := l.reverse)) c (List.mem_reverse.1 hc)
    simpa using this
  · rw [List.getLast?_reverse]
    intro h
    have := List.head?_dropWhile_not (fun c : UInt8 => c == 46) l.reverse
    rw [h] at this
    simp at this
theorem fresh_ok {s : List UInt8} {taken : List (List UInt8)} (h : nameOk s = true) (ht : taken.length ≤ 9000) : nameOk (nmFresh s taken) = true := by
  rw [nmFresh, if_pos h]
  obtain ⟨g1, _, _⟩ := freshN_spec s taken
  cases hk : freshN s taken with
  | zero => exact h
  | succ n =>
    rw [hk] at g1
    show nameOk (freshAt s (n + 1)) = true
    have hd := dec_len (k := 4) (n := n + 1) (by decide) (by omega)
    have hdp : 0 < (decB (n + 1)).length := by rw [decB_step]; simp
    have htl : (tailB (n + 1)).length = (decB (n + 1)).length + 1 := rfl
    have h' := h
    unfold nameOk at h'
    simp only [Bool.and_eq_true, decide_eq_true_eq] at h'
    obtain ⟨⟨h1, h2⟩, h3⟩ := h'
    obtain ⟨c0, s0, hs⟩ : ∃ c s0, s = c :: s0 := by
      cases s with
      | nil => exact absurd h1 (by decide)
      | cons c s0 => exact ⟨c, s0, rfl⟩
    have hc0 : c0 ≠ 46 := by
      rintro rfl
      rw [hs, nmGo_cons, if_pos (by rfl), if_pos rfl] at h3
      cases h3
    obtain ⟨m, hm⟩ : ∃ m, min s.length (40 - (tailB (n + 1)).length) = m := ⟨_, rfl⟩
    have hm1 : 1 ≤ m := by omega
    have hms : m ≤ s.length := by omega
    have hm40 : m + (tailB (n + 1)).length ≤ 40 := by omega
    have hfront : nmGo true (frontB s m) = true ∧ (frontB s m).length ≤ m := by
      unfold frontB
      split
      · obtain ⟨u, e1, e2, e3⟩ := trim_spec (s.take m)
        have hle : (Lib.trimRightB (s.take m) 46).length ≤ m := by
          have := congrArg List.length e1
          rw [List.length_append, List.length_take] at this
          omega
        refine ⟨?_, hle⟩
        refine nm_prefix true _ (u ++ s.drop m) e3 ?_ ?_
        · intro e0
          rw [e0, List.nil_append] at e1
          have : c0 ∈ u := by
            rw [← e1, hs]
            obtain ⟨m', rfl⟩ : ∃ m', m = m' + 1 := ⟨m - 1, by omega⟩
            rw [List.take_succ_cons]
            exact List.mem_cons_self
          exact hc0 (e2 c0 this)
        · rw [← List.append_assoc, ← e1, List.take_append_drop]
          exact h3
      · rename_i hlt
        rw [List.length_take] at hlt
        rw [List.take_of_length_le (by omega)]
        exact ⟨h3, by omega⟩
    have hx : 46 ∉ tailB (n + 1) := by
      intro k
      rcases List.mem_cons.1 k with k | k
      · exact absurd k (by decide)
      · exact dec_no46 _ k
    have hx2 : (tailB (n + 1)).all okB = true := by
      rw [List.all_eq_true]
      intro c hc
      rcases List.mem_cons.1 hc with rfl | hc
      · decide
      · show (letB c || digB c) = true
        rw [dec_dig _ c hc, Bool.or_true]
    unfold freshAt
    rw [hm]
    unfold nameOk
    rw [nm_more true _ _ hfront.1 hx hx2, List.length_append, Bool.and_true, Bool.and_eq_true, decide_eq_true_eq, decide_eq_true_eq]
    have := hfront.2
    omega
end Go.Proofs.YtpjolipkmemcoaaGreatDoor

/-
  The program's names: Parts, Parent, Last, Under, Fresh. No condition.
-/
namespace Go.Proofs.YtpjolipkmemcoaaGreatDoor
open Go.RowKit

theorem nameOk_len40 {s : List UInt8} (h : nameOk s = true) : s.length ≤ 40 := nameOk_len h
set_option maxRecDepth 100000 in
theorem Parts_con (s : List UInt8) : Ans Tryz.prog 16 [.str s] (stsX (nmParts s)) := by
  intro H Q hq
  refine con_of_awp (esc := fun _ => false) tab_ok mixed Tryz.func16 rfl (ent Tryz.func16 (by kernel_rfl) rfl) (by kernel_rfl) ?_
  intro hw hn
  cases hok : nameOk s with
  | false =>
    rw [nmParts, if_neg (by rw [hok]; simp)] at hq
    refine ⟨_, LeL.refl _, (nameRight_con s).as hok _ _ ?_⟩
    intro hz1 hz2; clear hz1 hz2
    exact ⟨_, H, Le.nil _ _, List.Sublist.refl _, hq⟩
  | true =>
    rw [nmParts, if_pos hok] at hq
    have hl := nameOk_len hok
    refine ⟨_, LeL.refl _, (nameRight_con s).as hok _ _ ?_⟩
    intro hz1 hz2; clear hz1 hz2
    refine ⟨_, LeL.refl _, Split_con s (by omega) _ _ ?_⟩
    intro hz1 hz2; clear hz1 hz2
    exact ⟨_, H, Le.own _ _ _, List.Sublist.refl _, hq⟩
set_option maxRecDepth 100000 in
theorem cut_con (s : List UInt8) : Ans Tryz.prog 36 [.str s] (.tup [.str (nmCut s).1, .str (nmCut s).2]) := by
  intro H Q hq
  have fin : ∀ q : List UInt8 × List UInt8, q = nmCut s → ∃ r H', Le (.tup [.str q.1, .str q.2]) r ∧ List.Sublist H' H ∧ Q r H' := fun q h => ⟨_, H, Le.refl _, List.Sublist.refl _, by rw [h]; exact hq⟩
  refine con_of_awp (esc := fun _ => false) tab_ok mixed Tryz.func36 rfl (ent Tryz.func36 (by kernel_rfl) rfl) (by kernel_rfl) ?_
  intro hw hn
  cases hok : nameOk s with
  | false =>
    refine ⟨_, LeL.refl _, (nameRight_con s).as hok _ _ ?_⟩
    intro hz1 hz2; clear hz1 hz2
    exact fin ([], []) (by rw [nmCut, if_neg (by rw [hok]; simp)])
  | true =>
    have hl := nameOk_len hok
    refine ⟨_, LeL.refl _, (nameRight_con s).as hok _ _ ?_⟩
    intro hz1 hz2; clear hz1 hz2
    rcases dot_last s with hd | ⟨a, r, hd, hs⟩
    · refine ⟨_, LeL.refl _, (LastIndex_con s (by omega)).to (congrArg AV.i (last_none hd)) _ _ ?_⟩
      intro hz1 hz2; clear hz1 hz2
      exact fin ([], s) (by rw [nmCut, if_pos hok, cut_none hd])
    · subst hs
      rw [List.length_append, List.length_cons] at hl
      have hal : (a ++ 46 :: r).length = a.length + (r.length + 1) := by rw [List.length_append, List.length_cons]
      refine ⟨_, LeL.refl _, (LastIndex_con (a ++ 46 :: r) (by omega)).to (congrArg AV.i (last_some hd)) _ _ ?_⟩
      intro hz1 hz2; clear hz1 hz2
      refine ⟨[0, 1, 2, 3, 4, 5, 6, 7, 8], [], by kernel_rfl, by simp, ?_⟩
      refine ⟨a.length, rfl, ⟨Nat.zero_le _, by omega⟩, ?_⟩
      refine ⟨in64_of (by first | omega | (dsimp only; omega)) (by first | omega | (dsimp only; omega)), ?_⟩
      refine ⟨a.length + 1, rfl, (by omega), ?_⟩
      refine ⟨.tup [.str a, .str r], H, le_of_eq ?_, List.Sublist.refl _, ?_⟩
      · show AV.tup [.str (((a ++ 46 :: r).drop 0).take (a.length - 0)), .str (((a ++ 46 :: r).drop (a.length + 1)).take ((a ++ 46 :: r).length - (a.length + 1)))] = _
        rw [List.drop_zero, Nat.sub_zero, List.take_left' rfl, ← List.drop_drop, List.drop_left' rfl, hal]
        rw [show (46 :: r).drop 1 = r from rfl, List.take_of_length_le (by omega)]
      · rw [nmCut, if_pos hok, cut_some hd] at hq
        exact hq
set_option maxRecDepth 100000 in
theorem Parent_con (s : List UInt8) : Ans Tryz.prog 18 [.str s] (.str (nmParent s)) := by
  intro H Q hq
  refine con_of_awp (esc := fun _ => false) tab_ok mixed Tryz.func18 rfl (ent Tryz.func18 (by kernel_rfl) rfl) (by kernel_rfl) ?_
  intro hw hn
  refine ⟨_, LeL.refl _, cut_con s _ _ ?_⟩
  intro hz1 hz2; clear hz1 hz2
  exact ⟨_, H, Le.refl _, List.Sublist.refl _, hq⟩
set_option maxRecDepth 100000 in
theorem Last_con (s : List UInt8) : Ans Tryz.prog 20 [.str s] (.str (nmLast s)) := by
  intro H Q hq
  refine con_of_awp (esc := fun _ => false) tab_ok mixed Tryz.func20 rfl (ent Tryz.func20 (by kernel_rfl) rfl) (by kernel_rfl) ?_
  intro hw hn
  refine ⟨_, LeL.refl _, cut_con s _ _ ?_⟩
  intro hz1 hz2; clear hz1 hz2
  exact ⟨_, H, Le.refl _, List.Sublist.refl _, hq⟩
set_option maxRecDepth 100000 in
theorem Under_con (s top : List UInt8) : Ans Tryz.prog 22 [.str s, .str top] (.b (nmUnder s top)) := by
  intro H Q hq
  have fin : ∀ q : Bool, q = nmUnder s top → ∃ r H', Le (.b q) r ∧ List.Sublist H' H ∧ Q r H' := fun q h => ⟨_, H, ret_b h, List.Sublist.refl _, hq⟩
  refine con_of_awp (esc := fun _ => false) tab_ok mixed Tryz.func22 rfl (ent Tryz.func22 (by kernel_rfl) rfl) (by kernel_rfl) ?_
  intro hw hn
  cases h1 : nameOk s with
  | false =>
    refine ⟨_, LeL.refl _, (nameRight_con s).as h1 _ _ ?_⟩
    intro hz1 hz2; clear hz1 hz2
    exact fin _ (by rw [nmUnder, h1]; rfl)
  | true =>
    refine ⟨_, LeL.refl _, (nameRight_con s).as h1 _ _ ?_⟩
    intro hz1 hz2; clear hz1 hz2
    cases h2 : nameOk top with
    | false =>
      refine ⟨_, LeL.refl _, (nameRight_con top).as h2 _ _ ?_⟩
      intro hz1 hz2; clear hz1 hz2
      exact fin _ (by rw [nmUnder, h1, h2]; rfl)
    | true =>
      have hl := nameOk_len h2
      refine ⟨_, LeL.refl _, (nameRight_con top).as h2 _ _ ?_⟩
      intro hz1 hz2; clear hz1 hz2
      refine ifB_dec (fun h3 => ?_) (fun h3 => ?_)
      · exact fin _ (by rw [nmUnder, h1, h2, decide_eq_true h3]; rfl)
      · refine ⟨(by show top.length + 1 ≤ _; omega), ?_⟩
        refine ⟨_, LeL.refl _, HasPrefix_con s (top ++ [46]) _ _ ?_⟩
        intro hz1 hz2; clear hz1 hz2
        exact fin _ (by rw [nmUnder, h1, h2, decide_eq_false h3]; rfl)
set_option maxRecDepth 100000 in
set_option maxHeartbeats 1000000 in
theorem Fresh_con (o : Own) (s : List UInt8) (taken : List (List UInt8)) (ht : taken.length ≤ 9000) : Ans Tryz.prog 24 [.str s, .sl o 1 (taken.map .str)] (.str (nmFresh s taken)) := by
  intro H Q hq
  refine con_of_awp (esc := fun _ => false) tab_ok mixed Tryz.func24 rfl (ent Tryz.func24 (by kernel_rfl) rfl) (by kernel_rfl) ?_
  intro hw hn
  clear hw hn
  cases hok : nameOk s with
  | false =>
    rw [nmFresh, if_neg (by rw [hok]; simp)] at hq
    refine ⟨_, LeL.refl _, (nameRight_con s).as hok _ _ ?_⟩
    intro hz1 hz2; clear hz1 hz2
    exact ⟨_, H, Le.refl _, List.Sublist.refl _, hq⟩
  | true =>
    rw [nmFresh, if_pos hok] at hq
    have hl := nameOk_len hok
    obtain ⟨g1, g2, g3⟩ := freshN_spec s taken
    refine ⟨_, LeL.refl _, (nameRight_con s).as hok _ _ ?_⟩
    intro hz1 hz2; clear hz1 hz2
    refine ⟨Nat, fun k => ⟨[(0, .g (.str s)), (1, .g (.sl o 1 (taken.map .str))), (4, .g (.str [])), (5, .g (.str (freshK s k))), (6, .g (.i ((k : Int) + 1)))], [], H⟩, fun k => k ≤ freshN s taken, fun k => freshN s taken - k, ⟨0, Nat.zero_le _, ?_⟩, ?_⟩
    · (constructor <;> repeat' (first | exact trivial | exact ⟨rfl, rfl⟩ | exact ⟨rfl, LeL.refl _⟩ | exact Le.refl _ | exact List.Sublist.refl _ | (show Le (AV.i _) (AV.i _); rw [List.length_map]; exact Le.refl _) | refine And.intro ?_ ?_))
    · intro k hk
      by_cases hm : freshK s k ∈ taken
      · have hlt : k < freshN s taken := by
          rcases Nat.lt_or_eq_of_le hk with h | h
          · exact h
          · rw [h] at hm; exact absurd hm g2
        have hd := dec_len (k := 4) (n := k + 1) (by decide) (by omega)
        have htl : (tailB (k + 1)).length = (decB (k + 1)).length + 1 := rfl
        obtain ⟨m, hmm⟩ : ∃ m, min s.length (40 - (tailB (k + 1)).length) = m := ⟨_, rfl⟩
        have hmi : min (s.length : Int) (40 - ((tailB (k + 1)).length : Int)) = (m : Int) := by omega
        have hms : m ≤ s.length := by omega
        have htk : (s.take m).length = m := by rw [List.length_take]; omega
        have hfr : freshK s (k + 1) = frontB s m ++ tailB (k + 1) := by rw [← hmm]; rfl
        have htr : (Lib.trimRightB (s.take m) 46).length ≤ m := by
          obtain ⟨u, e1, _, _⟩ := trim_spec (s.take m)
          have := congrArg List.length e1
          rw [List.length_append, htk] at this
          omega
        refine ⟨_, LeL.refl _, (ContainsS_con o taken (freshK s k)).as (decide_eq_true hm) _ _ ?_⟩
        intro hz1 hz2; clear hz1 hz2
        refine ⟨_, LeL.refl _, Itoa_con (k + 1) (by omega) _ _ ?_⟩
        intro hz1 hz2; clear hz1 hz2
        refine ⟨(by show 1 + _ ≤ _; omega), ?_⟩
        refine ⟨in64_of (show (-9223372036854775808 : Int) ≤ 40 - (((decB (k + 1)).length + 1 : Nat) : Int) by omega) (show (40 - (((decB (k + 1)).length + 1 : Nat) : Int)) ≤ 9223372036854775807 by omega), ?_⟩
        refine ⟨m, hmi, ⟨Nat.zero_le _, hms⟩, ?_⟩
        refine ifB_dec (fun hf => ?_) (fun hf => ?_)
        · have hf' : (s.take m).length < s.length := by
            have h1 : (((s.take m).length : Nat) : Int) < (s.length : Int) := hf
            omega
          have hfr2 : freshK s (k + 1) = Lib.trimRightB (s.take m) 46 ++ tailB (k + 1) := by rw [hfr, frontB, if_pos hf']
          refine ⟨[.str (s.take m), .str [46]], ⟨Le.refl _, Le.refl _, trivial⟩, TrimRight_con (s.take m) (by omega) _ _ ?_⟩
          intro hz1 hz2; clear hz1 hz2
          refine ⟨(show (Lib.trimRightB (s.take m) 46).length + ((decB (k + 1)).length + 1) ≤ 1125899906842624 by omega), ?_⟩
          refine ⟨in64_of (by first | omega | (dsimp only; omega)) (by first | omega | (dsimp only; omega)), ?_⟩
          refine ⟨k + 1, hlt, by (try dsimp only); omega, ?_⟩
          refine ⟨⟨Le.refl _, Le.refl _, Le.refl _, le_of_eq (congrArg AV.str hfr2.symm), le_of_eq (congrArg AV.i (by omega)), trivial⟩, trivial, List.Sublist.refl _⟩
        · have hf' : ¬ (s.take m).length < s.length := by
            have h1 : ¬ (((s.take m).length : Nat) : Int) < (s.length : Int) := hf
            omega
          have hfr2 : freshK s (k + 1) = s.take m ++ tailB (k + 1) := by rw [hfr, frontB, if_neg hf']
          refine ⟨(show (s.take m).length + ((decB (k + 1)).length + 1) ≤ 1125899906842624 by omega), ?_⟩
          refine ⟨in64_of (by first | omega | (dsimp only; omega)) (by first | omega | (dsimp only; omega)), ?_⟩
          refine ⟨k + 1, hlt, by (try dsimp only); omega, ?_⟩
          refine ⟨⟨Le.refl _, Le.refl _, Le.refl _, le_of_eq (congrArg AV.str hfr2.symm), le_of_eq (congrArg AV.i (by omega)), trivial⟩, trivial, List.Sublist.refl _⟩
      · have hkk : freshN s taken = k := freshN_eq hm fun j hj => g3 j (by omega)
        rw [hkk] at hq
        refine ⟨_, LeL.refl _, (ContainsS_con o taken (freshK s k)).as (decide_eq_false hm) _ _ ?_⟩
        intro hz1 hz2; clear hz1 hz2
        exact ⟨_, H, Le.refl _, List.Sublist.refl _, hq⟩
end Go.Proofs.YtpjolipkmemcoaaGreatDoor

/-
  What the reference's names come to, plain. No condition.
-/
namespace Go.Proofs.YtpjolipkmemcoaaGreatDoor
open Go.RowKit

/-! parts -/
theorem sp_snoc_dot (l : List UInt8) : sp (l ++ [46]) = sp l ++ [[]] := sp_app l []
theorem sp_snoc {l x : List UInt8} {o : List (List UInt8)} {c : UInt8} (hc : c ≠ 46) (h : sp l = o ++ [x]) : sp (l ++ [c]) = o ++ [x ++ [c]] := by
  rcases dot_last l with hd | ⟨a, r, hd, rfl⟩
  · rw [sp_end hd] at h
    have hl := congrArg List.length h
    rw [List.length_append, List.length_singleton, List.length_singleton] at hl
    obtain rfl : o = [] := List.length_eq_zero_iff.1 (by omega)
    rw [List.nil_append] at h ⊢
    obtain rfl : l = x := (List.cons.inj h).1
    refine sp_end fun k => ?_
    rcases List.mem_append.1 k with k | k
    · exact hd k
    · rw [List.mem_singleton] at k
      exact hc k.symm
  · rw [sp_app, sp_end hd] at h
    obtain ⟨h1, h2⟩ := List.append_inj' h rfl
    obtain rfl : r = x := (List.cons.inj h2).1
    rw [List.append_assoc, List.cons_append, sp_app, h1, sp_end]
    intro k
    rcases List.mem_append.1 k with k | k
    · exact hd k
    · rw [List.mem_singleton] at k
      exact hc k.symm
/-- behind so many bytes: the parts that are shut, and where the open one begins -/
def SpAt (s : List UInt8) (i d : Nat) (out : List (List UInt8)) : Prop := d ≤ i ∧ sp (s.take i) = out ++ [(s.take i).drop d]
theorem spAt_zero (s : List UInt8) : SpAt s 0 0 [] := ⟨Nat.le_refl _, by rw [List.take_zero]; rfl⟩
theorem spAt_dot {s : List UInt8} {i d : Nat} {out : List (List UInt8)} (h : SpAt s i d out) (hi : i < s.length) (hc : s[i] = 46) : SpAt s (i + 1) (i + 1) (out ++ [(s.take i).drop d]) := by
  refine ⟨Nat.le_refl _, ?_⟩
  have e : (s.take i ++ [46]).drop (i + 1) = [] := List.drop_of_length_le (by rw [List.length_append, List.length_take, List.length_singleton]; omega)
  rw [List.take_succ_eq_append_getElem hi, hc, sp_snoc_dot, h.2, e]
theorem spAt_other {s : List UInt8} {i d : Nat} {out : List (List UInt8)} (h : SpAt s i d out) (hi : i < s.length) (hc : s[i] ≠ 46) : SpAt s (i + 1) d out := by
  refine ⟨by have := h.1; omega, ?_⟩
  rw [List.take_succ_eq_append_getElem hi, sp_snoc hc h.2, List.drop_append_of_le_length (by rw [List.length_take]; have := h.1; omega)]
theorem spAt_end {s : List UInt8} {d : Nat} {out : List (List UInt8)} (h : SpAt s s.length d out) : out ++ [(s.take s.length).drop d] = sp s := by
  rw [← h.2, List.take_length]
theorem spAt_len {s : List UInt8} {i d : Nat} {out : List (List UInt8)} (h : SpAt s i d out) (hi : i ≤ s.length) : out.length ≤ i := by
  have h1 := sp_len (s.take i)
  rw [h.2, List.length_append, List.length_take, List.length_singleton] at h1
  omega
/-! join -/
theorem join_snoc {ps : List (List UInt8)} {k : Nat} (hk : k < ps.length) : Lib.join (ps.take (k + 1)) [46] = Lib.join (ps.take k) [46] ++ (if 0 < k then [46] else []) ++ ps[k] := by
  cases ps with
  | nil => exact absurd hk (Nat.not_lt_zero _)
  | cons p ps =>
    cases k with
    | zero =>
      rw [if_neg (by omega)]
      simp [Lib.join_one, Lib.join]
    | succ k =>
      have hk' : k < ps.length := by simpa using hk
      rw [if_pos (by omega), List.take_succ_cons, List.take_succ_cons, Lib.join_cons, Lib.join_cons]
      unfold Lib.joinTail
      rw [List.take_succ_eq_append_getElem hk', List.map_append, List.flatten_append]
      simp
theorem join_long {ps : List (List UInt8)} {k : Nat} (h : 40 < (Lib.join (ps.take k) [46]).length) : nameOk (Lib.join ps [46]) = false := by
  have key : ∀ j, (Lib.join (ps.take k) [46]).length ≤ (Lib.join (ps.take (k + j)) [46]).length := by
    intro j
    induction j with
    | zero => exact Nat.le_refl _
    | succ j ih =>
      by_cases hk : k + j < ps.length
      · rw [← Nat.add_assoc, join_snoc hk, List.length_append, List.length_append]
        omega
      · have e : ps.take (k + (j + 1)) = ps.take (k + j) := by rw [List.take_of_length_le (i := k + (j + 1)) (by omega), List.take_of_length_le (i := k + j) (by omega)]
        rw [e]
        exact ih
  have h1 := key ps.length
  rw [List.take_of_length_le (l := ps) (i := k + ps.length) (by omega)] at h1
  cases hb : nameOk (Lib.join ps [46]) with
  | false => rfl
  | true => have := nameOk_len hb; omega
theorem nmJoin_bad {ps : List (List UInt8)} {k : Nat} (hk : k < ps.length) (h : nameOk ps[k] = false) : nmJoin ps = ([], false) := by
  rw [nmJoin, if_pos]
  exact Or.inl (List.any_eq_true.2 ⟨_, List.getElem_mem hk, by rw [h]; rfl⟩)
theorem nmJoin_long {ps : List (List UInt8)} {k : Nat} (h : 40 < (Lib.join (ps.take k) [46]).length) : nmJoin ps = ([], false) := by
  rw [nmJoin, if_pos]
  exact Or.inr (join_long h)
theorem nmJoin_end {ps : List (List UInt8)} (h : ∀ p ∈ ps, nameOk p = true) : nmJoin ps = if nameOk (Lib.join ps [46]) = true then (Lib.join ps [46], true) else ([], false) := by
  have h1 : (ps.any fun s => !nameOk s) = false := by
    rw [List.any_eq_false]
    intro p hp
    rw [h p hp]
    decide
  unfold nmJoin
  rw [h1]
  cases nameOk (Lib.join ps [46]) <;> simp
/-! the place of the last dot -/
def dotZ (s : List UInt8) : Int := Lib.lastIndexByte ⟨s.toArray⟩ 46
theorem dotZ_none {s : List UInt8} (h : 46 ∉ s) : dotZ s = -1 := last_none h
theorem dotZ_some {a r : List UInt8} (h : 46 ∉ r) : dotZ (a ++ 46 :: r) = a.length := last_some h
theorem dotZ_at {s : List UInt8} {i : Nat} (hi : i < s.length) (hc : s[i] = 46) (h : 46 ∉ s.drop (i + 1)) : dotZ s = i := by
  have e : s = s.take i ++ 46 :: s.drop (i + 1) := by
    rw [← hc, ← List.drop_eq_getElem_cons hi, List.take_append_drop]
  have hl : (s.take i).length = i := by rw [List.length_take]; omega
  have := dotZ_some (a := s.take i) h
  rw [← e, hl] at this
  exact this
/-! the shortened front -/
theorem trim_dot {l : List UInt8} : Lib.trimRightB (l ++ [46]) 46 = Lib.trimRightB l 46 := by
  unfold Lib.trimRightB
  rw [List.reverse_append]
  simp
theorem trim_other {l : List UInt8} {c : UInt8} (h : c ≠ 46) : Lib.trimRightB (l ++ [c]) 46 = l ++ [c] := by
  unfold Lib.trimRightB
  rw [List.reverse_append]
  simp [h]
theorem trim_nil : Lib.trimRightB [] 46 = [] := rfl
theorem trim_le (l : List UInt8) : (Lib.trimRightB l 46).length ≤ l.length := by
  obtain ⟨u, e1, _, _⟩ := trim_spec l
  have := congrArg List.length e1
  rw [List.length_append] at this
  omega
/-! sorted, each once -/
/-- a text put into a row that rises -/
def putS (out : List (List UInt8)) (s : List UInt8) : List (List UInt8) := if s ∈ out then out else out.takeWhile (fun x => decide (x < s)) ++ s :: out.dropWhile (fun x => decide (x < s))
theorem lt_of_ne_le {a b : List UInt8} (h : ¬ b < a) (hn : a ≠ b) : a < b := by
  by_cases h1 : a < b
  · exact h1
  · exact absurd (List.le_antisymm (List.not_lt.1 h) (List.not_lt.1 h1)) hn
end Go.Proofs.YtpjolipkmemcoaaGreatDoor

/-
  Texts put in order one by one, plain. No condition.
-/
namespace Go.Proofs.YtpjolipkmemcoaaGreatDoor
open Go.RowKit

/-- a row that rises -/
def Rise (l : List (List UInt8)) : Prop := l.Pairwise fun a b => a < b
theorem st_irrefl (a : List UInt8) : ¬ a < a := List.lt_irrefl a
theorem st_trans {a b c : List UInt8} (h : a < b) (k : b < c) : a < c := List.lt_trans h k
theorem Rise.nodup {l : List (List UInt8)} (h : Rise l) : l.Nodup := List.Pairwise.imp (fun {a b} h e => by subst e; exact st_irrefl a h) h
theorem Rise.le {l : List (List UInt8)} (h : Rise l) : l.Pairwise fun a b => a ≤ b := List.Pairwise.imp (fun {_ _} h => List.le_of_lt h) h
theorem once_sorted {l : List (List UInt8)} (h : l.Pairwise fun a b => a ≤ b) : (stsOnce l).Pairwise fun a b => a ≤ b := by
  unfold stsOnce Lib.compact Lib.compactUpTo
  rw [List.pairwise_map]
  refine (List.Pairwise.filter _ (List.pairwise_lt_range (n := l.length))).imp_of_mem fun {i j} _ hj hij => ?_
  have hjn : j < l.length := by simpa using List.mem_range.1 (List.mem_filter.1 hj).1
  rw [getElem!_pos l.toArray j (by simpa using hjn), getElem!_pos l.toArray i (by simp; omega)]
  exact List.pairwise_iff_getElem.1 h i j (by omega) hjn hij
theorem nmSort_rise (l : List (List UInt8)) : Rise (nmSort l) := by
  have h1 : (nmSort l).Pairwise fun a b => a ≤ b := once_sorted (stsSort_sorted l)
  have h2 : (nmSort l).Pairwise fun a b => a ≠ b := nmSort_nodup l
  exact (h1.and h2).imp fun {a b} h => lt_of_ne_le (List.not_lt.2 h.1) h.2
theorem nmSort_eq {l r : List (List UInt8)} (h1 : r.Nodup) (h2 : r.Pairwise fun a b => a ≤ b) (h : ∀ s, s ∈ l ↔ s ∈ r) : nmSort l = r :=
  List.Perm.eq_of_pairwise (le := fun a b => a ≤ b) (fun _ _ _ _ h k => List.le_antisymm h k) (nmSort_rise l).le h2 ((List.perm_ext_iff_of_nodup (nmSort_nodup l) h1).2 fun s => by rw [nmSort_mem]; exact h s)
theorem nmSort_of_rise {l r : List (List UInt8)} (h1 : Rise r) (h : ∀ s, s ∈ l ↔ s ∈ r) : nmSort l = r := nmSort_eq h1.nodup h1.le h
theorem nmSort_again (l : List (List UInt8)) : nmSort (nmSort l) = nmSort l := nmSort_of_rise (nmSort_rise l) fun _ => Iff.rfl
theorem nmSort_len (l : List (List UInt8)) : (nmSort l).length ≤ l.length := by
  rw [nmSort]
  exact Nat.le_trans (stsOnce_le _) (Nat.le_of_eq (stsSort_len _))
/-- a text put in its place -/
theorem rise_put {out : List (List UInt8)} {s : List UInt8} {k : Nat} (h : Rise out) (h1 : ∀ j (hj : j < out.length), j < k → out[j] < s) (h2 : ∀ hk : k < out.length, ¬ out[k] < s ∧ out[k] ≠ s) : Rise (out.take k ++ s :: out.drop k) := by
  unfold Rise
  rw [List.pairwise_append, List.pairwise_cons]
  have hlow : ∀ x ∈ out.take k, x < s := fun x hx => by
    obtain ⟨j, hj, rfl⟩ := List.getElem_of_mem hx
    rw [List.length_take] at hj
    rw [List.getElem_take]
    exact h1 j (by omega) (by omega)
  have hhigh : ∀ x ∈ out.drop k, s < x := fun x hx => by
    obtain ⟨j, hj, rfl⟩ := List.getElem_of_mem hx
    rw [List.length_drop] at hj
    rw [List.getElem_drop]
    obtain ⟨g1, g2⟩ := h2 (by omega)
    have hk : s < out[k] := lt_of_ne_le g1 fun e => g2 e.symm
    rcases Nat.eq_zero_or_pos j with rfl | hj0
    · exact hk
    · exact st_trans hk (List.pairwise_iff_getElem.1 h k (k + j) (by omega) (by omega) (by omega))
  refine ⟨List.Pairwise.sublist (List.take_sublist _ _) h, ⟨hhigh, List.Pairwise.sublist (List.drop_sublist _ _) h⟩, fun a ha b hb => ?_⟩
  rcases List.mem_cons.1 hb with rfl | hb
  · exact hlow a ha
  · exact st_trans (hlow a ha) (hhigh b hb)
theorem mem_put {out : List (List UInt8)} {s x : List UInt8} {k : Nat} : x ∈ out.take k ++ s :: out.drop k ↔ x ∈ out ∨ x = s := by
  rw [List.mem_append, List.mem_cons]
  constructor
  · rintro (h | rfl | h)
    · exact Or.inl (List.mem_of_mem_take h)
    · exact Or.inr rfl
    · exact Or.inl (List.mem_of_mem_drop h)
  · rintro (h | rfl)
    · rw [← List.take_append_drop k out, List.mem_append] at h
      rcases h with h | h
      · exact Or.inl h
      · exact Or.inr (Or.inr h)
    · exact Or.inr (Or.inl rfl)
/-- so many texts are put in -/
def PutIn (l : List (List UInt8)) (i : Nat) (out : List (List UInt8)) : Prop := Rise out ∧ out.length ≤ i ∧ ∀ x, x ∈ l.take i ↔ x ∈ out
theorem putIn_zero (l : List (List UInt8)) : PutIn l 0 [] := ⟨List.Pairwise.nil, Nat.le_refl _, fun x => by rw [List.take_zero]⟩
theorem putIn_old {l out : List (List UInt8)} {i k : Nat} (h : PutIn l i out) (hi : i < l.length) (hk : k < out.length) (he : out[k] = l[i]) : PutIn l (i + 1) out := by
  refine ⟨h.1, by have := h.2.1; omega, fun x => ?_⟩
  rw [List.take_succ_eq_append_getElem hi, List.mem_append, List.mem_singleton, h.2.2 x]
  constructor
  · rintro (g | rfl)
    · exact g
    · rw [← he]; exact List.getElem_mem _
  · exact Or.inl
theorem putIn_new {l out : List (List UInt8)} {i k : Nat} (h : PutIn l i out) (hi : i < l.length) (hk : k ≤ out.length) (h1 : ∀ j (hj : j < out.length), j < k → out[j] < l[i]) (h2 : ∀ hk : k < out.length, ¬ out[k] < l[i] ∧ out[k] ≠ l[i]) : PutIn l (i + 1) (out.take k ++ l[i] :: out.drop k) := by
  refine ⟨rise_put h.1 h1 h2, ?_, fun x => ?_⟩
  · have := h.2.1
    rw [List.length_append, List.length_cons, List.length_take, List.length_drop]
    omega
  · rw [List.take_succ_eq_append_getElem hi, List.mem_append, List.mem_singleton, h.2.2 x, mem_put]
theorem putIn_end {l out : List (List UInt8)} (h : PutIn l l.length out) : nmSort l = out := nmSort_of_rise h.1 fun x => by rw [← h.2.2 x, List.take_length]
end Go.Proofs.YtpjolipkmemcoaaGreatDoor

/-
  What the fixed names come to; facts for law 01, plain. No condition.
-/
namespace Go.Proofs.YtpjolipkmemcoaaGreatDoor
open Go.RowKit

def bNat : List UInt8 := [110, 97, 116]
def bAdd : List UInt8 := [97, 100, 100]
def bThr : List UInt8 := [51]
def bNA : List UInt8 := [110, 97, 116, 46, 97, 100, 100]
def bNation : List UInt8 := [110, 97, 116, 105, 111, 110]
def bX : List UInt8 := [120]
def bX1 : List UInt8 := [120, 95, 49]
def bX2 : List UInt8 := [120, 95, 50]
theorem na_ok : nameOk bNA = true := by decide
theorem na_join : nmJoin [bNat, bAdd] = (bNA, true) := join_two (a := bNat) (r := bAdd) (by decide) (by decide) (by decide)
theorem n3_join : nmJoin [bNat, bThr] = ([], false) := nmJoin_bad (ps := [bNat, bThr]) (k := 1) (by decide) (by decide)
theorem na_parts : nmParts bNA = [bNat, bAdd] := by
  rw [nmParts, if_pos na_ok]
  exact (sp_app bNat bAdd).trans (by rw [sp_end (by decide), sp_end (by decide)]; rfl)
theorem na_cut : nmCut bNA = (bNat, bAdd) := by
  rw [nmCut, if_pos na_ok]
  exact cut_some (a := bNat) (r := bAdd) (by decide)
theorem na_parent : nmParent bNA = bNat := by rw [nmParent, na_cut]
theorem na_last : nmLast bNA = bAdd := by rw [nmLast, na_cut]
theorem na_under : nmUnder bNA bNat = true := under_iff.2 ⟨by decide, by decide, Or.inr ⟨bAdd, rfl⟩⟩
theorem na_not : nmUnder bNation bNat = false := by
  cases h : nmUnder bNation bNat with
  | false => rfl
  | true =>
    obtain ⟨_, _, h | ⟨r, h⟩⟩ := under_iff.1 h
    · exact absurd h (by decide)
    · have h3 := congrArg (fun l : List UInt8 => l[3]?) h
      exact absurd h3 (by simp [bNation, bNat])
theorem dec_1 : decB 1 = [49] := by rw [decB_step]; rfl
theorem dec_2 : decB 2 = [50] := by rw [decB_step]; rfl
theorem x_1 : freshK bX 1 = bX1 := by
  show freshAt bX 1 = bX1
  unfold freshAt tailB
  rw [dec_1]
  rfl
theorem x_2 : freshK bX 2 = bX2 := by
  show freshAt bX 2 = bX2
  unfold freshAt tailB
  rw [dec_2]
  rfl
theorem x_fresh : nmFresh bX [bX, bX1] = bX2 := by
  have h : freshN bX [bX, bX1] = 2 := by
    refine freshN_eq ?_ fun j hj => ?_
    · rw [x_2]; decide
    · have : j = 0 ∨ j = 1 := by omega
      rcases this with rfl | rfl
      · exact List.mem_cons_self
      · rw [x_1]; decide
  rw [nmFresh, if_pos (by decide), h, x_2]
theorem ba_sort : nmSort [[98], [97], [98]] = [[97], [98]] := by
  refine nmSort_of_rise ?_ fun s => ?_
  · exact List.Pairwise.cons (fun b hb => by rw [List.mem_singleton] at hb; subst hb; decide) (List.pairwise_singleton _ _)
  · simp only [List.mem_cons, List.not_mem_nil, or_false]
    constructor
    · rintro (h | h | h) <;> simp [h]
    · rintro (h | h) <;> simp [h]
/-! a name and its parts -/
theorem parts_no {s : List UInt8} (h : nameOk s = false) : nmParts s = [] ∧ nmParent s = [] ∧ nmLast s = [] := by
  have e : ¬ nameOk s = true := by rw [h]; decide
  have hc : nmCut s = ([], []) := by rw [nmCut, if_neg e]
  exact ⟨by rw [nmParts, if_neg e], by rw [nmParent, hc], by rw [nmLast, hc]⟩
theorem parts_join {s : List UInt8} (h : nameOk s = true) : nmJoin (nmParts s) = (s, true) := by
  rw [nmParts, if_pos h]
  exact join_parts h
theorem parts_last {s : List UInt8} (h : nameOk s = true) : ∃ a, nmParts s = a ++ [nmLast s] ∧ (nmParent s = [] → a = []) := by
  rw [nmParts, if_pos h]
  rcases parent_cases h with ⟨_, _, h3, h4⟩ | ⟨a, r, _, _, h3, h4, h5, h6, _⟩
  · exact ⟨[], by rw [h3, h4]; rfl, fun _ => rfl⟩
  · refine ⟨sp a, by rw [h4, h5], fun k => ?_⟩
    rw [h3] at k
    exact absurd k (nameOk_ne h6)
theorem parent_some {s : List UInt8} (h : nameOk s = true) (k : nmParent s ≠ []) : nmJoin [nmParent s, nmLast s] = (s, true) ∧ nmUnder s (nmParent s) = true ∧ nmUnder (nmParent s) s = false := by
  rcases parent_cases h with ⟨_, h2, _, _⟩ | ⟨a, r, _, rfl, h3, h4, _, h6, h7⟩
  · exact absurd h2 k
  · rw [h3, h4]
    have hu : nmUnder (a ++ 46 :: r) a = true := under_iff.2 ⟨h, h6, Or.inr ⟨r, rfl⟩⟩
    refine ⟨join_two h6 h7 h, hu, ?_⟩
    cases e : nmUnder a (a ++ 46 :: r) with
    | false => rfl
    | true =>
      have := congrArg List.length (under_anti e hu)
      rw [List.length_append, List.length_cons] at this
      omega
end Go.Proofs.YtpjolipkmemcoaaGreatDoor
