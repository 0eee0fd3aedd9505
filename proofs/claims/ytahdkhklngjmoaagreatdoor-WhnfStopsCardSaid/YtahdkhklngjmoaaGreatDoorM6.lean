/-
  Texts put together: N0, Lays, N10, N11, N16, N17, N19, N18. No condition.
-/
import Derived.Test.YtahdkhklngjmoaaGreatDoorM4
import Derived.Test.YtahdkhklngjmoaaGreatDoorM1
import Derived.Lib.Hide
import Derived.Shelf.GgClosure.StringsIndexFuncTop
import Derived.Shelf.Strings.Search3
import Derived.Ground.GgwProg
import Derived.Ground.NamesProg
import Derived.Laws.RangeString
import Derived.Lib.Bytealg
import Derived.RangeFuncNested
import Derived.RangeFuncBound
import Derived.RangeFuncCalls
import Derived.RangeFuncLeaves
import Derived.Shelf.Abstract
import Derived.Shelf.RegionOpen
import Derived.WalkKit
import Derived.OwnWalkIn
import Derived.TacticsInMore
import Derived.LoopNIn
import Derived.LoopIn
import Derived.Handy
/-
  Small things ahead of the names' texts. No condition.
-/
namespace Go.Proofs.YtahdkhklngjmoaaGreatDoor
open Go.RowKit

/-- a call that answers v and leaves what was there -/
def RetB (v : Value) (w : World) (e : Ending) (w' : World) : Prop := e = .returned v ∧ Below w.heap.size w w'
theorem szB (l : List UInt8) : (⟨l.toArray⟩ : ByteArray).size = l.length := rfl
theorem ret_bool {a b : Bool} (h : a = b) : Ending.returned (.bool a) = .returned (.bool b) := by rw [h]
/-- the contract of name.Right (proved in a later text) -/
def NameRight : Prop := ∀ (w : World) (nm : List UInt8), nm.length ≤ 1125899906842624 → Calls Tryz.prog 93 #[.string ⟨nm.toArray⟩] w (RetB (.bool (nameOk nm)) w)
end Go.Proofs.YtahdkhklngjmoaaGreatDoor

/-
  DERIVED: THE SHELF's CONTRACTS AT THIS DUMP, IN PLAIN WORDS (tools/lay-plain.mjs out of 'YtahdkhklngjmoaaGreatDoorLays.lean', which tools/lay-shelf.mjs wrote): THE SAME DECLARATIONS UNDER THE SAME NAMES: 'import', 'namespace', 'open', 'def', 'theorem' AND NOTHING ELSE: no command of the shelf's: FOR A HAND-IN. Each laying: the table of numbers ('.._ren') and one theorem, a field a fact of the dump's own or the kernel's comparison; each contract: ONE APPLICATION.
-/
namespace Go.Proofs.YtahdkhklngjmoaaGreatDoor
open Go.Shelf
def Tryz.l15_ren : Go.Shelf.Ren := ⟨fun | 15 => 147 | 20 => 171 | n => n, fun | 9 => 9 | 23 => 161 | 3 => 3 | 4 => 4 | 0 => 0 | 21 => 21 | n => n, fun | n => n⟩
theorem Tryz.l15 : Go.Proofs.LaysGw.n15 Tryz.prog Tryz.l15_ren := {
  mixed := by kernel_rfl
  f15 := Tryz.func147.trans (congrArg some (by kernel_rfl))
  f20 := Tryz.func171.trans (congrArg some (by kernel_rfl))
  t0 := Tryz.underlying0
  a0 := Tryz.isAgg0
  z0 := Tryz.sizeOf0
  v0 := Tryz.zeroValue0
  i0 := by kernel_rfl
  t3 := Tryz.underlying3
  a3 := Tryz.isAgg3
  z3 := Tryz.sizeOf3
  v3 := Tryz.zeroValue3
  i3 := by kernel_rfl
  t4 := Tryz.underlying4
  a4 := Tryz.isAgg4
  z4 := Tryz.sizeOf4
  v4 := Tryz.zeroValue4
  i4 := by kernel_rfl
  t9 := Tryz.underlying9
  a9 := Tryz.isAgg9
  z9 := Tryz.sizeOf9
  v9 := Tryz.zeroValue9
  i9 := by kernel_rfl
  t21 := Tryz.underlying21
  a21 := Tryz.isAgg21
  z21 := Tryz.sizeOf21
  v21 := Tryz.zeroValue21
  i21 := by kernel_rfl
  t23 := Tryz.underlying161
  a23 := Tryz.isAgg161
  z23 := Tryz.sizeOf161
  v23 := Tryz.zeroValue161
  i23 := by kernel_rfl }
def Tryz.l143_ren : Go.Shelf.Ren := ⟨fun | 143 => 170 | 219 => 185 | 217 => 192 | 225 => 193 | 224 => 194 | 267 => 195 | 266 => 198 | 314 => 199 | n => n, fun | 9 => 9 | 3 => 3 | 4 => 4 | 5 => 5 | 46 => 190 | 146 => 208 | 51 => 207 | n => n, fun | 1 => 2 | n => n⟩
theorem Tryz.l143 : Go.Proofs.Lays.n143 Tryz.prog Tryz.l143_ren := {
  mixed := by kernel_rfl
  f143 := Tryz.func170.trans (congrArg some (by kernel_rfl))
  f217 := Tryz.func192.trans (congrArg some (by kernel_rfl))
  f219 := Tryz.func185.trans (congrArg some (by kernel_rfl))
  f224 := Tryz.func194.trans (congrArg some (by kernel_rfl))
  f225 := Tryz.func193.trans (congrArg some (by kernel_rfl))
  f266 := Tryz.func198.trans (congrArg some (by kernel_rfl))
  f267 := Tryz.func195.trans (congrArg some (by kernel_rfl))
  f314 := Tryz.func199.trans (congrArg some (by kernel_rfl))
  t3 := Tryz.underlying3
  a3 := Tryz.isAgg3
  z3 := Tryz.sizeOf3
  v3 := Tryz.zeroValue3
  t4 := Tryz.underlying4
  a4 := Tryz.isAgg4
  z4 := Tryz.sizeOf4
  v4 := Tryz.zeroValue4
  t5 := Tryz.underlying5
  a5 := Tryz.isAgg5
  z5 := Tryz.sizeOf5
  v5 := Tryz.zeroValue5
  t9 := Tryz.underlying9
  a9 := Tryz.isAgg9
  z9 := Tryz.sizeOf9
  v9 := Tryz.zeroValue9
  t46 := Tryz.underlying190
  a46 := Tryz.isAgg190
  z46 := Tryz.sizeOf190
  v46 := Tryz.zeroValue190
  t51 := Tryz.underlying207
  a51 := Tryz.isAgg207
  z51 := Tryz.sizeOf207
  v51 := Tryz.zeroValue207
  t146 := Tryz.underlying208
  a146 := Tryz.isAgg208
  z146 := Tryz.sizeOf208
  v146 := Tryz.zeroValue208
  g1 := by kernel_rfl }
end Go.Proofs.YtahdkhklngjmoaaGreatDoor

/-
  The program's names: plain, part. No condition.
-/
namespace Go.Proofs.YtahdkhklngjmoaaGreatDoor
open Go.RowKit Go.Shelf


/-- may a rune stand in a name? -/
def plainR (r : Nat) : Bool := (decide (97 ≤ r) && decide (r ≤ 122)) || (decide (48 ≤ r) && decide (r ≤ 57)) || decide (r = 95)
theorem plainR_big {r : Nat} (h : 128 ≤ r) : plainR r = false := by
  unfold plainR
  rw [decide_eq_false (p := r ≤ 122) (by omega), decide_eq_false (p := r ≤ 57) (by omega), decide_eq_false (p := r = 95) (by omega)]
  simp
theorem plainR_byte (c : UInt8) : plainR c.toNat = (letB c || digB c) := by
  have : ∀ c : UInt8, plainR c.toNat = (letB c || digB c) := by
    intro c
    unfold plainR letB digB
    rw [Bool.eq_iff_iff]
    simp only [Bool.or_eq_true, Bool.and_eq_true, decide_eq_true_eq, beq_iff_eq, UInt8.le_iff_toNat_le, ← UInt8.toNat_inj]
    show _ ↔ ((97 ≤ c.toNat ∧ c.toNat ≤ 122) ∨ c.toNat = 95) ∨ (48 ≤ c.toNat ∧ c.toNat ≤ 57)
    omega
  exact this c

theorem decode_big (s : ByteArray) (pos : Nat) (h : pos < s.size) (ha : ¬ (s[pos]'h).toNat < 128) : 128 ≤ (Utf8.decode s pos).1 := by
  have e : s.get! (pos + 0) = s[pos]'h := by
    show s.get! pos = _
    simp [ByteArray.get!, getElem!_pos, h]
    rfl
  simp only [Utf8.decode, e]
  rw [if_neg ha]
  have hr : 128 ≤ Utf8.runeError := by decide
  repeat' split
  all_goals first | exact hr | (simp only []; omega) | omega | (simp_all; omega)

theorem idx_plain (s : ByteArray) : ∀ f pos, s.size ≤ pos + f → (Lib.idxFuncFrom (fun r => !plainR r) true s f pos < 0 ↔ ∀ i (h : i < s.size), pos ≤ i → plainR (s[i]'h).toNat = true)
  | 0, pos, hf => by
    simp only [Lib.idxFuncFrom]
    exact ⟨fun _ i h hp => by omega, fun _ => by decide⟩
  | f + 1, pos, hf => by
    unfold Lib.idxFuncFrom
    by_cases hp : pos < s.size
    · rw [if_pos hp]
      by_cases ha : (s[pos]'hp).toNat < 128
      · rw [decode_ascii s pos hp ha]
        simp only []
        cases hq : plainR (s[pos]'hp).toNat with
        | true =>
          rw [if_neg (by simp), idx_plain s f (pos + 1) (by omega)]
          exact ⟨fun h i hi hpi => by
            rcases Nat.lt_or_eq_of_le hpi with h1 | rfl
            · exact h i hi h1
            · exact hq, fun h i hi hpi => h i hi (by omega)⟩
        | false =>
          rw [if_pos (by simp)]
          exact ⟨fun h => by omega, fun h => by have := h pos hp (Nat.le_refl _); rw [hq] at this; cases this⟩
      · have hb := decode_big s pos hp ha
        rw [if_pos (by rw [plainR_big hb]; rfl)]
        exact ⟨fun h => by omega, fun h => by have := h pos hp (Nat.le_refl _); rw [plainR_big (by omega)] at this; cases this⟩
    · rw [if_neg hp]
      exact ⟨fun _ i h hpi => by omega, fun _ => by decide⟩

set_option maxHeartbeats 1000000 in
theorem plain_any (w : World) (r : Nat) : Calls Tryz.prog 146 #[.int .i32 r] w fun e w' => e = .returned (.bool (plainR r)) ∧ w' = w := by
  have HE : Hid (plainR r = ((decide (97 ≤ r) && decide (r ≤ 122)) || (decide (48 ≤ r) && decide (r ≤ 57)) || decide (r = 95))) := Lib.hid rfl
  generalize plainR r = g at *
  have z1 : ((97 : Int) ≤ (r : Int)) ↔ 97 ≤ r := by omega
  have z2 : ((r : Int) ≤ 122) ↔ r ≤ 122 := by omega
  have z3 : ((48 : Int) ≤ (r : Int)) ↔ 48 ≤ r := by omega
  have z4 : ((r : Int) ≤ 57) ↔ r ≤ 57 := by omega
  have z5 : (((r : Int) == 95) = true) ↔ r = 95 := by rw [beq_iff_eq]; omega
  go_enter Tryz.func146, Tryz.ntmps146
  go_wp2
  all_goals go_ret
  all_goals refine ⟨ret_bool ?_, rfl⟩
  all_goals rw [HE.out, Bool.eq_iff_iff]
  all_goals simp
  all_goals omega

theorem odd_at (w : World) : PredAt Tryz.prog 145 #[] encR (fun r => !plainR r) w := fun W r _ => by
  have hc := plain_any W r
  unfold FnGives
  go_enter Tryz.func145, Tryz.ntmps145
  go_wp2_with (go_at_call 146; refine hc.mono ?_; rintro e w' ⟨rfl, rfl⟩)
  go_ret
  exact ⟨rfl, 0, rfl⟩
end Go.Proofs.YtahdkhklngjmoaaGreatDoor

/-
  The program's names: part. No condition.
-/
namespace Go.Proofs.YtahdkhklngjmoaaGreatDoor
open Go.RowKit Go.Shelf

/-- is a part of a name right? -/
def partOk : List UInt8 → Bool
  | [] => false
  | c :: r => !digB c && (c :: r).all (fun c => letB c || digB c)

theorem idx_all (l : List UInt8) : (Lib.idxFunc (fun r => !plainR r) true ⟨l.toArray⟩ < 0) ↔ l.all (fun c => letB c || digB c) = true := by
  unfold Lib.idxFunc
  rw [idx_plain _ _ _ (by omega), List.all_eq_true]
  constructor
  · intro h c hc
    obtain ⟨i, hi, rfl⟩ := List.getElem_of_mem hc
    rw [← plainR_byte]
    exact h i (by rw [szB]; exact hi) (Nat.zero_le _)
  · intro h i hi _
    rw [plainR_byte]
    exact h _ (List.getElem_mem (l := l) (by rw [szB] at hi; exact hi))

set_option maxHeartbeats 1000000 in
theorem part_any (w : World) (l : List UInt8) (hl : l.length ≤ 1125899906842624) : Calls Tryz.prog 117 #[.string ⟨l.toArray⟩] w (RetB (.bool (partOk l)) w) := by
  cases l with
  | nil =>
    go_enter Tryz.func117, Tryz.ntmps117
    go_wp2
    go_ret
    exact ⟨rfl, Below.refl _ _⟩
  | cons c r =>
    have hI := Any.strings_IndexFunc Tryz.l15 145 #[] (enters_of Tryz.func145 (by kernel_rfl) rfl) _ ⟨(c :: r).toArray⟩ w (odd_at w)
    change Calls Tryz.prog 147 #[_, .func (.func 145) #[] #[]] _ _ at hI
    have hidx := idx_all (c :: r)
    have HE : Hid (partOk (c :: r) = (!digB c && (c :: r).all (fun c => letB c || digB c))) := Lib.hid rfl
    have hne : ((⟨(c :: r).toArray⟩ : ByteArray) != ⟨#[]⟩) = true := by show (!((c :: r).toArray == #[])) = true; simp
    have hsz := szB (c :: r)
    have h0 : 0 < (⟨(c :: r).toArray⟩ : ByteArray).size := by rw [szB]; simp
    have hc : (⟨(c :: r).toArray⟩ : ByteArray)[0] = c := rfl
    have hdg : digB c = (decide (48 ≤ c.toNat) && decide (c.toNat ≤ 57)) := by unfold digB; rw [Bool.eq_iff_iff]; simp only [Bool.and_eq_true, decide_eq_true_eq, UInt8.le_iff_toNat_le]; rfl
    generalize Lib.idxFunc (fun r => !plainR r) true ⟨(c :: r).toArray⟩ = I at *
    generalize partOk (c :: r) = res at *
    generalize (c :: r).all (fun c => letB c || digB c) = al at *
    rw [hdg] at HE
    clear hdg
    have HX := Lib.hid hidx
    clear hidx
    go_enter Tryz.func117, Tryz.ntmps117
    go_wp2_with (go_at_call 147; refine hI.mono ?_; rintro e w' ⟨rfl, hB⟩; have HB := Lib.hid hB; clear hB)
    all_goals go_ret
    all_goals refine ⟨ret_bool ?_, ?_⟩
    all_goals first | exact Below.refl _ _ | exact Hid.out (by assumption) | skip
    all_goals rw [HE.out]
    all_goals have HXo := HX.out
    all_goals cases al
    all_goals simp at HXo
    all_goals first | (simp; done) | (rw [Bool.eq_iff_iff]; simp; done) | (rw [Bool.eq_iff_iff]; simp; omega) | (rw [Bool.eq_iff_iff]; simp [HXo]; omega)
end Go.Proofs.YtahdkhklngjmoaaGreatDoor

/-
  The parts of a name: what nmGo says of a name, part by part. No program in sight.
-/
namespace Go.Proofs.YtahdkhklngjmoaaGreatDoor

abbrev okB (c : UInt8) : Bool := letB c || digB c
theorem let_not_dig {c : UInt8} (h : letB c = true) : digB c = false := by
  unfold letB at h
  unfold digB
  simp only [Bool.or_eq_true, Bool.and_eq_true, decide_eq_true_eq, beq_iff_eq, UInt8.le_iff_toNat_le, ← UInt8.toNat_inj] at h
  rw [Bool.and_eq_false_iff, decide_eq_false_iff_not, decide_eq_false_iff_not, UInt8.le_iff_toNat_le, UInt8.le_iff_toNat_le]
  have h' : (97 ≤ c.toNat ∧ c.toNat ≤ 122) ∨ c.toNat = 95 := h
  show ¬ 48 ≤ c.toNat ∨ ¬ c.toNat ≤ 57
  omega
theorem nm_false_dot : ∀ (x r : List UInt8), 46 ∉ x → nmGo false (x ++ 46 :: r) = (x.all okB && nmGo true r)
  | [], r, _ => by simp [nmGo]
  | c :: x, r, h => by
    have hc : (c == 46) = false := by rw [beq_eq_false_iff_ne]; rintro rfl; exact h (List.mem_cons_self ..)
    have ih := nm_false_dot x r (fun h' => h (List.mem_cons_of_mem _ h'))
    simp only [List.cons_append, nmGo, hc, Bool.false_eq_true, if_false, Bool.not_false, Bool.and_true, List.all_cons, ih, show okB c = (letB c || digB c) from rfl]
    generalize (letB c || digB c) = g
    cases g <;> simp
theorem nm_false_end : ∀ (x : List UInt8), 46 ∉ x → nmGo false x = x.all okB
  | [], _ => by simp [nmGo]
  | c :: x, h => by
    have hc : (c == 46) = false := by rw [beq_eq_false_iff_ne]; rintro rfl; exact h (List.mem_cons_self ..)
    have ih := nm_false_end x (fun h' => h (List.mem_cons_of_mem _ h'))
    simp only [nmGo, hc, Bool.false_eq_true, if_false, Bool.not_false, Bool.and_true, List.all_cons, ih, show okB c = (letB c || digB c) from rfl]
    generalize (letB c || digB c) = g
    cases g <;> simp
theorem part_cons (c : UInt8) (x : List UInt8) : partOk (c :: x) = (letB c && x.all okB) := by
  show (!digB c && (c :: x).all okB) = _
  rw [List.all_cons, show okB c = (letB c || digB c) from rfl]
  cases hl : letB c with
  | true => rw [let_not_dig hl]; simp
  | false => cases digB c <;> simp
theorem nm_true_dot (x r : List UInt8) (h : 46 ∉ x) : nmGo true (x ++ 46 :: r) = (partOk x && nmGo true r) := by
  cases x with
  | nil => simp [nmGo, partOk]
  | cons c x =>
    have hc : (c == 46) = false := by rw [beq_eq_false_iff_ne]; rintro rfl; exact h (List.mem_cons_self ..)
    rw [part_cons]
    simp only [List.cons_append, nmGo, hc, Bool.false_eq_true, if_false, Bool.not_true, Bool.and_false, Bool.or_false]
    rw [nm_false_dot x r (fun h' => h (List.mem_cons_of_mem _ h'))]
    cases letB c <;> simp
theorem nm_true_end (x : List UInt8) (h : 46 ∉ x) : nmGo true x = partOk x := by
  cases x with
  | nil => simp [nmGo, partOk]
  | cons c x =>
    have hc : (c == 46) = false := by rw [beq_eq_false_iff_ne]; rintro rfl; exact h (List.mem_cons_self ..)
    rw [part_cons]
    simp only [nmGo, hc, Bool.false_eq_true, if_false, Bool.not_true, Bool.and_false, Bool.or_false]
    rw [nm_false_end x (fun h' => h (List.mem_cons_of_mem _ h'))]
    cases letB c <;> simp

theorem idx_none : ∀ (l : List UInt8) (c : UInt8), Lib.indexByte l c < 0 → c ∉ l
  | [], _, _ => by simp
  | b :: l, c, h => by
    unfold Lib.indexByte at h
    split at h
    · omega
    · rename_i hb
      have ih := idx_none l c
      split at h
      · rename_i h1
        have := ih (by rw [beq_iff_eq] at h1; omega)
        rw [List.mem_cons, not_or]; exact ⟨fun e => by subst e; simp at hb, this⟩
      · have := ih (by omega)
        rw [List.mem_cons, not_or]; exact ⟨fun e => by subst e; simp at hb, this⟩
theorem idx_ge : ∀ (l : List UInt8) (c : UInt8), -1 ≤ Lib.indexByte l c
  | [], _ => by simp [Lib.indexByte]
  | b :: l, c => by
    have := idx_ge l c
    unfold Lib.indexByte
    repeat' split
    all_goals omega
theorem idx_some : ∀ (l : List UInt8) (c : UInt8) (i : Nat), Lib.indexByte l c = i → c ∉ l.take i ∧ l = l.take i ++ c :: l.drop (i + 1)
  | [], _, i, h => by exfalso; unfold Lib.indexByte at h; omega
  | b :: l, c, i, h => by
    unfold Lib.indexByte at h
    split at h
    · rename_i hb
      obtain rfl : i = 0 := by omega
      obtain rfl : b = c := by simpa using hb
      simp
    · rename_i hb
      split at h
      · omega
      · obtain ⟨j, rfl⟩ : ∃ j, i = j + 1 := ⟨i - 1, by have := idx_ge l c; rename_i h1; rw [beq_iff_eq] at h1; omega⟩
        have ih := idx_some l c j (by omega)
        refine ⟨?_, ?_⟩
        · rw [List.take_succ_cons, List.mem_cons, not_or]; exact ⟨fun e => by subst e; simp at hb, ih.1⟩
        · rw [List.take_succ_cons, List.drop_succ_cons, List.cons_append, ← ih.2]

/-- one step of the name's parts -/
theorem nm_step {l : List UInt8} {i : Nat} (h : Lib.indexByte l 46 = i) : nmGo true l = (partOk (l.take i) && nmGo true (l.drop (i + 1))) := by
  obtain ⟨h1, h2⟩ := idx_some l 46 i h
  conv => lhs; rw [h2]
  exact nm_true_dot _ _ h1
theorem nm_last {l : List UInt8} (h : Lib.indexByte l 46 < 0) : nmGo true l = partOk l := nm_true_end l (idx_none l 46 h)
end Go.Proofs.YtahdkhklngjmoaaGreatDoor

/-
  The library's split as an iterator: the closure over a string and a dot. No condition.
-/
namespace Go.Proofs.YtahdkhklngjmoaaGreatDoor
open Go.RowKit Go.Shelf
attribute [local go_sem] Oper.semAt_some


theorem index_any (l : List UInt8) (w : World) : Calls Tryz.prog 170 #[.string ⟨l.toArray⟩, .string ⟨#[46]⟩] w fun e w' => e = .returned (.int .i64 (Lib.indexByte l 46)) ∧ w' = w :=
  Any.strings_Index_one Tryz.l143 ⟨l.toArray⟩ 46 w

theorem ext_take (r : List UInt8) (j : Nat) : (⟨r.toArray⟩ : ByteArray).extract 0 j = ⟨(r.take j).toArray⟩ := by
  apply ByteArray.ext
  simp
theorem ext_drop (r : List UInt8) (j : Nat) : (⟨r.toArray⟩ : ByteArray).extract j r.length = ⟨(r.drop j).toArray⟩ := by
  apply ByteArray.ext
  simp
  exact List.take_of_length_le (by simp)
theorem idx_lt {r : List UInt8} {j : Nat} (h : Lib.indexByte r 46 = j) : j < r.length := by
  have h2 := congrArg List.length (idx_some r 46 j h).2
  simp at h2
  omega
def leftIn (b : Nat) (w : World) : Nat := match w.cell? ⟨b, 0, none⟩ with | some (.string s) => s.size | _ => 0

set_option maxRecDepth 100000 in
set_option maxHeartbeats 1000000 in
theorem split_in (n n₀ : Nat) (hn : 1 ≤ n) (l bp bs bv : Nat) (hbp : bp < n₀) (hbs : bs < n₀) (hbv : bv < n₀) (hne : bp ≠ bs) (hne2 : bv ≠ bs) (J : List UInt8 → World → Prop) (Jd Jx : World → Prop)
    (hJ : ∀ r W v, J r W → J r (W.setCell ⟨bs, 0, none⟩ v))
    (hDot : ∀ (r : List UInt8) (i : Nat) W, J r W → Lib.indexByte r 46 = i → YieldAt Fence.wide (n - 1) Tryz.prog l #[.string ⟨(r.take i).toArray⟩] W fun e W' =>
      (e = .returned (.bool true) ∧ J (r.drop (i + 1)) W' ∧ Below n₀ W W') ∨ (e = .returned (.bool false) ∧ Jx W'))
    (hLast : ∀ (r : List UInt8) W, J r W → Lib.indexByte r 46 < 0 → YieldAt Fence.wide (n - 1) Tryz.prog l #[.string ⟨r.toArray⟩] W fun e W' =>
      (e = .returned (.bool true) ∧ Jd W') ∨ (e = .returned (.bool false) ∧ Jx W'))
    (s : List UInt8) (hs : s.length ≤ 1125899906842624) (W : World) (h1 : W.cell? ⟨bp, 0, none⟩ = some (.string ⟨#[46]⟩)) (h2 : W.cell? ⟨bs, 0, none⟩ = some (.string ⟨s.toArray⟩)) (h3 : W.cell? ⟨bv, 0, none⟩ = some (.int .i64 0)) (h4 : W.frozen? ⟨bs, 0, none⟩ = false) (h0 : J s W) :
    CallsIn Fence.wide n Tryz.prog 168 #[.func (.yield l) #[] #[], .pointer (some ⟨bp, 0, none⟩), .pointer (some ⟨bs, 0, none⟩), .pointer (some ⟨bv, 0, none⟩)] W fun e W' => (∃ v, e = .returned v) ∧ (Jd W' ∨ Jx W') := by
  refine callsIn_of_wp Tryz.func168 rfl trivial ?_ rfl
  simp only [Tryz.ntmps168, List.size_toArray, List.length_cons, List.length_nil, Nat.reduceAdd, Nat.reduceSub, Array.replicate_succ, Array.replicate_zero, List.push_toArray, List.append_toArray, List.nil_append, List.cons_append]
  have H0 := Lib.hid h0
  clear h0
  gi_wp2
  gi_loopw [7] (fun _ wr => ∃ r : List UInt8, r.length ≤ 1125899906842624 ∧ wr.cell? ⟨bs, 0, none⟩ = some (.string ⟨r.toArray⟩) ∧ wr.cell? ⟨bp, 0, none⟩ = some (.string ⟨#[46]⟩) ∧ wr.cell? ⟨bv, 0, none⟩ = some (.int .i64 0) ∧ wr.frozen? ⟨bs, 0, none⟩ = false ∧ Hid (J r wr)) (fun _ wr => leftIn bs wr)
  case atStart => exact ⟨s, hs, h2, h1, h3, h4, H0⟩
  case round =>
    clear h1 h2 h3 h4 H0
    obtain ⟨r, hr, h2, h1, h3, h4, HJ⟩ := hrel
    have hidx := index_any r wr
    have hmm := idx_ge r 46
    obtain ⟨i, hi⟩ : ∃ i, i = Lib.indexByte r 46 := ⟨_, rfl⟩
    rw [← hi] at hidx hmm
    have HI := Lib.hid hi
    clear hi
    by_cases hneg : i < 0
    · obtain ⟨fn, tmps, assign, body, hy, hR⟩ := hLast r wr HJ.out (by rw [← HI.out]; exact hneg)
      gi_wp2_with (refine ⟨trivial, ?_⟩; gi_at_call 170; refine (callsIn_wide.2 hidx).mono ?_; rintro e w' ⟨rfl, rfl⟩)
      refine hR.mono ?_
      rintro e W3 (⟨rfl, hJ3⟩ | ⟨rfl, hJ3⟩)
      · gi_wp2
        go_end0
        exact ⟨⟨_, rfl⟩, .inl hJ3⟩
      · gi_wp2
        go_end0
        exact ⟨⟨_, rfl⟩, .inr hJ3⟩
    · obtain ⟨j, rfl⟩ : ∃ j : Nat, i = j := ⟨i.toNat, by omega⟩
      obtain ⟨fn, tmps, assign, body, hy, hR⟩ := hDot r j wr HJ.out HI.out.symm
      have hjl := idx_lt HI.out.symm
      have hw1 : wrap64 (j : Int) = j := by unfold wrap64; omega
      have hw2 : wrap64 ((j : Int) + 1) = ((j + 1 : Nat) : Int) := by rw [show ((j : Int) + 1) = ((j + 1 : Nat) : Int) by omega]; unfold wrap64; omega
      rw [← ext_take] at hy
      gi_wp2_with (refine ⟨trivial, ?_⟩; gi_at_call 170; refine (callsIn_wide.2 hidx).mono ?_; rintro e w' ⟨rfl, rfl⟩)
      refine hR.mono ?_
      rintro e W3 (⟨rfl, hJ3, hB3⟩ | ⟨rfl, hJ3⟩)
      · have k1 := (hB3.cell (p := ⟨bp, 0, none⟩) hbp).trans h1
        have k2 := (hB3.cell (p := ⟨bs, 0, none⟩) hbs).trans h2
        have k3 := (hB3.cell (p := ⟨bv, 0, none⟩) hbv).trans h3
        have k4 := (hB3.frozen (p := ⟨bs, 0, none⟩) hbs).trans h4
        gi_wp2
        have hc := World.cell?_setCell_same' W3 ⟨bs, 0, none⟩ (.string ((⟨r.toArray⟩ : ByteArray).extract (j + 1) r.length)) (by rw [k2]; rfl)
        have hg := grownBy_setCell' W3 bs (.string ((⟨r.toArray⟩ : ByteArray).extract (j + 1) r.length))
        go_roundw
        case rel =>
          refine ⟨r.drop (j + 1), by simp; omega, by rw [hc, ext_drop], hg.cell k1 (by intro e; exact hne (Option.some.inj e)), hg.cell k3 (by intro e; exact hne2 (Option.some.inj e)), by rw [World.frozen?_setCell]; exact k4, Lib.hid (hJ _ _ _ hJ3)⟩
        case measure =>
          unfold leftIn
          rw [hc, h2, ext_drop]
          show (r.drop (j + 1)).toArray.size < r.toArray.size
          simp; omega
      · gi_wp2
        refine bodyPost_ret (results_none rfl _ _ _) rfl ?_
        exact ⟨⟨_, rfl⟩, .inr hJ3⟩
end Go.Proofs.YtahdkhklngjmoaaGreatDoor

/-
  A range over the split, for a body that stops at the first part that is not right. No condition.
-/
namespace Go.Proofs.YtahdkhklngjmoaaGreatDoor
open Go.RowKit Go.Shelf

/-- how a round of the body may end -/
def partPost (H : Nat) (I Ix : World → Prop) (x : List UInt8) (W : World) : Exit → Act → World → Prop
  | .normal, _, W' => KeepsOthers W W' ∧ Below (H + 4) W W' ∧ I W' ∧ partOk x = true
  | .ret, _, W' => KeepsOthers W W' ∧ Ix W' ∧ partOk x = false
  | _, _, _ => False

theorem rangeSplit {n : Nat} (hn : 3 ≤ n) {g : Operand} {p : Tmp} {assign body : Code} {Q : Exit → Act → World → Prop} {a : Act} {w : World} (H : Nat) (hH : w.heap.size = H + 4) (nm : List UInt8) (hnm : nm.length ≤ 1125899906842624)
    (hg : a.eval g = .func (.func 168) #[] #[.pointer (some ⟨H + 2, 0, none⟩), .pointer (some ⟨H + 1, 0, none⟩), .pointer (some ⟨H + 3, 0, none⟩)])
    (c1 : w.cell? ⟨H + 2, 0, none⟩ = some (.string ⟨#[46]⟩)) (c2 : w.cell? ⟨H + 1, 0, none⟩ = some (.string ⟨nm.toArray⟩)) (c3 : w.cell? ⟨H + 3, 0, none⟩ = some (.int .i64 0)) (c4 : w.frozen? ⟨H + 1, 0, none⟩ = false)
    (I Ix : World → Prop) (hI : ∀ A B, I A → Below (H + 1) A B → I B) (hIx : ∀ A B, Ix A → Below (H + 1) A B → Ix B) (h0 : I w) (a₁ : List UInt8 → Act)
    (hassign : ∀ (l : Nat) (x : List UInt8) (W : World) (K : Act → World → Prop), K (a₁ x) W →
      assign.wpIn (Fence.wide.inRound l) (n - 1 - 1) Tryz.prog (Exit.then K (fun _ _ _ => False)) { tmps := (#[p].zip #[Value.string ⟨x.toArray⟩]).foldl (fun t (p, v) => t.setIfInBounds p v) a.tmps, defers := [] } W)
    (hbody : ∀ (l : Nat) (x : List UInt8) (W : World), x.length ≤ 1125899906842624 → I W → body.wpIn (Fence.wide.inRound l) (n - 1 - 1) Tryz.prog (partPost H I Ix x W) (a₁ x) W)
    (hdone : ∀ (D : Nat) (W : World), H + 4 ≤ D → I W → nmGo true nm = true → W.heap[D]? = some (.deferred (some [])) → Q .normal { a with defers := { target := .collected D, args := #[] } :: a.defers } W)
    (hstop : ∀ (D : Nat) (W : World), H + 4 ≤ D → Ix W → nmGo true nm = false → W.heap[D]? = some (.deferred (some [])) → Code.ret.wpIn Fence.wide n Tryz.prog Q { a with defers := { target := .collected D, args := #[] } :: a.defers } W) :
    (Code.rangeFunc g #[p] assign body).wpIn Fence.wide n Tryz.prog Q a w := by
  refine wpIn_rangeFunc ?_
  intro fn hfn
  obtain ⟨rec, hrec⟩ : ∃ rec : LoopState → Option Code → Loop, rec = fun st pe => { state := st, pending := pe, fn, tmps := a.tmps, params := #[p], assign, body, defers := w.heap.size } := ⟨_, rfl⟩
  obtain ⟨W1, hW1⟩ : ∃ W1, (w.alloc (.deferred (some []))).alloc (.loop (rec .ready none)) = W1 := ⟨_, rfl⟩
  have hB1 : Below (H + 4) w W1 := by rw [← hW1]; exact ((Below.refl _ w).alloc (by omega) _).alloc (by simp; omega) _
  have hl1 : W1.heap[w.heap.size + 1]? = some (.loop (rec .ready none)) := by
    rw [← hW1]; have := World.alloc_heap_new (w.alloc (.deferred (some []))) (.loop (rec .ready none)); rwa [World.size_alloc] at this
  have hk1 : W1.heap[w.heap.size]? = some (.deferred (some [])) := by
    rw [← hW1]; exact (Below.heap_alloc _ _ _ (by simp)).trans (World.alloc_heap_new w _)
  have eg : ∀ args w, (callFunc 168 args).run Tryz.prog w = .ok (.enter 168 args) w := enters_of Tryz.func168 (by kernel_rfl) rfl
  have put : ∀ (l : Nat) (o : Obj) (W : World), H + 4 ≤ l → Below (H + 4) W (W.putObj l o) := fun l o W h => ⟨rfl, rfl, rfl, by rw [World.putObj_size]; exact Nat.le_refl _, fun k hk => World.putObj_heap_other (by omega)⟩
  have round : ∀ (x : List UInt8) (W : World), x.length ≤ 1125899906842624 → I W → W.heap[w.heap.size + 1]? = some (.loop (rec .ready none)) → W.heap[w.heap.size]? = some (.deferred (some [])) →
      YieldAt Fence.wide (n - 1 - 1) Tryz.prog (w.heap.size + 1) #[.string ⟨x.toArray⟩] W fun e W' =>
        (e = .returned (.bool true) ∧ (I W' ∧ W'.heap[w.heap.size + 1]? = some (.loop (rec .ready none)) ∧ W'.heap[w.heap.size]? = some (.deferred (some []))) ∧ partOk x = true ∧ Below (H + 4) W W') ∨
        (e = .returned (.bool false) ∧ (Ix W' ∧ W'.heap[w.heap.size + 1]? = some (.loop (rec .done (some .ret))) ∧ W'.heap[w.heap.size]? = some (.deferred (some []))) ∧ partOk x = false) := by
    intro x W hx hi hl hk
    have hlt : w.heap.size + 1 < W.heap.size := (Array.getElem?_eq_some_iff.1 hl).1
    have hy := run_yield (P := Tryz.prog) (args := #[.string ⟨x.toArray⟩]) hl (by rw [hrec]; rfl)
    rw [hrec] at hy
    refine ⟨fn, _, assign, body, hy, roundIn_of_wpIn hfn (hassign _ x W _ ⟨_, run_beginRound hl (by rw [hrec]), ?_⟩)⟩
    have hBp := put (w.heap.size + 1) (.loop { rec .ready none with state := .busy }) W (by omega)
    have hl2 : (W.putObj (w.heap.size + 1) (.loop { rec .ready none with state := .busy })).heap[w.heap.size + 1]? = some (.loop { rec .ready none with state := .busy }) := World.putObj_heap_same hlt
    have hk2 : (W.putObj (w.heap.size + 1) (.loop { rec .ready none with state := .busy })).heap[w.heap.size]? = some (.deferred (some [])) := (World.putObj_heap_other (by omega)).trans hk
    refine wpIn_mono (hbody _ x _ hx (hI _ _ hi (hBp.mono (by omega)))) ?_
    intro e a3 W3 hp
    cases e with
    | normal =>
      obtain ⟨hk3, hb3, hi3, hp3⟩ := hp
      have hl3 := hk3.same _ _ hl2 rfl
      have he := run_endRound (P := Tryz.prog) none hl3
      refine ⟨_, _, he, .inl ⟨rfl, ⟨hI _ _ hi3 ((put _ _ _ (by omega)).mono (by omega)), ?_, ?_⟩, hp3, (hBp.trans hb3).trans (put _ _ _ (by omega))⟩⟩
      · rw [World.putObj_heap_same (Array.getElem?_eq_some_iff.1 hl3).1, hrec]; rfl
      · exact (World.putObj_heap_other (by omega)).trans (hk3.same _ _ hk2 rfl)
    | ret =>
      obtain ⟨hk3, hi3, hp3⟩ := hp
      have hl3 := hk3.same _ _ hl2 rfl
      have he := run_endRound (P := Tryz.prog) (some .ret) hl3
      refine ⟨_, _, he, .inr ⟨rfl, ⟨hIx _ _ hi3 ((put _ _ _ (by omega)).mono (by omega)), ?_, ?_⟩, hp3⟩⟩
      · rw [World.putObj_heap_same (Array.getElem?_eq_some_iff.1 hl3).1, hrec]; rfl
      · exact (World.putObj_heap_other (by omega)).trans (hk3.same _ _ hk2 rfl)
    | exit id => exact hp.elim
    | goto t => exact hp.elim
    | panic ch => exact hp.elim
    | outgrown => exact hp.elim
  refine ⟨w.heap.size + 1, [{ target := .collected w.heap.size, args := #[] }], W1, { target := .fn (.func 168) #[.pointer (some ⟨H + 2, 0, none⟩), .pointer (some ⟨H + 1, 0, none⟩), .pointer (some ⟨H + 3, 0, none⟩)], args := #[.func (.yield (w.heap.size + 1)) #[] #[]] }, W1, 168,
    #[.func (.yield (w.heap.size + 1)) #[] #[]] ++ #[.pointer (some ⟨H + 2, 0, none⟩), .pointer (some ⟨H + 1, 0, none⟩), .pointer (some ⟨H + 3, 0, none⟩)], W1, ?_, ?_, ?_, ?_, fun _ => by omega, ?_⟩
  · rw [← hW1, hrec]; exact run_enterLoop_outer _ _ _ _ _
  · simp only [resolve, hg]
    simp [go_sem]
  · intro f' _; trivial
  · simp [invoke, go_sem, eg]
  · refine (split_in (n - 1) (H + 4) (by omega) (w.heap.size + 1) (H + 2) (H + 1) (H + 3) (by omega) (by omega) (by omega) (by omega) (by omega)
      (fun r W => (I W ∧ W.heap[w.heap.size + 1]? = some (.loop (rec .ready none)) ∧ W.heap[w.heap.size]? = some (.deferred (some []))) ∧ nmGo true nm = nmGo true r ∧ r.length ≤ nm.length)
      (fun W => (I W ∧ W.heap[w.heap.size + 1]? = some (.loop (rec .ready none)) ∧ W.heap[w.heap.size]? = some (.deferred (some []))) ∧ nmGo true nm = true)
      (fun W => (Ix W ∧ W.heap[w.heap.size + 1]? = some (.loop (rec .done (some .ret))) ∧ W.heap[w.heap.size]? = some (.deferred (some []))) ∧ nmGo true nm = false)
      ?hJ ?hDot ?hLast nm hnm W1 ((hB1.cell (p := ⟨H + 2, 0, none⟩) (by show H + 2 < _; omega)).trans c1) ((hB1.cell (p := ⟨H + 1, 0, none⟩) (by show H + 1 < _; omega)).trans c2) ((hB1.cell (p := ⟨H + 3, 0, none⟩) (by show H + 3 < _; omega)).trans c3) ((hB1.frozen (p := ⟨H + 1, 0, none⟩) (by show H + 1 < _; omega)).trans c4)
      ⟨⟨hI _ _ h0 (hB1.mono (by omega)), hl1, hk1⟩, rfl, Nat.le_refl _⟩).mono ?_
    case hJ =>
      rintro r W v ⟨⟨hi, hl, hk⟩, h1, h2⟩
      have hg := grownBy_setCell' W (H + 1) v
      refine ⟨⟨hI _ _ hi ((Below.refl _ W).setCell (p := ⟨H + 1, 0, none⟩) (Nat.le_refl _) _), ?_, ?_⟩, h1, h2⟩
      · exact (hg.block _ (Array.getElem?_eq_some_iff.1 hl).1 (by intro e; have := Option.some.inj e; omega)).trans hl
      · exact (hg.block _ (Array.getElem?_eq_some_iff.1 hk).1 (by intro e; have := Option.some.inj e; omega)).trans hk
    case hDot =>
      rintro r i W ⟨⟨hi, hl, hk⟩, h1, h2⟩ hidx
      obtain ⟨fn', tmps', as', bo', hy, hR⟩ := round (r.take i) W (by rw [List.length_take]; omega) hi hl hk
      refine ⟨fn', tmps', as', bo', hy, hR.mono ?_⟩
      rintro e W' (⟨rfl, h3, hp, hb⟩ | ⟨rfl, h3, hp⟩)
      · exact .inl ⟨rfl, ⟨h3, by rw [h1, nm_step hidx, hp]; rfl, by rw [List.length_drop]; omega⟩, hb⟩
      · exact .inr ⟨rfl, h3, by rw [h1, nm_step hidx, hp]; rfl⟩
    case hLast =>
      rintro r W ⟨⟨hi, hl, hk⟩, h1, h2⟩ hidx
      obtain ⟨fn', tmps', as', bo', hy, hR⟩ := round r W (by omega) hi hl hk
      refine ⟨fn', tmps', as', bo', hy, hR.mono ?_⟩
      rintro e W' (⟨rfl, h3, hp, hb⟩ | ⟨rfl, h3, hp⟩)
      · exact .inl ⟨rfl, h3, by rw [h1, nm_last hidx, hp]⟩
      · exact .inr ⟨rfl, h3, by rw [h1, nm_last hidx, hp]⟩
    · rintro e W2 ⟨⟨v, rfl⟩, (⟨⟨hi, hl, hk⟩, hz⟩ | ⟨⟨hi, hl, hk⟩, hz⟩)⟩
      · exact ⟨none, _, by have := run_endLoop (P := Tryz.prog) hl (by rw [hrec]; simp); rw [hrec] at this; exact this, hdone _ _ (by omega) (hI _ _ hi ((put _ _ _ (by omega)).mono (by omega))) hz ((World.putObj_heap_other (by omega)).trans hk)⟩
      · exact ⟨some .ret, _, by have := run_endLoop (P := Tryz.prog) hl (by rw [hrec]; simp); rw [hrec] at this; exact this, hstop _ _ (by omega) (hIx _ _ hi ((put _ _ _ (by omega)).mono (by omega))) hz ((World.putObj_heap_other (by omega)).trans hk)⟩
end Go.Proofs.YtahdkhklngjmoaaGreatDoor

/-
  A name's Right. No condition.
-/
namespace Go.Proofs.YtahdkhklngjmoaaGreatDoor
open Go.RowKit Go.Shelf
attribute [local go_sem] Oper.semAt_some

theorem splitSeq_any (s sep : ByteArray) (w : World) : Calls Tryz.prog 144 #[.string s, .string sep, .int .i64 0] w fun e w' =>
    e = .returned (.func (.func 168) #[] #[.pointer (some ⟨w.heap.size + 1, 0, none⟩), .pointer (some ⟨w.heap.size, 0, none⟩), .pointer (some ⟨w.heap.size + 2, 0, none⟩)]) ∧
    w' = ((w.alloc (.cells #[.string s] 9)).alloc (.cells #[.string sep] 9)).alloc (.cells #[.int .i64 0] 3) := by
  go_enter Tryz.func144, Tryz.ntmps144
  go_wp2
  go_ret
  exact ⟨rfl, rfl⟩
theorem SplitSeq_any (s sep : ByteArray) (w : World) : Calls Tryz.prog 116 #[.string s, .string sep] w fun e w' =>
    e = .returned (.func (.func 168) #[] #[.pointer (some ⟨w.heap.size + 1, 0, none⟩), .pointer (some ⟨w.heap.size, 0, none⟩), .pointer (some ⟨w.heap.size + 2, 0, none⟩)]) ∧
    w' = ((w.alloc (.cells #[.string s] 9)).alloc (.cells #[.string sep] 9)).alloc (.cells #[.int .i64 0] 3) := by
  go_enter Tryz.func116, Tryz.ntmps116
  go_wp2_with (go_at_call 144; refine (splitSeq_any _ _ _).mono ?_; rintro e w' ⟨rfl, rfl⟩)
  go_ret
  exact ⟨rfl, rfl⟩

set_option maxRecDepth 100000 in
set_option maxHeartbeats 1000000 in
theorem nameRight : NameRight := fun w nm hnm => by
  have hsz := szB nm
  refine (callsIn_wide (n := 6)).1 ?_
  refine callsIn_of_wp_marks Tryz.func93 rfl trivial ?_ rfl
  simp only [Tryz.ntmps93, List.size_toArray, List.length_cons, List.length_nil, Nat.reduceAdd, Nat.reduceSub, Array.replicate_succ, Array.replicate_zero, List.push_toArray, List.append_toArray, List.nil_append, List.cons_append]
  by_cases h40 : nm.length ≤ 40
  · gi_wp2_with (refine ⟨trivial, ?_⟩; gi_at_call 116; refine (callsIn_wide.2 (SplitSeq_any _ _ _)).mono ?_; rintro e w' ⟨rfl, rfl⟩)
    have HX := Lib.hid h40
    have hsz4 : ((((w.alloc (.cells #[.bool false] 4)).alloc (.cells #[.string ⟨nm.toArray⟩] 9)).alloc (.cells #[.string ⟨#[46]⟩] 9)).alloc (.cells #[.int .i64 0] 3)).heap.size = w.heap.size + 4 := by simp
    obtain ⟨wS, hwS⟩ : ∃ wS, wS = (((w.alloc (.cells #[.bool false] 4)).alloc (.cells #[.string ⟨nm.toArray⟩] 9)).alloc (.cells #[.string ⟨#[46]⟩] 9)).alloc (.cells #[.int .i64 0] 3) := ⟨_, rfl⟩
    have b0 : Boxed wS w.heap.size 4 (.bool false) := by rw [hwS]; exact (((Boxed.new w _ _).alloc _).alloc _).alloc _
    have b1 : Boxed wS (w.heap.size + 1) 9 (.string ⟨nm.toArray⟩) := by rw [hwS]; have := Boxed.new (w.alloc (.cells #[.bool false] 4)) 9 (.string ⟨nm.toArray⟩); rw [World.size_alloc] at this; exact (this.alloc _).alloc _
    have b2 : Boxed wS (w.heap.size + 2) 9 (.string ⟨#[46]⟩) := by rw [hwS]; have := Boxed.new ((w.alloc (.cells #[.bool false] 4)).alloc (.cells #[.string ⟨nm.toArray⟩] 9)) 9 (.string ⟨#[46]⟩); rw [World.size_alloc, World.size_alloc] at this; exact this.alloc _
    have b3 : Boxed wS (w.heap.size + 3) 3 (.int .i64 0) := by rw [hwS]; have := Boxed.new (((w.alloc (.cells #[.bool false] 4)).alloc (.cells #[.string ⟨nm.toArray⟩] 9)).alloc (.cells #[.string ⟨#[46]⟩] 9)) 3 (.int .i64 0); rw [World.size_alloc, World.size_alloc, World.size_alloc] at this; exact this
    have hBS : Below w.heap.size w wS := by rw [hwS]; exact ((((Below.refl _ w).alloc (Nat.le_refl _) _).alloc (by simp) _).alloc (by simp; omega) _).alloc (by simp; omega) _
    rw [← hwS] at hsz4 ⊢
    clear hwS
    refine rangeSplit (n := 6) (by omega) w.heap.size hsz4 nm hnm rfl b2.cell b1.cell b3.cell b1.frozen
      (fun W => Boxed W w.heap.size 4 (.bool false) ∧ Below w.heap.size w W ∧ w.heap.size + 4 ≤ W.heap.size) (fun W => Boxed W w.heap.size 4 (.bool false) ∧ Below w.heap.size w W ∧ w.heap.size + 4 ≤ W.heap.size)
      (fun A B h hb => ⟨(hb.block _ (Nat.lt_succ_self _)).trans h.1, h.2.1.trans (hb.mono (by omega)), Nat.le_trans h.2.2 hb.size⟩) (fun A B h hb => ⟨(hb.block _ (Nat.lt_succ_self _)).trans h.1, h.2.1.trans (hb.mono (by omega)), Nat.le_trans h.2.2 hb.size⟩) ⟨b0, hBS, by omega⟩
      (fun x => { tmps := #[.string ⟨nm.toArray⟩, undef, .pointer (some ⟨w.heap.size, 0, none⟩), .string ⟨x.toArray⟩, .string ⟨nm.toArray⟩, .int .i64 nm.length, .bool (decide (40 < (nm.length : Int))), .string ⟨nm.toArray⟩, .func (.func 168) #[] #[.pointer (some ⟨w.heap.size + 2, 0, none⟩), .pointer (some ⟨w.heap.size + 1, 0, none⟩), .pointer (some ⟨w.heap.size + 3, 0, none⟩)], .string ⟨x.toArray⟩, undef, undef, undef], defers := [] })
      ?assign ?body ?done ?stop
    case assign =>
      intro l x W K hK
      gi_wp2
      exact hK
    case body =>
      rintro l x W hx ⟨hb, hB, hle4⟩
      have hp := part_any W x hx
      obtain ⟨g, hg⟩ : ∃ g, g = partOk x := ⟨_, rfl⟩
      rw [← hg] at hp
      have HG := Lib.hid hg
      clear hg
      have ko : ∀ w' : World, Below W.heap.size W w' → KeepsOthers W w' := fun w' h => ⟨h.size, fun k o hk ho => (h.block k (Array.getElem?_eq_some_iff.1 hk).1).trans hk⟩
      have hle : w.heap.size ≤ W.heap.size := hB.size
      cases g
      · gi_wp2_with (refine ⟨trivial, ?_⟩; gi_at_call 117; refine (CallsIn.inRound l (callsIn_wide.2 hp)).mono ?_; rintro e w' ⟨rfl, hB'⟩; have hb' : Boxed w' w.heap.size 4 (.bool false) := (hB'.block _ hb.lt).trans hb; have hc' := hb'.cell; have hf' := hb'.frozen)
        exact ⟨(ko _ hB').trans (KeepsOthers.setCell _ _ _), ⟨hb'.set _, (hB.trans (hB'.mono hle)).setCell (p := ⟨w.heap.size, 0, none⟩) (Nat.le_refl _) _, Nat.le_trans hle4 (Nat.le_trans hB'.size (grownBy_setCell' _ _ _).size)⟩, HG.out.symm⟩
      · gi_wp2_with (refine ⟨trivial, ?_⟩; gi_at_call 117; refine (CallsIn.inRound l (callsIn_wide.2 hp)).mono ?_; rintro e w' ⟨rfl, hB'⟩; have hb' : Boxed w' w.heap.size 4 (.bool false) := (hB'.block _ hb.lt).trans hb; have hc' := hb'.cell; have hf' := hb'.frozen)
        exact ⟨ko _ hB', hB'.mono hle4, ⟨hb', hB.trans (hB'.mono hle), Nat.le_trans hle4 hB'.size⟩, HG.out.symm⟩
    case done =>
      rintro D W hD ⟨hb, hB, hle4⟩ hz hK
      have hc := hb.cell
      have hf := hb.frozen
      gi_wp2
      have hK2 : (W.setCell ⟨w.heap.size, 0, none⟩ (.bool true)).heap[D]? = some (.deferred (some [])) := (KeepsOthers.setCell _ _ _).same D _ hK rfl
      refine ⟨by simp, .inl ⟨_, _, rfl, run_takeDeferred hK2, ?_⟩⟩
      have hb2 : Boxed ((W.setCell ⟨w.heap.size, 0, none⟩ (.bool true)).putObj D (.deferred none)) w.heap.size 4 (.bool true) := (World.putObj_heap_other (by omega)).trans (hb.set _)
      have hc2 := hb2.cell
      have hnil : nm ≠ [] := by rintro rfl; simp [nmGo] at hz
      have hok : nameOk nm = true := by
        unfold nameOk
        rw [hz, decide_eq_true HX.out, decide_eq_true (p := 1 ≤ nm.length) (by cases nm with | nil => exact absurd rfl hnil | cons => simp)]; rfl
      refine ⟨.bool true, by simp [results, Tryz.results93, go_sem, hc2], ?_⟩
      exact ⟨ret_bool hok.symm, (hB.setCell (p := ⟨w.heap.size, 0, none⟩) (Nat.le_refl _) _).trans ⟨rfl, rfl, rfl, by rw [World.putObj_size]; exact Nat.le_refl _, fun k hk => World.putObj_heap_other (by omega)⟩⟩
    case stop =>
      rintro D W hD ⟨hb, hB, hle4⟩ hz hK
      have hc := hb.cell
      have hf := hb.frozen
      gi_wp2
      refine ⟨by simp, .inl ⟨_, _, rfl, run_takeDeferred hK, ?_⟩⟩
      have hb2 : Boxed (W.putObj D (.deferred none)) w.heap.size 4 (.bool false) := (World.putObj_heap_other (by omega)).trans hb
      have hc2 := hb2.cell
      refine ⟨.bool false, by simp [results, Tryz.results93, go_sem, hc2], ?_⟩
      exact ⟨ret_bool (by unfold nameOk; rw [hz]; simp), hB.trans ⟨rfl, rfl, rfl, by rw [World.putObj_size]; exact Nat.le_refl _, fun k hk => World.putObj_heap_other (by omega)⟩⟩
  · gi_wp2
    have hc2 := (Boxed.new w 4 (.bool false)).cell
    refine ⟨.bool false, by simp [results, Tryz.results93, go_sem, hc2], ?_⟩
    exact ⟨ret_bool (by unfold nameOk; rw [decide_eq_false h40]; simp), (Below.refl _ w).alloc (Nat.le_refl _) _⟩
end Go.Proofs.YtahdkhklngjmoaaGreatDoor

