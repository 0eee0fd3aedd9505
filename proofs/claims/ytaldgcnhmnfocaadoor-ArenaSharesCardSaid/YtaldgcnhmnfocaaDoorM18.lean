/-
  Texts put together: Lays7, Y1, Y2, Y3. No condition.
-/
import Derived.Test.YtaldgcnhmnfocaaDoorM6
import Derived.Shelf.Strconv.Itoa1
import Derived.Shelf.Strconv.Itoa2
import Derived.Shelf.LaysM
import Derived.Lib.ItoaMem
import Derived.Ground.NamesProg
import Derived.Test.YtaldgcnhmnfocaaDoorM13
import Derived.Test.YtaldgcnhmnfocaaDoorM7
import Derived.Test.YtaldgcnhmnfocaaDoorM12
import Derived.Laws.StructEq
/-
  DERIVED: THE SHELF's CONTRACTS AT THIS DUMP, IN PLAIN WORDS (tools/lay-plain.mjs out of 'YtaldgcnhmnfocaaDoorLays7.lean', which tools/lay-shelf.mjs wrote): THE SAME DECLARATIONS UNDER THE SAME NAMES: 'import', 'namespace', 'open', 'def', 'theorem' AND NOTHING ELSE: no command of the shelf's: FOR A HAND-IN. Each laying: the table of numbers ('.._ren') and one theorem, a field a fact of the dump's own or the kernel's comparison; each contract: ONE APPLICATION.
-/
namespace Go.Proofs.YtaldgcnhmnfocaaDoor
open Go.Shelf
def Tryd.l283_ren : Go.Shelf.Ren := ⟨fun | 283 => 73 | n => n, fun | 3 => 3 | 9 => 9 | 4 => 4 | n => n, fun | n => n⟩
theorem Tryd.l283 : Go.Proofs.Lays.n283 Tryd.prog Tryd.l283_ren := {
  mixed := by kernel_rfl
  f283 := Tryd.func73.trans (congrArg some (by kernel_rfl))
  t3 := Tryd.underlying3
  a3 := Tryd.isAgg3
  z3 := Tryd.sizeOf3
  v3 := Tryd.zeroValue3
  t4 := Tryd.underlying4
  a4 := Tryd.isAgg4
  z4 := Tryd.sizeOf4
  v4 := Tryd.zeroValue4
  t9 := Tryd.underlying9
  a9 := Tryd.isAgg9
  z9 := Tryd.sizeOf9
  v9 := Tryd.zeroValue9 }
def Tryd.l284_ren : Go.Shelf.Ren := ⟨fun | 284 => 74 | 129 => 80 | 317 => 79 | 318 => 81 | n => n, fun | 53 => 96 | 3 => 3 | 212 => 109 | 0 => 0 | 4 => 4 | 46 => 113 | 5 => 5 | 9 => 9 | n => n, fun | 17 => 0 | n => n⟩
theorem Tryd.l284 : Go.Proofs.LaysM.n284 Tryd.prog Tryd.l284_ren := {
  mixed := by kernel_rfl
  f129 := Tryd.func80.trans (congrArg some (by kernel_rfl))
  f284 := Tryd.func74.trans (congrArg some (by kernel_rfl))
  f317 := Tryd.func79.trans (congrArg some (by kernel_rfl))
  f318 := Tryd.func81.trans (congrArg some (by kernel_rfl))
  t0 := Tryd.underlying0
  a0 := Tryd.isAgg0
  z0 := Tryd.sizeOf0
  v0 := Tryd.zeroValue0
  t3 := Tryd.underlying3
  a3 := Tryd.isAgg3
  z3 := Tryd.sizeOf3
  v3 := Tryd.zeroValue3
  t4 := Tryd.underlying4
  a4 := Tryd.isAgg4
  z4 := Tryd.sizeOf4
  v4 := Tryd.zeroValue4
  t5 := Tryd.underlying5
  a5 := Tryd.isAgg5
  z5 := Tryd.sizeOf5
  v5 := Tryd.zeroValue5
  t9 := Tryd.underlying9
  a9 := Tryd.isAgg9
  z9 := Tryd.sizeOf9
  v9 := Tryd.zeroValue9
  t46 := Tryd.underlying113
  a46 := Tryd.isAgg113
  z46 := Tryd.sizeOf113
  v46 := Tryd.zeroValue113
  t53 := Tryd.underlying96
  a53 := Tryd.isAgg96
  z53 := Tryd.sizeOf96
  v53 := Tryd.zeroValue96
  t212 := Tryd.underlying109
  a212 := Tryd.isAgg109
  z212 := Tryd.sizeOf109
  v212 := Tryd.zeroValue109
  g17 := by kernel_rfl
  i0 := by kernel_rfl
  i3 := by kernel_rfl
  i4 := by kernel_rfl
  i5 := by kernel_rfl
  i9 := by kernel_rfl
  i46 := by kernel_rfl
  i53 := by kernel_rfl
  i212 := by kernel_rfl
  m17 := by kernel_rfl }
def Tryd.l285_ren : Go.Shelf.Ren := ⟨fun | 285 => 75 | n => n, fun | 37 => 78 | 53 => 96 | 3 => 3 | 4 => 4 | 51 => 110 | 9 => 9 | 5 => 5 | 0 => 0 | n => n, fun | n => n⟩
theorem Tryd.l285 : Go.Proofs.Lays.n285 Tryd.prog Tryd.l285_ren := {
  mixed := by kernel_rfl
  f285 := Tryd.func75.trans (congrArg some (by kernel_rfl))
  t0 := Tryd.underlying0
  a0 := Tryd.isAgg0
  z0 := Tryd.sizeOf0
  v0 := Tryd.zeroValue0
  t3 := Tryd.underlying3
  a3 := Tryd.isAgg3
  z3 := Tryd.sizeOf3
  v3 := Tryd.zeroValue3
  t4 := Tryd.underlying4
  a4 := Tryd.isAgg4
  z4 := Tryd.sizeOf4
  v4 := Tryd.zeroValue4
  t5 := Tryd.underlying5
  a5 := Tryd.isAgg5
  z5 := Tryd.sizeOf5
  v5 := Tryd.zeroValue5
  t9 := Tryd.underlying9
  a9 := Tryd.isAgg9
  z9 := Tryd.sizeOf9
  v9 := Tryd.zeroValue9
  t37 := Tryd.underlying78
  a37 := Tryd.isAgg78
  z37 := Tryd.sizeOf78
  v37 := Tryd.zeroValue78
  t51 := Tryd.underlying110
  a51 := Tryd.isAgg110
  z51 := Tryd.sizeOf110
  v51 := Tryd.zeroValue110
  t53 := Tryd.underlying96
  a53 := Tryd.isAgg96
  z53 := Tryd.sizeOf96
  v53 := Tryd.zeroValue96 }
end Go.Proofs.YtaldgcnhmnfocaaDoor

/-
  strconv.AppendInt of a number from 0 on. No condition.
-/
namespace Go.Proofs.YtaldgcnhmnfocaaDoor
open Go.RowKit Go.Sort

theorem rowY_turn {M : Mem} {H : Heap} {w w' : World} {b : Nat} {cs ys : List AV} {ds : List Value} {T0 : TypeId} (h : Inv M ((b, .cells cs) :: H) w) (hsz : w.heap.size ≤ w'.heap.size) (h1 : w'.os = w.os) (h2 : w'.tape = w.tape) (h3 : w'.output = w.output)
    (hot : ∀ k, k < w.heap.size → k ≠ b → w'.heap[k]? = w.heap[k]?) (hb : w'.heap[b]? = some (.cells ds.toArray T0 (0, 0))) (hc : repC M ys ds) : Evo [b] M w M w' ∧ Inv M ((b, .cells ys) :: H) w' := by
  have e : Evo [b] M w M w' := ⟨h1, h2, h3, hsz, fun k hk hn => hot k hk (by simpa using hn), Mem.le.refl M, fun _ _ _ h => Or.inl h⟩
  obtain ⟨hnone, vs, T, hg, _⟩ := h.obj b (.cells cs) (by simp)
  have hnd := h.nodup
  simp only [Heap.keys, List.map_cons, List.nodup_cons] at hnd
  refine ⟨e, fun b' o v hv => ?_, fun b' x hx => ?_, by simpa only [Heap.keys, List.map_cons, List.nodup_cons] using hnd⟩
  · have hne : b' ≠ b := fun e => by subst e; rw [hnone o] at hv; cases hv
    rw [← h.mem b' o v hv]
    simp only [World.cell?, hot b' (h.lt hv) hne]
  · rcases List.mem_cons.1 hx with hx | hx
    · cases hx
      exact ⟨hnone, ds, T0, hb, hc⟩
    · have hne : b' ≠ b := fun e => hnd.1 (by rw [← e]; exact Heap.mem_keys hx)
      exact (h.obj b' x (List.mem_cons_of_mem _ hx)).keep e (by simpa using hne)
/-! digits -/
def decY (n : Nat) : List UInt8 := Lib.decDigits n
def digY (c : UInt8) : Bool := decide (48 ≤ c.toNat) && decide (c.toNat ≤ 57)
theorem decY_step (n : Nat) : decY n = (if n < 10 then [] else decY (n / 10)) ++ [UInt8.ofNat (48 + n % 10)] := by
  unfold decY
  rw [Lib.decDigits]
  by_cases h : n < 10
  · rw [dif_pos h, if_pos h, Nat.mod_eq_of_lt h]; rfl
  · rw [dif_neg h, if_neg h]
theorem digY_of {k : Nat} (h : k < 10) : digY (UInt8.ofNat (48 + k)) = true := by
  have : k = 0 ∨ k = 1 ∨ k = 2 ∨ k = 3 ∨ k = 4 ∨ k = 5 ∨ k = 6 ∨ k = 7 ∨ k = 8 ∨ k = 9 := by omega
  rcases this with rfl | rfl | rfl | rfl | rfl | rfl | rfl | rfl | rfl | rfl <;> decide
theorem decY_dig (n : Nat) : ∀ c ∈ decY n, digY c = true := by
  induction n using Nat.strongRecOn with
  | _ n ih =>
    intro c hc
    rw [decY_step] at hc
    rcases List.mem_append.1 hc with hc | hc
    · by_cases h : n < 10
      · rw [if_pos h] at hc; cases hc
      · rw [if_neg h] at hc
        exact ih (n / 10) (by omega) c hc
    · rw [List.mem_singleton] at hc
      subst hc
      exact digY_of (Nat.mod_lt _ (by decide))
theorem ofNatY_inj {a b : Nat} (ha : a < 10) (hb : b < 10) (h : UInt8.ofNat (48 + a) = UInt8.ofNat (48 + b)) : a = b := by
  have := congrArg UInt8.toNat h
  simp only [UInt8.toNat_ofNat'] at this
  omega
theorem decY_inj : ∀ (n m : Nat), decY n = decY m → n = m := by
  intro n
  induction n using Nat.strongRecOn with
  | _ n ih =>
    intro m h
    rw [decY_step n, decY_step m] at h
    obtain ⟨h1, h2⟩ := List.append_inj' h rfl
    have h3 := ofNatY_inj (Nat.mod_lt _ (by decide)) (Nat.mod_lt _ (by decide)) (List.cons.inj h2).1
    have hne : ∀ k, decY k ≠ [] := fun k e => by
      rw [decY_step] at e
      simp at e
    by_cases hn : n < 10
    · rw [if_pos hn] at h1
      by_cases hm : m < 10
      · omega
      · rw [if_neg hm] at h1
        exact absurd h1.symm (hne _)
    · rw [if_neg hn] at h1
      by_cases hm : m < 10
      · rw [if_pos hm] at h1
        exact absurd h1 (hne _)
      · rw [if_neg hm] at h1
        have := ih (n / 10) (by omega) (m / 10) h1
        omega
theorem decY_len (n : Nat) (h : n < 18446744073709551616) : (decY n).length ≤ 20 := by
  unfold decY
  rcases Nat.eq_zero_or_pos n with rfl | h1
  · rw [Lib.decDigits_one (by decide)]; simp
  · rw [Lib.decDigits_length]
    have := Lib.numDigits_eq n h1 h
    split at this <;> omega

/-! the library's functions, in memory -/
theorem ans_same {P : Program} {f : FuncId} {args : List AV} {r : AV} (he : ∀ as' w, (callFunc f as').run P w = .ok (.enter f as') w) (hc : ∀ (M : Mem) (w : World) (vs : List Value), GW w → repT M args vs → ∃ v, (∀ M, rep M r v) ∧ Calls P f vs.toArray w fun e w' => e = .returned v ∧ w' = w) : Ans P f args r := by
  intro H Q hq M w vs hG hI hargs
  obtain ⟨v, hv, h⟩ := hc M w vs hG.1 hargs
  rw [he]
  refine Calls.mono h ?_
  rintro e w' ⟨rfl, rfl⟩
  exact ⟨v, rfl, M, r, H, Evo.refl _ _ _, hI, fun b hb => Or.inl hb, hv M, hq⟩
set_option maxRecDepth 100000 in
theorem small_con (i : Nat) (hi : i < 100) : Ans Tryd.prog 73 [.i i] (.str (decY i)) := by
  refine ans_same (ent Tryd.func73 (by kernel_rfl) rfl) fun M w vs _ hargs => ?_
  simp only [repT] at hargs
  obtain ⟨v, _, rfl, hv, rfl⟩ := hargs
  simp only [AV.i, rep] at hv
  obtain ⟨rfl, _⟩ := hv
  have hl := decY_len i (by omega)
  exact ⟨.string ⟨(decY i).toArray⟩, fun M => rep_str (by omega), Any.internal_strconv_small Tryd.l283 i hi w⟩
set_option maxRecDepth 100000 in
theorem numDigits_con (u : Nat) (h1 : 1 ≤ u) (h2 : u < 18446744073709551616) : Ans Tryd.prog 74 [.v (.int .u64 u)] (.i (Lib.nDigits u : Nat)) := by
  refine ans_same (ent Tryd.func74 (by kernel_rfl) rfl) fun M w vs hG hargs => ?_
  simp only [repT] at hargs
  obtain ⟨v, _, rfl, hv, rfl⟩ := hargs
  simp only [rep] at hv
  obtain ⟨rfl, _⟩ := hv
  exact ⟨.int .i64 (Lib.nDigits u), fun M => by simp [AV.i, rep, Value.oneCell'], Any.internal_strconv_numDigits Tryd.l284 u h1 h2 w hG.2⟩
def encB (c : UInt8) : Value := .int .u8 (c.toNat : Int)
theorem rep_byte {M : Mem} (c : UInt8) : (encB c).oneCell' = true ∧ rep M (byteV c) (encB c) := ⟨rfl, by unfold byteV; simp only [rep]; exact ⟨rfl, rfl⟩⟩
theorem bytesC_rep {M : Mem} : ∀ zs : List UInt8, repC M (zs.map byteV) (zs.map encB)
  | [] => by simp only [List.map_nil, repC]
  | z :: zs => by
    simp only [List.map_cons, repC]
    exact ⟨_, _, rfl, rep_byte z, bytesC_rep zs⟩
theorem bytesC_vals {M : Mem} : ∀ {zs : List UInt8} {vs : List Value}, repC M (zs.map byteV) vs → vs = zs.map encB
  | [], vs, h => by simp only [List.map_nil, repC] at h; subst h; rfl
  | z :: zs, vs, h => by
    simp only [List.map_cons, repC] at h
    obtain ⟨c, cs, rfl, ⟨_, h1⟩, h2⟩ := h
    unfold byteV at h1
    simp only [rep] at h1
    rw [bytesC_vals h2, h1.1]
    rfl
/-- bytes in a row that turns: what the shelf wants, and what it gives -/
theorem row_bytes {M : Mem} {H : Heap} {w : World} {b n : Nat} {cs : List AV} {zs : List UInt8} (hz : zs.length = n) (hcs : cs.take n = zs.map byteV) (hI : Inv M ((b, .cells cs) :: H) w) :
    b < w.heap.size ∧ Holds encB w b 0 zs.toArray ∧
    ∀ (ds : List UInt8) (k : Nat), ds.length = n → Evo [b] M w M ((putRow encB w b 0 ds.toArray).drewN k) ∧ Inv M ((b, .cells (ds.map byteV ++ cs.drop n)) :: H) ((putRow encB w b 0 ds.toArray).drewN k) := by
  obtain ⟨_, vs, T0, hg, hrep⟩ := hI.obj b (.cells cs) (by simp)
  have hlt : b < w.heap.size := (Array.getElem?_eq_some_iff.1 hg).1
  have k1 := bytesC_vals (M := M) (vs := vs.take n) (by rw [← hcs]; exact hrep.take n)
  have hvl : n ≤ vs.length := by
    have := congrArg List.length k1
    rw [List.length_take, List.length_map] at this
    omega
  refine ⟨hlt, fun j hj => ?_, fun ds k hl => ?_⟩
  · simp only [List.size_toArray] at hj
    have e1 : vs[j]? = some (encB zs[j]) := by
      have : (vs.take n)[j]? = (zs.map encB)[j]? := by rw [k1]
      rw [List.getElem?_take, if_pos (by omega), List.getElem?_map, List.getElem?_eq_getElem hj] at this
      exact this
    refine ⟨?_, ?_⟩
    · simp only [World.cell?, hg, Nat.zero_add]
      rw [getElem!_pos zs.toArray j (by simpa using hj)]
      simpa using e1
    · simp [World.frozen?, hg]
  · refine rowY_turn (ds := ds.map encB ++ vs.drop n) (T0 := T0) hI (by simp [World.drewN, putRow, mapBlock]) rfl rfl rfl (fun q hq hqb => ?_) ?_ ((bytesC_rep ds).append (hrep.drop n))
    · unfold putRow mapBlock World.drewN
      simp only
      rw [Array.getElem?_modify, if_neg (Ne.symm hqb)]
    · unfold putRow mapBlock World.drewN
      simp only
      rw [Array.getElem?_modify, if_pos rfl, hg]
      simp only [Option.map_some, onCells]
      congr 2
      apply Array.ext_getElem?
      intro i
      unfold Sort.putCells
      rw [Array.getElem?_mapIdx]
      simp only [List.size_toArray, Nat.zero_le, true_and, Nat.zero_add, Nat.sub_zero, List.getElem?_toArray]
      by_cases hi : i < n
      · rw [List.getElem?_append_left (by simpa [hl] using hi), List.getElem?_map, List.getElem?_eq_getElem (by omega), List.getElem?_eq_getElem (by omega)]
        simp only [Option.map_some]
        rw [if_pos (by omega), getElem!_pos ds.toArray i (by simpa [hl] using hi)]
        simp
      · rw [List.getElem?_append_right (by simp [hl]; omega), List.length_map, hl, List.getElem?_drop, show n + (i - n) = i by omega]
        cases vs[i]? with
        | none => rfl
        | some v => simp only [Option.map_some]; rw [if_neg (by omega)]
set_option maxRecDepth 100000 in
theorem format10_con (u : Nat) (h1 : 1 ≤ u) (h2 : u < 18446744073709551616) {b cap : Nat} {cs : List AV} {zs : List UInt8} {H : Heap} {Q : AV → Heap → Prop} (hz : zs.length = Lib.nDigits u) (hcs : cs.take (Lib.nDigits u) = zs.map byteV)
    (hq : Q (.tup []) ((b, .cells ((decY u).map byteV ++ cs.drop (Lib.nDigits u))) :: H)) : Con Tryd.prog 75 [.v (.slice (some ⟨b, 0, none⟩) (Lib.nDigits u) cap), .v (.int .u64 u)] ((b, .cells cs) :: H) Q := by
  intro M w vs _ hI hargs
  simp only [repT] at hargs
  obtain ⟨v, _, rfl, hv, v2, _, rfl, hv2, rfl⟩ := hargs
  simp only [rep] at hv hv2
  obtain ⟨rfl, _⟩ := hv
  obtain ⟨rfl, _⟩ := hv2
  obtain ⟨hlt, hh, ht⟩ := row_bytes hz hcs hI
  have hnd : Lib.nDigits u ≤ 20 := by
    have := Lib.numDigits_eq u h1 h2
    split at this <;> omega
  have hcall := Any.internal_strconv_formatBase10 Tryd.l285 b 0 cap u zs.toArray w hh (by rw [List.size_toArray, hz]; exact Lib.lt_pow_nDigits u) h2 (by rw [List.size_toArray, hz]; omega)
  rw [List.size_toArray, hz] at hcall
  rw [ent Tryd.func75 (by kernel_rfl) rfl]
  refine Calls.mono hcall ?_
  rintro e w' ⟨rfl, k, v', dk, rfl, hF⟩
  have hdk : dk = (decY u).toArray := by
    apply Array.ext
    · rw [hF.size, List.size_toArray]; unfold decY; rw [Lib.decDigits_length]
    · intro i hi1 hi2
      have := Lib.row_is_numeral hF i (by simpa [decY] using hi2)
      rw [getElem!_pos dk i hi1] at this
      simpa [decY] using this.symm
  subst hdk
  obtain ⟨e1, e2⟩ := ht (decY u) k (by unfold decY; rw [Lib.decDigits_length])
  exact ⟨_, rfl, M, .tup [], _, e1.mono (fun q hq => by simp only [List.mem_singleton] at hq; subst hq; simp [Heap.keys]), e2, fun q hq => Or.inl hq, by simp [rep, repT], hq⟩
end Go.Proofs.YtaldgcnhmnfocaaDoor

/-
  strconv.AppendInt of a number from 0 on; arena's level, words. No condition.
-/
namespace Go.Proofs.YtaldgcnhmnfocaaDoor
open Go.RowKit

section
variable {P : Program} {tab : Tab} {esc : Nat → Bool} {N : Nat} {a b : Code} {Q : Exit → St → Prop} {s : St}
theorem sem_cond {c : Operand} {q : Bool} (hx : s.e.ev c = .g (.b q)) (h : sem P N (match q with | true => a | false => b) Q s) : sem P N (.cond c a b) Q s := fun hs B ac w hc => by
  simp only [slotsOk, Bool.and_eq_true] at hs
  obtain ⟨M, lm, hca⟩ := hc
  have hcv : ac.eval c = .bool q := by
    have := hca.ev c
    rw [hx] at this
    simp only [repX, AV.b, rep] at this
    exact this.1
  refine wp_cond hcv ?_
  cases q with
  | true => exact h hs.1 B ac w ⟨M, lm, hca⟩
  | false => exact h hs.2 B ac w ⟨M, lm, hca⟩
end
theorem ifNil_ne {ys : List AV} {A B : Prop} (h : ys ≠ []) (hB : B) : ifNil ys A B := by
  cases ys with
  | nil => exact absurd rfl h
  | cons y ys => exact hB
theorem zeros_take {k n : Nat} (h : k ≤ n) : (List.replicate n (byteV 0)).take k = List.replicate k (byteV 0) := by
  rw [List.take_replicate, Nat.min_eq_left h]
set_option maxRecDepth 100000 in
set_option maxHeartbeats 1000000 in
theorem AppendUint_con (u : Nat) (hu : u < 9223372036854775807) (xs : List UInt8) (hx : xs.length ≤ 1000000000) (c0 : Cap) {H0 : Heap} {Q : AV → Heap → Prop} (hq : ∀ c : Cap, c.b ∉ H0.keys → Q (.sl (.own c) 1 ((xs ++ decY u).map byteV)) ((c.b, .cap c) :: H0)) :
    Con Tryd.prog 68 [.sl (.own c0) 1 (xs.map byteV), .v (.int .u64 u), .i 10] ((c0.b, .cap c0) :: H0) Q := by
  have hdl := decY_len u (by omega)
  have hxl : (xs.map byteV).length = xs.length := List.length_map _
  have hdm : ((decY u).map byteV).length = (decY u).length := List.length_map _
  refine con_of_sem tab_ok Tryd.func68 rfl (ent Tryd.func68 (by kernel_rfl) rfl) (by kernel_rfl) ?_
  intro hw hn
  clear hw hn
  have fin : ∀ c : Cap, c.b ∉ H0.keys → ∃ r H', Le (.sl (.own c) 1 (xs.map byteV ++ (decY u).map byteV)) r ∧ List.Sublist H' ((c.b, .cap c) :: H0) ∧ Q r H' := fun c hc => ⟨_, _, le_of_eq (by rw [List.map_append]), List.Sublist.refl _, hq c hc⟩
  have hpos : 0 < (decY u).length := by rw [decY_step]; simp
  have hne : (decY u).map byteV ≠ [] := fun h => by
    have := congrArg List.length h
    rw [List.length_map] at this
    simp only [List.length_nil] at this
    omega
  refine sem_seq (esc := [7].contains) tab_ok mixed ?_
  refine sem_then ?_
  refine sem_seq (esc := [7].contains) tab_ok mixed ?_
  refine sem_cond rfl ?_
  refine sem_seq (esc := [7].contains) tab_ok mixed ?_
  refine ifB_dec (fun h1 => ?_) (fun h1 => ?_)
  · refine ⟨in64_of (by first | omega | (dsimp only; omega)) (by first | omega | (dsimp only; omega)), ?_⟩
    refine ⟨[.i u], LeL.refl _, small_con u (by omega) _ _ ?_⟩
    intro hz1 hz2; clear hz1 hz2
    refine ⟨(by rw [hxl, hdm]; show _ * (1 + 1) ≤ 140737488355328; omega), ifNil_ne hne ?_⟩
    refine own_of (q := some c0) (H0 := H0) rfl rfl (fun _ h => h) fun c hc => ?_
    exact fin c hc
  · have hnd := Lib.decDigits_length u
    have hdn : Lib.nDigits u = (decY u).length := hnd.symm
    refine sem_seq (esc := [7].contains) tab_ok mixed ?_
    intro b hb
    refine sem_seq (esc := [7].contains) tab_ok mixed ?_
    refine ⟨_, LeL.refl _, numDigits_con u (by omega) (by omega) _ _ ?_⟩
    intro hz1 hz2; clear hz1 hz2
    refine sem_seq (esc := [7].contains) tab_ok mixed ?_
    refine ⟨Lib.nDigits u, rfl, ⟨by omega, by omega⟩, 0, rfl, ?_⟩
    refine ⟨[.v (.slice (some ⟨b, 0, none⟩) (Lib.nDigits u) 24), .v (.int .u64 u)], LeL.refl _, format10_con u (by omega) (by omega) (zs := List.replicate (Lib.nDigits u) 0) (by simp) ?_ ?_⟩
    · rw [List.map_replicate]
      exact zeros_take (k := Lib.nDigits u) (n := 24) (by omega)
    intro hz1 hz2; clear hz1 hz2
    refine sem_ice (b := b) (cs := (decY u).map byteV ++ (List.replicate 24 (byteV 0)).drop (Lib.nDigits u)) (H0 := (c0.b, .cap c0) :: H0) ⟨[(0, .g (.sl (.own c0) 1 (xs.map byteV))), (7, .g (.ip ((decY u).map byteV ++ (List.replicate 24 (byteV 0)).drop (Lib.nDigits u)))), (8, .g (.i (Lib.nDigits u : Nat)))], [], (c0.b, .cap c0) :: H0⟩ .here (fun M hM => ⟨⟨Le.refl _ |>.m M, ptr_ice hM, Le.refl _ |>.m M, trivial⟩, trivial, List.Sublist.refl _⟩) ?_
    refine sem_of (esc := [7].contains) tab_ok mixed ?_
    have hcl : ((decY u).map byteV ++ (List.replicate 24 (byteV 0)).drop (Lib.nDigits u)).length = 24 := by
      rw [List.length_append, hdm, List.length_drop, List.length_replicate]
      omega
    have htk : ((((decY u).map byteV ++ (List.replicate 24 (byteV 0)).drop (Lib.nDigits u)).drop 0).take (Lib.nDigits u - 0)) = (decY u).map byteV := by
      rw [List.drop_zero, Nat.sub_zero, List.take_left' (by rw [hdm]; exact hnd)]
    have hcc : ∀ y ∈ (decY u).map byteV ++ (List.replicate 24 (byteV 0)).drop (Lib.nDigits u), y.cells = [y] := fun y hy => by
      rcases List.mem_append.1 hy with hy | hy
      · obtain ⟨c, _, rfl⟩ := List.mem_map.1 hy; rfl
      · rw [List.eq_of_mem_replicate (List.mem_of_mem_drop hy)]; rfl
    refine ⟨⟨by rw [hcl]; exact Nat.le_refl _, by decide, hcc⟩, Lib.nDigits u, rfl, ⟨by omega, by omega⟩, ?_⟩
    refine ⟨(by rw [htk, hxl, hdm]; show _ * (1 + 1) ≤ 140737488355328; omega), ifNil_ne (by rw [htk]; exact hne) ?_⟩
    refine own_of (q := some c0) (H0 := H0) rfl rfl (fun _ h => h) fun c hc => ?_
    obtain ⟨r, H', e1, e2, e3⟩ := fin c hc
    exact ⟨r, H', Le.trans (le_of_eq (by rw [htk]; rfl)) e1, e2, e3⟩
set_option maxRecDepth 100000 in
set_option maxHeartbeats 1000000 in
theorem appI_con (n : Nat) (hn1 : n < 9223372036854775807) (xs : List UInt8) (hx : xs.length ≤ 1000000000) (c0 : Cap) {H0 : Heap} {Q : AV → Heap → Prop} (hq : ∀ c : Cap, c.b ∉ H0.keys → Q (.sl (.own c) 1 ((xs ++ decY n).map byteV)) ((c.b, .cap c) :: H0)) :
    Con Tryd.prog 62 [.sl (.own c0) 1 (xs.map byteV), .i n, .i 10] ((c0.b, .cap c0) :: H0) Q := by
  have hwr : IntKind.u64.wrap (n : Int) = (n : Int) := by rw [IntKind.wrap_u64]; omega
  refine con_of_awp (esc := fun _ => false) tab_ok mixed Tryd.func62 rfl (ent Tryd.func62 (by kernel_rfl) rfl) (by kernel_rfl) ?_
  intro hw hn
  clear hw hn
  refine ⟨[.sl (.own c0) 1 (xs.map byteV), .v (.int .u64 n), .i 10], ⟨Le.refl _, le_of_eq (by rw [hwr]), Le.refl _, trivial⟩, AppendUint_con n hn1 xs hx c0 fun c hc => ?_⟩
  intro hz1 hz2; clear hz1 hz2
  exact ⟨_, _, Le.refl _, List.Sublist.refl _, hq c hc⟩
set_option maxRecDepth 100000 in
set_option maxHeartbeats 1000000 in
theorem AppendInt_con (n : Nat) (hn1 : n < 9223372036854775807) (xs : List UInt8) (hx : xs.length ≤ 1000000000) (c0 : Cap) {H0 : Heap} {Q : AV → Heap → Prop} (hq : ∀ c : Cap, c.b ∉ H0.keys → Q (.sl (.own c) 1 ((xs ++ decY n).map byteV)) ((c.b, .cap c) :: H0)) :
    Con Tryd.prog 54 [.sl (.own c0) 1 (xs.map byteV), .i n, .i 10] ((c0.b, .cap c0) :: H0) Q := by
  have hwr : IntKind.u64.wrap (n : Int) = (n : Int) := by rw [IntKind.wrap_u64]; omega
  refine con_of_awp (esc := fun _ => false) tab_ok mixed Tryd.func54 rfl (ent Tryd.func54 (by kernel_rfl) rfl) (by kernel_rfl) ?_
  intro hw hn
  clear hw hn
  refine ⟨_, LeL.refl _, appI_con n hn1 xs hx c0 fun c hc => ?_⟩
  intro hz1 hz2; clear hz1 hz2
  exact ⟨_, _, Le.refl _, List.Sublist.refl _, hq c hc⟩
/-! arena's words -/
mutual
def lvW : Lv → List UInt8
  | .mk k n xs => decY k.toNat ++ 58 :: (decY n.toNat ++ 40 :: (lvWL xs ++ [41]))
def lvWL : List Lv → List UInt8
  | [] => []
  | l :: ls => lvW l ++ lvWL ls
end
theorem lvW_eq (l : Lv) : lvW l = decY l.kind.toNat ++ 58 :: (decY l.n.toNat ++ 40 :: (lvWL l.args ++ [41])) := by cases l; rfl
mutual
theorem lvW_len {n : Int} (hn : n ≤ 4) : ∀ l : Lv, lvFit n l = true → (lvW l).length ≤ 43 * l.nodes
  | .mk k m xs, h => by
    have h1 := lvFit_in hn h
    have h2 := lvWL_len hn xs (fun a ha => lvFit_arg h ha)
    have e1 := decY_len k.toNat (by simp only [Lv.kind] at h1; omega)
    have e2 := decY_len m.toNat (by simp only [Lv.n] at h1; omega)
    simp only [lvW, Lv.nodes, List.length_append, List.length_cons, List.length_nil]
    omega
theorem lvWL_len {n : Int} (hn : n ≤ 4) : ∀ ls : List Lv, (∀ l ∈ ls, lvFit n l = true) → (lvWL ls).length ≤ 43 * Lv.nodesL ls
  | [], _ => by simp [lvWL]
  | l :: ls, h => by
    have h1 := lvW_len hn l (h l (by simp))
    have h2 := lvWL_len hn ls fun a ha => h a (List.mem_cons_of_mem _ ha)
    simp only [lvWL, Lv.nodesL, List.length_append]
    omega
end
theorem lvWL_app (us bs : List Lv) : lvWL (us ++ bs) = lvWL us ++ lvWL bs := by
  induction us with
  | nil => rfl
  | cons a us ih => simp [lvWL, ih]
theorem lvWL_snoc {ls : List Lv} {k : Nat} (h : k < ls.length) : lvWL (ls.take (k + 1)) = lvWL (ls.take k) ++ lvW ls[k] := by
  rw [List.take_succ_eq_append_getElem h, lvWL_app]
  simp [lvWL]
theorem lvWL_pre (ls : List Lv) (k : Nat) : (lvWL (ls.take k)).length ≤ (lvWL ls).length := by
  conv => rhs; rw [← List.take_append_drop k ls, lvWL_app, List.length_append]
  omega
set_option maxRecDepth 100000 in
set_option maxHeartbeats 1000000 in
theorem level_con (n : Int) (hn4 : n ≤ 4) : ∀ (N : Nat) (l : Lv) (c0 : Cap) (xs : List UInt8) (H0 : Heap) (Q : AV → Heap → Prop), l.nodes ≤ N → lvFit n l = true → xs.length + 43 * l.nodes ≤ 1000000000 →
    (∀ c : Cap, c.b ∉ H0.keys → Q (.sl (.own c) 1 ((xs ++ lvW l).map byteV)) ((c.b, .cap c) :: H0)) → Con Tryd.prog 43 [.sl (.own c0) 1 (xs.map byteV), lvX l] ((c0.b, .cap c0) :: H0) Q := by
  intro N
  induction N with
  | zero => intro l _ _ _ _ h; have := l.nodes_pos; omega
  | succ N ih =>
    intro l c0 xs H0 Q hN hfit hlen hq
    have hin := lvFit_in hn4 hfit
    have hnd := l.nodes_eq
    obtain ⟨K, hK⟩ : ∃ K : Nat, l.kind = (K : Int) := ⟨l.kind.toNat, by omega⟩
    obtain ⟨M, hM⟩ : ∃ M : Nat, l.n = (M : Int) := ⟨l.n.toNat, by omega⟩
    have eK := decY_len K (by omega)
    have eM := decY_len M (by omega)
    have hwl := lvW_len hn4 l hfit
    have hww : lvW l = decY K ++ 58 :: (decY M ++ 40 :: (lvWL l.args ++ [41])) := by rw [lvW_eq, hK, hM]; rfl
    have hwl2 := hwl
    rw [hww] at hwl2
    simp only [List.length_append, List.length_cons, List.length_nil] at hwl2
    refine con_of_awp (esc := fun _ => false) tab_ok mixed Tryd.func43 rfl (ent Tryd.func43 (by kernel_rfl) rfl) (by kernel_rfl) ?_
    intro hw hn
    have hla := (hw (lvX l) (by simp)).args
    clear hw hn
    refine ⟨[.sl (.own c0) 1 (xs.map byteV), .i K, .i 10], ⟨Le.refl _, le_of_eq (by rw [hK]; rfl), Le.refl _, trivial⟩, AppendInt_con K (by omega) xs (by omega) c0 fun c1 hc1 => ?_⟩
    intro hz1 hz2; clear hz1 hz2
    refine ⟨(by simp only [List.length_map, List.length_cons, List.length_nil, List.length_append]; show _ * (1 + 1) ≤ 140737488355328; omega), ?_⟩
    refine own_of (q := some c1) (H0 := H0) rfl rfl (fun _ h => h) fun c2 hc2 => ?_
    refine ⟨[.sl (.own c2) 1 ((xs ++ decY K ++ [(58 : UInt8)]).map byteV), .i M, .i 10], ⟨le_of_eq ?_, le_of_eq (by rw [hM]; rfl), Le.refl _, trivial⟩, AppendInt_con M (by omega) (xs ++ decY K ++ [(58 : UInt8)]) (by simp only [List.length_append, List.length_cons, List.length_nil]; omega) c2 fun c3 hc3 => ?_⟩
    · show AV.sl _ _ _ = AV.sl _ _ _
      simp [byteV]
      rfl
    intro hz1 hz2; clear hz1 hz2
    refine ⟨(by simp only [List.length_map, List.length_cons, List.length_nil, List.length_append]; show _ * (1 + 1) ≤ 140737488355328; omega), ?_⟩
    refine own_of (q := some c3) (H0 := H0) rfl rfl (fun _ h => h) fun c4 hc4 => ?_
    obtain ⟨ys, hys⟩ : ∃ ys, ys = xs ++ decY K ++ [(58 : UInt8)] ++ decY M ++ [(40 : UInt8)] := ⟨_, rfl⟩
    have hyl : ys.length = xs.length + (decY K).length + 1 + (decY M).length + 1 := by rw [hys]; simp only [List.length_append, List.length_cons, List.length_nil]
    refine ⟨Cap × Nat, fun p => ⟨[(0, .g (.sl (.own p.1) 1 ((ys ++ lvWL (l.args.take p.2)).map byteV))), (4, .g (.sl .full 0 [])), (20, .g (.sl .no 3 (l.args.map lvA))), (21, .g (.i l.args.length)), (22, .g (.i p.2))], [], (p.1.b, .cap p.1) :: H0⟩,
      fun p => p.1.b ∉ H0.keys ∧ p.2 ≤ l.args.length, fun p => l.args.length - p.2, ⟨(c4, 0), ⟨hc4, Nat.zero_le _⟩, ?_⟩, ?_⟩
    · refine ⟨⟨le_of_eq ?_, Le.refl _, Le.refl _, le_of_eq (by show AV.i _ = AV.i _; rw [List.length_map]), Le.refl _, trivial⟩, trivial, List.Sublist.refl _⟩
      show AV.sl _ _ _ = AV.sl _ _ _
      rw [hys]
      simp [lvWL, byteV]
      rfl
    · rintro ⟨c, k⟩ ⟨hc, hk⟩
      simp only at hc hk
      have hpk := lvWL_pre l.args k
      refine ifB_dec (fun h1 => ?_) (fun h1 => ?_)
      · have hlt : k < l.args.length := by omega
        have hmem := Lv.nodesL_mem (List.getElem_mem hlt)
        have hs := lvWL_snoc hlt
        have hp := lvWL_pre l.args (k + 1)
        have hb1 := lvW_len hn4 _ (lvFit_arg hfit (List.getElem_mem hlt))
        have hnn : 43 * l.args[k].nodes + (lvWL (l.args.take k)).length ≤ 43 * Lv.nodesL l.args := by
          have h2 := lvWL_len hn4 (l.args.take k) fun a ha => lvFit_arg hfit (List.mem_of_mem_take ha)
          have h3 := nodesL_le l.args (k + 1)
          have h4 := nodesL_snoc hlt
          omega
        refine ⟨k, rfl, _, lvAt hlt, ?_⟩
        refine ⟨_, LeL.refl _, ih l.args[k] c (ys ++ lvWL (l.args.take k)) H0 _ (by omega) (lvFit_arg hfit (List.getElem_mem hlt)) (by rw [List.length_append]; omega) fun c' hc' => ?_⟩
        intro hz1 hz2; clear hz1 hz2
        refine ⟨in64_of (by first | omega | (dsimp only; omega)) (by first | omega | (dsimp only; omega)), ?_⟩
        refine ⟨(c', k + 1), ⟨hc', by simp only; omega⟩, by (try dsimp only); omega, ⟨⟨le_of_eq ?_, Le.refl _, Le.refl _, Le.refl _, Le.refl _, trivial⟩, trivial, List.Sublist.refl _⟩⟩
        show AV.sl _ _ _ = AV.sl _ _ _
        rw [hs, List.append_assoc]
      · have hk' : k = l.args.length := by omega
        subst hk'
        refine ⟨(by simp only [List.length_map, List.length_cons, List.length_nil, List.length_append]; show _ * (1 + 1) ≤ 140737488355328; omega), ?_⟩
        refine own_of (q := some c) (H0 := H0) rfl rfl (fun _ h => h) fun c5 hc5 => ?_
        refine ⟨_, _, le_of_eq ?_, List.Sublist.refl _, hq c5 hc5⟩
        show AV.sl _ _ _ = AV.sl _ _ _
        rw [List.take_length, hww, hys]
        simp [byteV]
        rfl
/-- a node's words -/
def tmW (t : Tm) : List UInt8 := t.name ++ 32 :: lvWL t.levels
set_option maxRecDepth 100000 in
set_option maxHeartbeats 1000000 in
theorem words_con (n : Int) (hn4 : n ≤ 4) (t : Tm) (h1 : t.name.length ≤ 1000) (h2 : ∀ l ∈ t.levels, lvFit n l = true) (h3 : Lv.nodesL t.levels ≤ 1000000) : Ans Tryd.prog 32 [tmX t] (.str (tmW t)) := by
  intro H0 Q hq
  have hwl := lvWL_len hn4 t.levels h2
  refine con_of_awp (esc := fun _ => false) tab_ok mixed Tryd.func32 rfl (ent Tryd.func32 (by kernel_rfl) rfl) (by kernel_rfl) ?_
  intro hw hn
  have hla := (hw (tmX t) (by simp)).tlevels
  clear hw hn
  intro c1 hc1
  refine ⟨(by simp only [List.length_map, List.length_cons, List.length_nil, List.length_append]; show _ * (1 + 1) ≤ 140737488355328; omega), ?_⟩
  refine own_of (q := some c1) (H0 := H0) rfl rfl (fun _ h => h) fun c2 hc2 => ?_
  refine ⟨Cap × Nat, fun p => ⟨[(2, .g (.str [])), (3, .g (.sl (.own p.1) 1 ((t.name ++ [(32 : UInt8)] ++ lvWL (t.levels.take p.2)).map byteV))), (12, .g (.sl .no 3 (t.levels.map lvA))), (13, .g (.i t.levels.length)), (14, .g (.i p.2))], [], (p.1.b, .cap p.1) :: H0⟩,
    fun p => p.1.b ∉ H0.keys ∧ p.2 ≤ t.levels.length, fun p => t.levels.length - p.2, ⟨(c2, 0), ⟨hc2, Nat.zero_le _⟩, ?_⟩, ?_⟩
  · refine ⟨⟨Le.refl _, le_of_eq ?_, Le.refl _, le_of_eq (by show AV.i _ = AV.i _; rw [List.length_map]), Le.refl _, trivial⟩, trivial, List.Sublist.refl _⟩
    show AV.sl _ _ _ = AV.sl _ _ _
    simp [lvWL, byteV]
    rfl
  · rintro ⟨c, k⟩ ⟨hc, hk⟩
    simp only at hc hk
    have hpk := lvWL_pre t.levels k
    refine ifB_dec (fun h1 => ?_) (fun h1 => ?_)
    · have hlt : k < t.levels.length := by omega
      have hmem := Lv.nodesL_mem (List.getElem_mem hlt)
      have hs := lvWL_snoc hlt
      refine ⟨k, rfl, _, lvAt hlt, ?_⟩
      refine ⟨_, LeL.refl _, level_con n hn4 _ t.levels[k] c (t.name ++ [(32 : UInt8)] ++ lvWL (t.levels.take k)) H0 _ (Nat.le_refl _) (h2 _ (List.getElem_mem hlt)) (by simp only [List.length_append, List.length_cons, List.length_nil]; omega) fun c' hc' => ?_⟩
      intro hz1 hz2; clear hz1 hz2
      refine ⟨in64_of (by first | omega | (dsimp only; omega)) (by first | omega | (dsimp only; omega)), ?_⟩
      refine ⟨(c', k + 1), ⟨hc', by simp only; omega⟩, by (try dsimp only); omega, ⟨⟨Le.refl _, le_of_eq ?_, Le.refl _, Le.refl _, Le.refl _, trivial⟩, trivial, List.Sublist.refl _⟩⟩
      show AV.sl _ _ _ = AV.sl _ _ _
      rw [hs, List.append_assoc]
    · have hk' : k = t.levels.length := by omega
      subst hk'
      refine ⟨t.name ++ [(32 : UInt8)] ++ lvWL (t.levels.take t.levels.length), ⟨rfl, by simp only [List.length_append, List.length_cons, List.length_nil]; omega⟩, ?_⟩
      refine ⟨_, H0, le_of_eq ?_, List.sublist_cons_self _ _, hq⟩
      show AV.str _ = AV.str _
      rw [List.take_length, tmW]
      simp
end Go.Proofs.YtaldgcnhmnfocaaDoor

/-
  Arena's keys. No condition.
-/
namespace Go.Proofs.YtaldgcnhmnfocaaDoor
open Go.RowKit

/-- what tells a node apart -/
structure Ky where
  k : Int
  n : Int
  w : List UInt8
  a : Nat
  b : Nat
  c : Nat
theorem Ky.ext_iff' (x y : Ky) : (x.k = y.k ∧ x.n = y.n ∧ x.w = y.w ∧ x.a = y.a ∧ x.b = y.b ∧ x.c = y.c) ↔ x = y := by
  obtain ⟨a1, a2, a3, a4, a5, a6⟩ := x
  obtain ⟨b1, b2, b3, b4, b5, b6⟩ := y
  simp only [Ky.mk.injEq]
instance : DecidableEq Ky := fun x y => decidable_of_iff _ (Ky.ext_iff' x y)
def kyC (k : Ky) : List AV := [.i k.k, .i k.n, .str k.w, .i (k.a : Nat), .i (k.b : Nat), .i (k.c : Nat)]
def kyA (k : Ky) : AV := .agg (kyC k)
theorem ky_eq (x y : Ky) : keyEq (kyA x) (kyA y) = decide (x = y) := by
  show (decide (x.k = y.k) && (decide (x.n = y.n) && (decide (x.w = y.w) && (decide ((x.a : Int) = y.a) && (decide ((x.b : Int) = y.b) && (decide ((x.c : Int) = y.c) && true)))))) = _
  rw [Bool.eq_iff_iff]
  simp only [Bool.and_eq_true, decide_eq_true_eq, Bool.and_true]
  obtain ⟨a1, a2, a3, a4, a5, a6⟩ := x
  obtain ⟨b1, b2, b3, b4, b5, b6⟩ := y
  simp only [Ky.mk.injEq]
  constructor
  · rintro ⟨h1, h2, h3, h4, h5, h6⟩; exact ⟨h1, h2, h3, by omega, by omega, by omega⟩
  · rintro ⟨h1, h2, h3, h4, h5, h6⟩; exact ⟨h1, h2, h3, by omega, by omega, by omega⟩
theorem ky_val (k : Ky) : keyVal (kyA k) = .agg #[.int .i64 k.k, .int .i64 k.n, .string ⟨k.w.toArray⟩, .int .i64 (k.a : Nat), .int .i64 (k.b : Nat), .int .i64 (k.c : Nat)] := rfl
theorem four {α : Type} {l : List α} (h : l.length = 4) : ∃ a b c d, l = [a, b, c, d] := by
  cases l with
  | nil => cases h
  | cons a l => cases l with
    | nil => cases h
    | cons b l => cases l with
      | nil => cases h
      | cons c l => cases l with
        | nil => cases h
        | cons d l => cases l with
          | nil => exact ⟨a, b, c, d, rfl⟩
          | cons e l => simp at h
theorem beq_dec (a b : List UInt8) : (a.toArray.toList == b.toArray.toList) = decide (a = b) := by
  rw [Bool.eq_iff_iff, decide_eq_true_eq]
  simp
theorem bytes_dec (a b : List UInt8) : ((⟨a.toArray⟩ : ByteArray) == ⟨b.toArray⟩) = decide (a = b) := by
  rw [Bool.eq_iff_iff, MapKept.bytes_beq, decide_eq_true_eq]
  constructor
  · intro h
    have : (ByteArray.mk a.toArray).data = (ByteArray.mk b.toArray).data := congrArg ByteArray.data h
    simpa using this
  · rintro rfl; rfl
section
variable {P : Program}
theorem ints_equalIn {t e : TypeId} {n : Nat} (ht : P.underlying t = some (.array n e)) (he : P.underlying e = some (.int .i64)) (hs : P.cellsOf e = 1) {i : TypeInfo} (hi : P.info? e = some i) (d : Nat) (l r : List Int) (h1 : l.length = n) (h2 : r.length = n) (w : World) :
    (Op.equalIn (d + 1 + 1) t (.agg (l.map fun x => Value.int .i64 x).toArray) (.agg (r.map fun x => Value.int .i64 x).toArray)).run P w = .ok (decide (l = r)) w := by
  rw [run_equalIn_array w (d + 1) _ _ ht hi, List.range_eq_range', run_eqItems_int he hs d l r w n 0 (by omega) (by omega)]
  rfl
end
set_option maxRecDepth 100000 in
theorem info_int : ∃ i, Tryd.prog.info? 3 = some i ∧ i.size = 1 := ⟨_, rfl, by kernel_rfl⟩
set_option maxRecDepth 100000 in
theorem key_fields : (Tryd.prog.fieldsOf 54).toList.map (fun f => (f.name, f.type, f.offset)) = [("kind", 3, 0), ("n", 3, 1), ("words", 9, 2), ("args", 52, 3)] := by
  unfold Program.fieldsOf
  rw [Tryd.underlying54]
  rfl
set_option maxRecDepth 100000 in
theorem ky_run (x y : Ky) (w : World) : (Op.equal 54 (keyVal (kyA x)) (keyVal (kyA y))).run Tryd.prog w = .ok (keyEq (kyA x) (kyA y)) w := by
  rw [ky_eq, ky_val, ky_val]
  obtain ⟨i, hi, _⟩ := info_int
  have hst : Tryd.prog.stoodInHeld 54 = false := by kernel_rfl
  have hu : Tryd.prog.underlying 54 = some (.struct (Tryd.prog.fieldsOf 54)) := by
    unfold Program.fieldsOf
    rw [Tryd.underlying54]
  have hcell : Tryd.prog.cellsOf 3 = 1 := by kernel_rfl
  have pint : Tryd.prog.plainKey 3 = true := by simp [Program.plainKey, Tryd.underlying3]
  have pstr : Tryd.prog.plainKey 9 = true := by simp [Program.plainKey, Tryd.underlying9]
  have parr : ∀ (xs : Array Value) (a b c : Value), xs.extract 3 6 = #[a, b, c] → (part 52 xs 3).run Tryd.prog w = .ok (.agg #[a, b, c]) w := by
    intro xs a b c h
    have hs : (sizeOf 52).run Tryd.prog w = .ok 3 w := by
      obtain ⟨j, hj, hj3⟩ : ∃ j, Tryd.prog.info? 52 = some j ∧ j.size = 3 := ⟨_, rfl, by kernel_rfl⟩
      simp [sizeOf, typeInfo, hj, hj3]
    simp only [part, isAgg, Sem.run_bind, run_underlying Tryd.underlying52, Result.andThen_ok, Sem.run_pure, if_true, hs]
    rw [h]
  show (Op.equalIn (9999 + 1) 54 _ _).run Tryd.prog w = _
  rw [run_equalIn_struct w 9999 54 _ _ hu hst]
  have hf := key_fields
  generalize (Tryd.prog.fieldsOf 54).toList = fs at hf
  obtain ⟨f0, f1, f2, f3, rfl⟩ := four (l := fs) (by have := congrArg List.length hf; simpa using this)
  · simp only [List.map_cons, List.map_nil, List.cons.injEq, Prod.mk.injEq, and_true] at hf
    obtain ⟨⟨n0, t0, o0⟩, ⟨n1, t1, o1⟩, ⟨n2, t2, o2⟩, ⟨n3, t3, o3⟩⟩ := hf
    have x0 := run_part_plain (P := Tryd.prog) (w := w) pint (xs := #[.int .i64 x.k, .int .i64 x.n, .string ⟨x.w.toArray⟩, .int .i64 (x.a : Nat), .int .i64 (x.b : Nat), .int .i64 (x.c : Nat)]) (off := 0) (v := .int .i64 x.k) rfl
    have x1 := run_part_plain (P := Tryd.prog) (w := w) pint (xs := #[.int .i64 x.k, .int .i64 x.n, .string ⟨x.w.toArray⟩, .int .i64 (x.a : Nat), .int .i64 (x.b : Nat), .int .i64 (x.c : Nat)]) (off := 1) (v := .int .i64 x.n) rfl
    have x2 := run_part_plain (P := Tryd.prog) (w := w) pstr (xs := #[.int .i64 x.k, .int .i64 x.n, .string ⟨x.w.toArray⟩, .int .i64 (x.a : Nat), .int .i64 (x.b : Nat), .int .i64 (x.c : Nat)]) (off := 2) (v := .string ⟨x.w.toArray⟩) rfl
    have x3 := parr #[.int .i64 x.k, .int .i64 x.n, .string ⟨x.w.toArray⟩, .int .i64 (x.a : Nat), .int .i64 (x.b : Nat), .int .i64 (x.c : Nat)] (.int .i64 (x.a : Nat)) (.int .i64 (x.b : Nat)) (.int .i64 (x.c : Nat)) rfl
    have y0 := run_part_plain (P := Tryd.prog) (w := w) pint (xs := #[.int .i64 y.k, .int .i64 y.n, .string ⟨y.w.toArray⟩, .int .i64 (y.a : Nat), .int .i64 (y.b : Nat), .int .i64 (y.c : Nat)]) (off := 0) (v := .int .i64 y.k) rfl
    have y1 := run_part_plain (P := Tryd.prog) (w := w) pint (xs := #[.int .i64 y.k, .int .i64 y.n, .string ⟨y.w.toArray⟩, .int .i64 (y.a : Nat), .int .i64 (y.b : Nat), .int .i64 (y.c : Nat)]) (off := 1) (v := .int .i64 y.n) rfl
    have y2 := run_part_plain (P := Tryd.prog) (w := w) pstr (xs := #[.int .i64 y.k, .int .i64 y.n, .string ⟨y.w.toArray⟩, .int .i64 (y.a : Nat), .int .i64 (y.b : Nat), .int .i64 (y.c : Nat)]) (off := 2) (v := .string ⟨y.w.toArray⟩) rfl
    have y3 := parr #[.int .i64 y.k, .int .i64 y.n, .string ⟨y.w.toArray⟩, .int .i64 (y.a : Nat), .int .i64 (y.b : Nat), .int .i64 (y.c : Nat)] (.int .i64 (y.a : Nat)) (.int .i64 (y.b : Nat)) (.int .i64 (y.c : Nat)) rfl
    have ei := fun (a b : Int) => run_equalIn_int (P := Tryd.prog) w 9998 3 .i64 .i64 a b Tryd.underlying3
    have es : ∀ a b : List UInt8, (Op.equalIn (9998 + 1) 9 (.string ⟨a.toArray⟩) (.string ⟨b.toArray⟩)).run Tryd.prog w = .ok (decide (a = b)) w := fun a b => by
      rw [run_equalIn_string (P := Tryd.prog) w 9998 9 ⟨a.toArray⟩ ⟨b.toArray⟩ Tryd.underlying9, ByteArray.toList_eq, ByteArray.toList_eq, beq_dec]
    have ea := ints_equalIn Tryd.underlying52 Tryd.underlying3 hcell hi 9997 [(x.a : Int), x.b, x.c] [(y.a : Int), y.b, y.c] rfl rfl w
    have ea' : (Op.equalIn 9999 52 (.agg #[.int .i64 (x.a : Nat), .int .i64 (x.b : Nat), .int .i64 (x.c : Nat)]) (.agg #[.int .i64 (y.a : Nat), .int .i64 (y.b : Nat), .int .i64 (y.c : Nat)])).run Tryd.prog w = .ok (decide ([(x.a : Int), x.b, x.c] = [(y.a : Int), y.b, y.c])) w := ea
    have d0 : (("kind" : String) ≠ "_") = True := by simp
    have d1 : (("n" : String) ≠ "_") = True := by simp
    have d2 : (("words" : String) ≠ "_") = True := by simp
    have d3 : (("args" : String) ≠ "_") = True := by simp
    simp only [Op.eqFields, d0, d1, d2, d3, if_true, Sem.run_ite, Sem.run_pure, n0, n1, n2, n3, t0, t1, t2, t3, o0, o1, o2, o3, Sem.run_bind, x0, y0, x1, y1, x2, y2, x3, y3, Result.andThen_ok, ei, es, ea']
    have hk : decide (x = y) = ((x.k == y.k) && ((x.n == y.n) && (decide (x.w = y.w) && decide ([(x.a : Int), x.b, x.c] = [(y.a : Int), y.b, y.c])))) := by
      rw [Bool.eq_iff_iff, decide_eq_true_eq, ← Ky.ext_iff']
      simp only [Bool.and_eq_true, beq_iff_eq, decide_eq_true_eq, List.cons.injEq, and_true]
      constructor
      · rintro ⟨h1, h2, h3, h4, h5, h6⟩; exact ⟨h1, h2, h3, by omega, by omega, by omega⟩
      · rintro ⟨h1, h2, h3, h4, h5, h6⟩; exact ⟨h1, h2, h3, by omega, by omega, by omega⟩
    rw [hk]
    cases (x.k == y.k) <;> cases (x.n == y.n) <;> cases decide (x.w = y.w) <;> cases decide ([(x.a : Int), x.b, x.c] = [(y.a : Int), y.b, y.c]) <;> simp
def isKy (x : AV) : Prop := ∃ k : Ky, x = kyA k
set_option maxRecDepth 100000 in
theorem kyLaw : KeyLaw Tryd.prog 54 isKy := by
  refine ⟨⟨_, Tryd.underlying54⟩, ?_, ?_, ?_, ?_, ?_⟩
  · rintro _ _ ⟨x, rfl⟩ ⟨y, rfl⟩ w
    exact ky_run x y w
  · rintro _ ⟨x, rfl⟩ e w
    rw [ky_val]
    have li : ∀ (n : Nat) (z : Int), (Instr.checkKey e (n + 1) 3 (.int .i64 z)).run Tryd.prog w = .ok () w := fun n z => MapKept.run_checkKey Tryd.underlying3 (k := .int .i64 z) rfl e n
    have ls : ∀ (n : Nat) (s : ByteArray), (Instr.checkKey e (n + 1) 9 (.string s)).run Tryd.prog w = .ok () w := fun n s => MapKept.run_checkKey Tryd.underlying9 (k := .string s) trivial e n
    obtain ⟨i, hi, hi1⟩ := info_int
    have pint : Tryd.prog.plainKey 3 = true := by simp [Program.plainKey, Tryd.underlying3]
    have pstr : Tryd.prog.plainKey 9 = true := by simp [Program.plainKey, Tryd.underlying9]
    have sint : (sizeOf 3).run Tryd.prog w = .ok 1 w := by simp [sizeOf, typeInfo, hi, hi1]
    have pk : ∀ (xs : Array Value) (o : Nat) (v : Value), xs[o]? = some v → (part 3 xs o).run Tryd.prog w = .ok v w := fun xs o v h => run_part_plain (P := Tryd.prog) (w := w) pint h
    have ps : ∀ (xs : Array Value) (o : Nat) (v : Value), xs[o]? = some v → (part 9 xs o).run Tryd.prog w = .ok v w := fun xs o v h => run_part_plain (P := Tryd.prog) (w := w) pstr h
    have la : ∀ (n : Nat) (a b c : Int), (Instr.checkKey e (n + 1 + 1) 52 (.agg #[.int .i64 a, .int .i64 b, .int .i64 c])).run Tryd.prog w = .ok () w := by
      intro n a b c
      rw [Instr.checkKey]
      simp only [Sem.run_bind, run_underlying Tryd.underlying52, Result.andThen_ok]
      simp [List.range', sint, pk #[.int .i64 a, .int .i64 b, .int .i64 c] 0 (.int .i64 a) rfl, pk #[.int .i64 a, .int .i64 b, .int .i64 c] 1 (.int .i64 b) rfl, pk #[.int .i64 a, .int .i64 b, .int .i64 c] 2 (.int .i64 c) rfl, li]
    have parr : ∀ (xs : Array Value) (a b c : Value), xs.extract 3 6 = #[a, b, c] → (part 52 xs 3).run Tryd.prog w = .ok (.agg #[a, b, c]) w := by
      intro xs a b c h
      have hs : (sizeOf 52).run Tryd.prog w = .ok 3 w := by
        obtain ⟨j, hj, hj3⟩ : ∃ j, Tryd.prog.info? 52 = some j ∧ j.size = 3 := ⟨_, rfl, by kernel_rfl⟩
        simp [sizeOf, typeInfo, hj, hj3]
      simp only [part, isAgg, Sem.run_bind, run_underlying Tryd.underlying52, Result.andThen_ok, Sem.run_pure, if_true, hs]
      rw [h]
    have x0 := pk #[.int .i64 x.k, .int .i64 x.n, .string ⟨x.w.toArray⟩, .int .i64 (x.a : Nat), .int .i64 (x.b : Nat), .int .i64 (x.c : Nat)] 0 (.int .i64 x.k) rfl
    have x1 := pk #[.int .i64 x.k, .int .i64 x.n, .string ⟨x.w.toArray⟩, .int .i64 (x.a : Nat), .int .i64 (x.b : Nat), .int .i64 (x.c : Nat)] 1 (.int .i64 x.n) rfl
    have x2 := ps #[.int .i64 x.k, .int .i64 x.n, .string ⟨x.w.toArray⟩, .int .i64 (x.a : Nat), .int .i64 (x.b : Nat), .int .i64 (x.c : Nat)] 2 (.string ⟨x.w.toArray⟩) rfl
    have x3 := parr #[.int .i64 x.k, .int .i64 x.n, .string ⟨x.w.toArray⟩, .int .i64 (x.a : Nat), .int .i64 (x.b : Nat), .int .i64 (x.c : Nat)] (.int .i64 (x.a : Nat)) (.int .i64 (x.b : Nat)) (.int .i64 (x.c : Nat)) rfl
    show (Instr.checkKey e (9997 + 1 + 1 + 1) 54 _).run Tryd.prog w = _
    rw [Instr.checkKey]
    simp only [Sem.run_bind, run_underlying Tryd.underlying54, Result.andThen_ok]
    rw [← Array.forIn_toList]
    simp [x0, x1, x2, x3, li, ls, la]
  · rintro _ ⟨x, rfl⟩
    rw [ky_val]
    simp [Instr.sameBits, MapKept.bytes_beq]
  · rintro _ ⟨x, rfl⟩ M u hu
    rw [ky_val]
    unfold kyA kyC at hu
    simp only [rep, repC, AV.i] at hu
    obtain ⟨cs, rfl, c1, r1, rfl, ⟨_, h1, _⟩, c2, r2, rfl, ⟨_, h2, _⟩, c3, r3, rfl, ⟨_, h3, _⟩, c4, r4, rfl, ⟨_, h4, _⟩, c5, r5, rfl, ⟨_, h5, _⟩, c6, r6, rfl, ⟨_, h6, _⟩, rfl⟩ := hu
    rw [h1, h2, h3, h4, h5, h6]
  · rintro _ _ ⟨x, rfl⟩ ⟨y, rfl⟩ h
    rw [ky_eq, decide_eq_true_eq] at h
    rw [h]
end Go.Proofs.YtaldgcnhmnfocaaDoor
