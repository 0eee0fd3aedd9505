/-
  Texts put together: A1, A2, A3, A4, A5, A6, A7, A8, A9, A10, Gl. No condition.
-/
import Derived.Test.YtahdkhklngjmoaaGreatDoorM1
import Derived.ChangeKeysEq
import Derived.Laws.StructEq
/-
  The abstract machine: pure values, how they lie in memory, what a step may turn. No condition.
-/
namespace Go.Proofs.YtahdkhklngjmoaaGreatDoor
open Go.RowKit

/-- the right to append in place: block, first free cell, end of the room -/
structure Cap where
  b : Nat
  hi : Nat
  lim : Nat

inductive Own where
  | no
  | full
  | own (c : Cap)

/-- pure values (sl: whose room it is, how many cells an element has, the elements; a width of 0: there are none) -/
inductive AV where
  | v (x : Value)
  | str (l : List UInt8)
  | agg (xs : List AV)
  | tup (xs : List AV)
  | sl (o : Own) (s : Nat) (xs : List AV)
  | ip (xs : List AV)
  | ptr (b off : Nat)
  | fn (f : Fn) (cap : List AV)
  | mp (b : Nat)

def AV.cells : AV → List AV
  | .agg xs => xs
  | x => [x]

/-- memory that never turns: block, cell -/
abbrev Mem := Nat → Nat → Option Value
/-- a memory holds another one -/
def Mem.le (M M' : Mem) : Prop := ∀ b o v, M b o = some v → M' b o = some v

def ownOk (a : Option Addr) (n cap s : Nat) : Own → Prop
  | .no => True
  | .full => cap = n
  | .own c => ∃ off, a = some ⟨c.b, off, none⟩ ∧ c.hi = off + n * s ∧ c.lim = off + cap * s
/-- elements of a width -/
def wide (s : Nat) (xs : List AV) : Prop := (s = 0 → xs = []) ∧ ∀ y ∈ xs, y.cells.length = s

mutual
/-- a value stands for a pure value -/
def rep (M : Mem) : AV → Value → Prop
  | .v x, u => u = x ∧ x.oneCell' = true
  | .str l, u => u = .string ⟨l.toArray⟩ ∧ l.length ≤ 1125899906842624
  | .agg xs, u => ∃ cs : List Value, u = .agg cs.toArray ∧ repC M xs cs
  | .tup xs, u => ∃ cs : List Value, u = .tuple cs.toArray ∧ repT M xs cs
  | .sl o s xs, u => ∃ a cap, u = .slice a xs.length cap ∧ xs.length ≤ cap ∧ cap ≤ maxLen ∧ (a = none → cap = 0) ∧ wide s xs ∧ ownOk a xs.length cap s o ∧ (0 < xs.length → ∃ b off, a = some ⟨b, off, none⟩ ∧ atE M xs b off)
  | .ip xs, u => ∃ b off, u = .pointer (some ⟨b, off, none⟩) ∧ atL M xs b off
  | .ptr b off, u => u = .pointer (some ⟨b, off, none⟩)
  | .fn f xs, u => ∃ cs : List Value, u = .func f #[] cs.toArray ∧ repT M xs cs
  | .mp b, u => u = .map (some b)
/-- cells -/
def repC (M : Mem) : List AV → List Value → Prop
  | [], cs => cs = []
  | x :: xs, cs => ∃ c cs', cs = c :: cs' ∧ (c.oneCell' = true ∧ rep M x c) ∧ repC M xs cs'
/-- values one behind the other -/
def repT (M : Mem) : List AV → List Value → Prop
  | [], cs => cs = []
  | x :: xs, cs => ∃ c cs', cs = c :: cs' ∧ rep M x c ∧ repT M xs cs'
/-- cells in memory that never turns -/
def atL (M : Mem) : List AV → Nat → Nat → Prop
  | [], _, _ => True
  | x :: xs, b, o => (∃ c, M b o = some c ∧ c.oneCell' = true ∧ rep M x c) ∧ atL M xs b (o + 1)
/-- elements, each of one cell or more -/
def atE (M : Mem) : List AV → Nat → Nat → Prop
  | [], _, _ => True
  | .agg cs :: xs, b, o => atL M cs b o ∧ atE M xs b (o + cs.length)
  | x :: xs, b, o => (∃ c, M b o = some c ∧ c.oneCell' = true ∧ rep M x c) ∧ atE M xs b (o + 1)
end

/-! more memory -/
mutual
theorem rep.mono {M M' : Mem} (hM : M.le M') : ∀ (x : AV) (u : Value), rep M x u → rep M' x u
  | .v x, u, h => by simpa only [rep] using h
  | .str x, u, h => by simpa only [rep] using h
  | .agg xs, u, h => by simp only [rep] at h ⊢; obtain ⟨cs, h1, h2⟩ := h; exact ⟨cs, h1, repC.mono hM xs cs h2⟩
  | .tup xs, u, h => by simp only [rep] at h ⊢; obtain ⟨cs, h1, h2⟩ := h; exact ⟨cs, h1, repT.mono hM xs cs h2⟩
  | .sl o s xs, u, h => by
    simp only [rep] at h ⊢
    obtain ⟨a, cap, h1, h2, h3, h4, h5, h6, h7⟩ := h
    exact ⟨a, cap, h1, h2, h3, h4, h5, h6, fun h0 => let ⟨b, off, e, h⟩ := h7 h0; ⟨b, off, e, atE.mono hM xs b off h⟩⟩
  | .ip xs, u, h => by simp only [rep] at h ⊢; obtain ⟨b, off, h1, h2⟩ := h; exact ⟨b, off, h1, atL.mono hM xs b off h2⟩
  | .ptr b off, u, h => by simpa only [rep] using h
  | .fn f xs, u, h => by simp only [rep] at h ⊢; obtain ⟨cs, h1, h2⟩ := h; exact ⟨cs, h1, repT.mono hM xs cs h2⟩
  | .mp b, u, h => by simpa only [rep] using h
theorem repC.mono {M M' : Mem} (hM : M.le M') : ∀ (xs : List AV) (cs : List Value), repC M xs cs → repC M' xs cs
  | [], cs, h => by simpa only [repC] using h
  | x :: xs, cs, h => by simp only [repC] at h ⊢; obtain ⟨c, cs', e, ⟨h1, h2⟩, h3⟩ := h; exact ⟨c, cs', e, ⟨h1, rep.mono hM x c h2⟩, repC.mono hM xs cs' h3⟩
theorem repT.mono {M M' : Mem} (hM : M.le M') : ∀ (xs : List AV) (cs : List Value), repT M xs cs → repT M' xs cs
  | [], cs, h => by simpa only [repT] using h
  | x :: xs, cs, h => by simp only [repT] at h ⊢; obtain ⟨c, cs', e, h2, h3⟩ := h; exact ⟨c, cs', e, rep.mono hM x c h2, repT.mono hM xs cs' h3⟩
theorem atL.mono {M M' : Mem} (hM : M.le M') : ∀ (xs : List AV) (b o : Nat), atL M xs b o → atL M' xs b o
  | [], b, o, h => by simp only [atL]
  | x :: xs, b, o, h => by simp only [atL] at h ⊢; obtain ⟨⟨c, h1, h2, h3⟩, h4⟩ := h; exact ⟨⟨c, hM _ _ _ h1, h2, rep.mono hM x c h3⟩, atL.mono hM xs b _ h4⟩
theorem atE.mono {M M' : Mem} (hM : M.le M') : ∀ (xs : List AV) (b o : Nat), atE M xs b o → atE M' xs b o
  | [], b, o, h => by simp only [atE]
  | .agg cs :: xs, b, o, h => by simp only [atE] at h ⊢; exact ⟨atL.mono hM cs b o h.1, atE.mono hM xs b _ h.2⟩
  | .v x :: xs, b, o, h => by simp only [atE] at h ⊢; obtain ⟨⟨c, h1, h2, h3⟩, h4⟩ := h; exact ⟨⟨c, hM _ _ _ h1, h2, rep.mono hM _ c h3⟩, atE.mono hM xs b _ h4⟩
  | .str x :: xs, b, o, h => by simp only [atE] at h ⊢; obtain ⟨⟨c, h1, h2, h3⟩, h4⟩ := h; exact ⟨⟨c, hM _ _ _ h1, h2, rep.mono hM _ c h3⟩, atE.mono hM xs b _ h4⟩
  | .tup x :: xs, b, o, h => by simp only [atE] at h ⊢; obtain ⟨⟨c, h1, h2, h3⟩, h4⟩ := h; exact ⟨⟨c, hM _ _ _ h1, h2, rep.mono hM _ c h3⟩, atE.mono hM xs b _ h4⟩
  | .sl q s x :: xs, b, o, h => by simp only [atE] at h ⊢; obtain ⟨⟨c, h1, h2, h3⟩, h4⟩ := h; exact ⟨⟨c, hM _ _ _ h1, h2, rep.mono hM _ c h3⟩, atE.mono hM xs b _ h4⟩
  | .ip x :: xs, b, o, h => by simp only [atE] at h ⊢; obtain ⟨⟨c, h1, h2, h3⟩, h4⟩ := h; exact ⟨⟨c, hM _ _ _ h1, h2, rep.mono hM _ c h3⟩, atE.mono hM xs b _ h4⟩
  | .ptr x y :: xs, b, o, h => by simp only [atE] at h ⊢; obtain ⟨⟨c, h1, h2, h3⟩, h4⟩ := h; exact ⟨⟨c, hM _ _ _ h1, h2, rep.mono hM _ c h3⟩, atE.mono hM xs b _ h4⟩
  | .fn f x :: xs, b, o, h => by simp only [atE] at h ⊢; obtain ⟨⟨c, h1, h2, h3⟩, h4⟩ := h; exact ⟨⟨c, hM _ _ _ h1, h2, rep.mono hM _ c h3⟩, atE.mono hM xs b _ h4⟩
  | .mp x :: xs, b, o, h => by simp only [atE] at h ⊢; obtain ⟨⟨c, h1, h2, h3⟩, h4⟩ := h; exact ⟨⟨c, hM _ _ _ h1, h2, rep.mono hM _ c h3⟩, atE.mono hM xs b _ h4⟩
end

/-! the heap that turns: objects by their blocks -/
inductive AObj where
  | cells (xs : List AV)
  | cap (c : Cap)
  | raw (o : Obj) (M0 : Mem)
  | mp (es : List (Nat × AV × AV)) (clk : Nat)

/-- a map's entries: stamp, key, value -/
def repE (M : Mem) : List (Nat × AV × AV) → List MapEntry → Prop
  | [], ms => ms = []
  | (n, k, x) :: es, ms => ∃ vk vx ms', ms = ⟨vk, vx, n⟩ :: ms' ∧ rep M k vk ∧ rep M x vx ∧ repE M es ms'
theorem repE.mono {M M' : Mem} (hM : M.le M') : ∀ (es : List (Nat × AV × AV)) (ms : List MapEntry), repE M es ms → repE M' es ms
  | [], _, h => h
  | (_, k, x) :: es, _, ⟨vk, vx, ms', e, h1, h2, h3⟩ => ⟨vk, vx, ms', e, rep.mono hM k vk h1, rep.mono hM x vx h2, repE.mono hM es ms' h3⟩

abbrev Heap := List (Nat × AObj)
def Heap.keys (H : Heap) : List Nat := H.map (·.1)

def objOk (M : Mem) (w : World) (b : Nat) : AObj → Prop
  | .cells xs => (∀ o, M b o = none) ∧ ∃ (cs : List Value) (T : TypeId), w.heap[b]? = some (.cells cs.toArray T (0, 0)) ∧ repC M xs cs
  | .cap c => c.b = b ∧ (∀ o, c.hi ≤ o → M b o = none) ∧ ∃ (cs : Array Value) (T : TypeId) (fr : Nat × Nat), w.heap[b]? = some (.cells cs T fr) ∧ c.lim ≤ cs.size ∧ ∀ o, o < cs.size → (decide (fr.1 ≤ o) && decide (o < fr.2)) = false
  | .raw x M0 => (∀ o, M b o = none) ∧ M0.le M ∧ w.heap[b]? = some x
  | .mp es clk => (∀ o, M b o = none) ∧ ∃ ms : List MapEntry, w.heap[b]? = some (.map ms.toArray clk) ∧ repE M es ms

structure Inv (M : Mem) (H : Heap) (w : World) : Prop where
  mem : ∀ b o v, M b o = some v → w.cell? ⟨b, o, none⟩ = some v
  obj : ∀ b x, (b, x) ∈ H → objOk M w b x
  nodup : H.keys.Nodup

/-- of what there was just the blocks of K may have turned -/
structure Evo (K : List Nat) (M : Mem) (w : World) (M' : Mem) (w' : World) : Prop where
  os : w'.os = w.os
  tape : w'.tape = w.tape
  output : w'.output = w.output
  size : w.heap.size ≤ w'.heap.size
  block : ∀ k, k < w.heap.size → k ∉ K → w'.heap[k]? = w.heap[k]?
  sub : M.le M'
  new : ∀ b o v, M' b o = some v → M b o = some v ∨ b ∈ K ∨ w.heap.size ≤ b

theorem Mem.le.refl (M : Mem) : M.le M := fun _ _ _ h => h
theorem Mem.le.trans {A B C : Mem} (h : A.le B) (k : B.le C) : A.le C := fun b o v e => k b o v (h b o v e)

theorem Evo.refl (K : List Nat) (M : Mem) (w : World) : Evo K M w M w := ⟨rfl, rfl, rfl, Nat.le_refl _, fun _ _ _ => rfl, Mem.le.refl M, fun _ _ _ h => Or.inl h⟩
theorem Evo.trans {K K' : List Nat} {M M1 M2 : Mem} {w w1 w2 : World} (h : Evo K M w M1 w1) (k : Evo K' M1 w1 M2 w2) (hK : ∀ b ∈ K', b ∈ K ∨ w.heap.size ≤ b) : Evo K M w M2 w2 := by
  refine ⟨k.os.trans h.os, k.tape.trans h.tape, k.output.trans h.output, Nat.le_trans h.size k.size, fun i hi hn => ?_, h.sub.trans k.sub, fun b o v e => ?_⟩
  · rw [k.block i (Nat.lt_of_lt_of_le hi h.size) (fun hk => by
      rcases hK i hk with h1 | h1
      · exact hn h1
      · omega), h.block i hi hn]
  · rcases k.new b o v e with e | e | e
    · exact h.new b o v e
    · exact Or.inr (hK b e)
    · exact Or.inr (Or.inr (Nat.le_trans h.size e))
theorem Evo.drew {K : List Nat} {M M' : Mem} {w w' : World} (h : Evo K M w M' w') : Evo K M w M' w'.drew := ⟨h.os, h.tape, h.output, h.size, h.block, h.sub, h.new⟩

theorem objOk.lt {M : Mem} {w : World} {b : Nat} {x : AObj} (h : objOk M w b x) : b < w.heap.size := by
  cases x with
  | cells xs => obtain ⟨_, cs, T, h, _⟩ := h; exact (Array.getElem?_eq_some_iff.1 h).1
  | cap c => obtain ⟨_, _, cs, T, fr, h, _⟩ := h; exact (Array.getElem?_eq_some_iff.1 h).1
  | raw x M0 => obtain ⟨_, _, h⟩ := h; exact (Array.getElem?_eq_some_iff.1 h).1
  | mp es clk => obtain ⟨_, _, h, _⟩ := h; exact (Array.getElem?_eq_some_iff.1 h).1

/-- an object whose block has not turned -/
theorem objOk.keep {K : List Nat} {M M' : Mem} {w w' : World} {b : Nat} {x : AObj} (h : objOk M w b x) (e : Evo K M w M' w') (hb : b ∉ K) : objOk M' w' b x := by
  have hlt := h.lt
  have none' : ∀ o, M b o = none → M' b o = none := fun o h0 => by
    cases h1 : M' b o with
    | none => rfl
    | some v =>
      rcases e.new b o v h1 with h2 | h2 | h2
      · rw [h0] at h2; cases h2
      · exact absurd h2 hb
      · omega
  cases x with
  | cells xs => obtain ⟨h1, cs, T, h2, h3⟩ := h; exact ⟨fun o => none' o (h1 o), cs, T, (e.block b hlt hb).trans h2, repC.mono e.sub _ _ h3⟩
  | cap c => obtain ⟨h0, h1, cs, T, fr, h2, h3⟩ := h; exact ⟨h0, fun o ho => none' o (h1 o ho), cs, T, fr, (e.block b hlt hb).trans h2, h3⟩
  | raw x M0 => obtain ⟨h0, h1, h2⟩ := h; exact ⟨fun o => none' o (h0 o), fun b o v hv => e.sub b o v (h1 b o v hv), (e.block b hlt hb).trans h2⟩
  | mp es clk => obtain ⟨h1, ms, h2, h3⟩ := h; exact ⟨fun o => none' o (h1 o), ms, (e.block b hlt hb).trans h2, repE.mono e.sub _ _ h3⟩

theorem Heap.keys_append (A B : Heap) : Heap.keys (A ++ B) = A.keys ++ B.keys := by simp [Heap.keys]
theorem Heap.mem_keys {H : Heap} {b : Nat} {x : AObj} (h : (b, x) ∈ H) : b ∈ H.keys := List.mem_map.2 ⟨_, h, rfl⟩

theorem Inv.key_lt {M : Mem} {H : Heap} {w : World} (h : Inv M H w) {b : Nat} (hb : b ∈ H.keys) : b < w.heap.size := by
  obtain ⟨⟨b', x⟩, hx, rfl⟩ := List.mem_map.1 hb
  exact (h.obj _ _ hx).lt

/-- what a call does to its own objects leaves the others -/
theorem Inv.frame {A A' B : Heap} {M M' : Mem} {w w' : World} (h : Inv M (A ++ B) w) (h' : Inv M' A' w') (e : Evo A.keys M w M' w') (hk : ∀ b ∈ A'.keys, b ∈ A.keys ∨ w.heap.size ≤ b) : Inv M' (A' ++ B) w' := by
  have hn := h.nodup
  rw [Heap.keys_append, List.nodup_append] at hn
  refine ⟨h'.mem, fun b x hx => ?_, ?_⟩
  · rcases List.mem_append.1 hx with hx | hx
    · exact h'.obj b x hx
    · exact (h.obj b x (List.mem_append.2 (Or.inr hx))).keep e fun hb => hn.2.2 b hb b (Heap.mem_keys hx) rfl
  · rw [Heap.keys_append, List.nodup_append]
    refine ⟨h'.nodup, hn.2.1, fun a ha b hb hab => ?_⟩
    subst hab
    rcases hk a ha with h1 | h1
    · exact hn.2.2 a h1 a hb rfl
    · have := h.key_lt (b := a) (by rw [Heap.keys_append]; exact List.mem_append.2 (Or.inr hb)); omega
theorem Inv.perm {H H' : Heap} {M : Mem} {w : World} (h : Inv M H w) (hp : H.Perm H') : Inv M H' w :=
  ⟨h.mem, fun b x hx => h.obj b x (hp.mem_iff.2 hx), (List.Perm.nodup_iff (List.Perm.map _ hp)).1 h.nodup⟩
theorem Inv.sub {H H' : Heap} {M : Mem} {w : World} (h : Inv M H w) (hs : H'.Sublist H) : Inv M H' w :=
  ⟨h.mem, fun b x hx => h.obj b x (hs.subset hx), h.nodup.sublist (hs.map _)⟩
theorem Inv.swap {A B : Heap} {M : Mem} {w : World} (h : Inv M (A ++ B) w) : Inv M (B ++ A) w := h.perm List.perm_append_comm
theorem Inv.drew {H : Heap} {M : Mem} {w : World} (h : Inv M H w) : Inv M H w.drew := by
  refine ⟨h.mem, fun b x hx => ?_, h.nodup⟩
  have := h.obj b x hx
  cases x <;> exact this
end Go.Proofs.YtahdkhklngjmoaaGreatDoor

/-
  The abstract machine: frames, types, and what each operation makes. No condition.
-/
namespace Go.Proofs.YtahdkhklngjmoaaGreatDoor
open Go.RowKit

/-- what a slot holds: a pure value; the address of a local variable, by its site; what a skipped operation leaves; whatever -/
inductive T where
  | g (x : AV)
  | lp (k off : Nat)
  | undef
  | junk

abbrev Env := List (Nat × T)
def Env.get : Env → Nat → T
  | [], _ => .junk
  | (k, t) :: r, i => bif Nat.beq k i then t else Env.get r i
def Env.put (e : Env) (d : Option Tmp) (t : T) : Env :=
  match d with
  | some d => (d, t) :: e
  | none => e
/-- no slot holds the address of a site -/
def Env.free : Env → Nat → Bool
  | [], _ => true
  | (_, .lp k _) :: r, d => bif Nat.beq k d then false else Env.free r d
  | _ :: r, d => Env.free r d

/-- local variables, by their sites -/
abbrev Loc := List (Nat × List AV)
def Loc.get : Loc → Nat → Option (List AV)
  | [], _ => none
  | (k, x) :: r, i => bif Nat.beq k i then some x else Loc.get r i
def Loc.set : Loc → Nat → List AV → Loc
  | [], _, _ => []
  | (k, x) :: r, i, y => bif Nat.beq k i then (k, y) :: r else (k, x) :: Loc.set r i y

/-! types -/
inductive TK where
  | int (k : IntKind)
  | bool
  | string
  | slice (e : TypeId)
  | array (n : Nat) (e : TypeId)
  | pointer (e : TypeId)
  | struct (fs : List (Nat × Nat × TypeId))
  | map (k e : TypeId)
  | intw
  | iface
  | other
structure TI where
  kind : TK
  size : Nat
  bytes : Nat
  zero : Value
abbrev Tab := List (TypeId × TI)
def Tab.get : Tab → TypeId → Option TI
  | [], _ => none
  | (k, x) :: r, i => bif Nat.beq k i then some x else Tab.get r i

def Tab.kind (tab : Tab) (t : TypeId) : TK :=
  match tab.get t with
  | some i => i.kind
  | none => .other

def TK.of (P : Program) : TypeDesc → TK
  | .int k => .int k
  | .bool => .bool
  | .string => .string
  | .slice e => .slice e
  | .array n e => .array n e
  | .pointer e => .pointer e
  | .struct fs => match fs.toList.mapM (fun f => (P.info? f.type).map fun i => (f.offset, i.size, f.type)) with
    | some l => .struct l
    | none => .other
  | .map k e => .map k e
  | .interface ms => if ms.size = 0 then .iface else .other
  | _ => .other
/-- an int whose sums may wrap is an int -/
def TK.plain : TK → TK
  | .intw => .int .i64
  | k => k
def TK.agg : TK → Bool
  | .struct _ | .array _ _ => true
  | _ => false
def isAggD : TypeDesc → Bool
  | .struct _ | .array _ _ => true
  | _ => false
def TIok (P : Program) (t : TypeId) (i : TI) : Prop :=
  (P.info? t).map (fun f => (f.size, f.bytes, f.zero)) = some (i.size, i.bytes, some i.zero) ∧ (P.underlying t).map (TK.of P) = some i.kind.plain ∧ (P.underlying t).map isAggD = some i.kind.agg
def TabOk (P : Program) : Tab → Prop
  | [] => True
  | (t, i) :: r => TIok P t i ∧ TabOk P r
/-! literals -/
def lit1 : Value → AV
  | .slice none 0 0 => .sl .full 0 []
  | .string s => .str s.data.toList
  | x => .v x
def lit : Value → AV
  | .agg cs => .agg (cs.toList.map lit1)
  | x => lit1 x
def lit1Ok : Value → Bool
  | .agg _ => false
  | .tuple _ => false
  | .string s => Nat.ble s.data.toList.length 1125899906842624
  | _ => true
def litOk : Value → Bool
  | .agg cs => cs.toList.all lit1Ok
  | x => lit1Ok x

def Env.ev (e : Env) : Operand → T
  | .tmp t => e.get t
  | .const v => bif litOk v then .g (lit v) else .junk
  | .global _ => .junk
  | .func f => .g (.fn (.func f) [])

/-! what an operation yields: by computing, on conditions -/
inductive Rs : Type 1 where
  | ret (t : T)
  | req (p : Prop) (r : Rs)
  | ex {α : Type} (p : α → Prop) (f : α → Rs)
  | ite (q : Bool) (a b : Rs)
  | fail
/-- one of two, by a truth value -/
def ifB (q : Bool) (A B : Prop) : Prop :=
  match q with
  | true => A
  | false => B
def Rs.run : Rs → (T → Prop) → Prop
  | .ret t, K => K t
  | .req p r, K => p ∧ r.run K
  | .ex p f, K => ∃ x, p x ∧ (f x).run K
  | .ite q a b, K => ifB q (a.run K) (b.run K)
  | .fail, _ => False
theorem Rs.split {r : Rs} {K : T → Prop} (h : r.run K) : ∃ t, r.run (fun x => x = t) ∧ K t := by
  induction r with
  | ret t => exact ⟨t, rfl, h⟩
  | req p r ih => obtain ⟨t, h1, h2⟩ := ih h.2; exact ⟨t, ⟨h.1, h1⟩, h2⟩
  | ex p f ih => obtain ⟨x, hp, h⟩ := h; obtain ⟨t, h1, h2⟩ := ih x h; exact ⟨t, ⟨x, hp, h1⟩, h2⟩
  | ite q a b iha ihb =>
    cases q with
    | true => exact iha h
    | false => exact ihb h
  | fail => exact h.elim
theorem Rs.mono {r : Rs} {K K' : T → Prop} (hk : ∀ t, K t → K' t) (h : r.run K) : r.run K' := by
  induction r with
  | ret t => exact hk t h
  | req p r ih => exact ⟨h.1, ih h.2⟩
  | ex p f ih => obtain ⟨x, hp, h⟩ := h; exact ⟨x, hp, ih x h⟩
  | ite q a b iha ihb =>
    cases q with
    | true => exact iha h
    | false => exact ihb h
  | fail => exact h.elim

def rv (x : AV) : Rs := .ret (.g x)
def AV.i (n : Int) : AV := .v (.int .i64 n)
def AV.b (q : Bool) : AV := .v (.bool q)
def in64 (n : Int) : Prop := -9223372036854775808 ≤ n ∧ n ≤ 9223372036854775807
/-- an int: no sum may go beyond it; other kinds wrap -/
def wrapR (k : IntKind) (n : Int) : Rs :=
  match k with
  | .i64 => .req (in64 n) (rv (.v (.int .i64 n)))
  | k => rv (.v (.int k (k.wrap n)))
def byteV (c : UInt8) : AV := .v (.int .u8 c.toNat)

/-- a truth value: the two ways part here -/
def cmpR (q : Bool) : Rs := .ite q (rv (.b true)) (rv (.b false))
def ncmpR (q : Bool) : Rs := .ite q (rv (.b false)) (rv (.b true))
def natR (x : AV) (f : Nat → Rs) : Rs :=
  match x with
  | .v (.int _ i) => .ex (fun n : Nat => i = n) f
  | _ => .fail

def intR (op : BinOp) (k : IntKind) (x y : Int) : Rs :=
  match op with
  | .add => wrapR k (x + y)
  | .sub => wrapR k (x - y)
  | .mul => wrapR k (x * y)
  | .quo => .req (y ≠ 0) (wrapR k (x.tdiv y))
  | .rem => .req (y ≠ 0) (rv (.v (.int k (x.tmod y))))
  | .and => rv (.v (.int k (k.wrap (BitVec.ofInt k.bits x &&& BitVec.ofInt k.bits y).toNat)))
  | .or => rv (.v (.int k (k.wrap (BitVec.ofInt k.bits x ||| BitVec.ofInt k.bits y).toNat)))
  | .xor => rv (.v (.int k (k.wrap (BitVec.ofInt k.bits x ^^^ BitVec.ofInt k.bits y).toNat)))
  | .eql => cmpR (decide (x = y))
  | .neq => ncmpR (decide (x = y))
  | .lss => cmpR (decide (x < y))
  | .leq => cmpR (decide (x ≤ y))
  | .gtr => cmpR (decide (y < x))
  | .geq => cmpR (decide (y ≤ x))
  | _ => .fail
/-- a sum that may wrap -/
def intwR (op : BinOp) (k : IntKind) (x y : Int) : Rs :=
  match op with
  | .add => rv (.v (.int k (k.wrap (x + y))))
  | _ => .fail
def shiftR (op : BinOp) (k : IntKind) (x y : Int) : Rs :=
  match op with
  | .shl => .req (0 ≤ y) (wrapR k (x * 2 ^ (min y.toNat k.bits)))
  | .shr => .req (0 ≤ y) (rv (.v (.int k (x.fdiv (2 ^ (min y.toNat k.bits))))))
  | _ => .fail
def strR (op : BinOp) (x y : List UInt8) : Rs :=
  match op with
  | .add => .req (x.length + y.length ≤ 1125899906842624) (rv (.str (x ++ y)))
  | .eql => cmpR (decide (x = y))
  | .neq => ncmpR (decide (x = y))
  | .lss => cmpR (Op.bytesLess x y)
  | .leq => cmpR (Op.bytesLess x y || decide (x = y))
  | .gtr => ncmpR (Op.bytesLess x y || decide (x = y))
  | .geq => ncmpR (Op.bytesLess x y)
  | _ => .fail
def isShift : BinOp → Bool
  | .shl | .shr => true
  | _ => false
/-- a comparison with nil whose answer is known -/
def nilR (op : BinOp) (q : Bool) : Rs :=
  match op with
  | .eql => cmpR q
  | .neq => ncmpR q
  | _ => .fail
/-- cells that are ints, all of them -/
def intsOf : List AV → Option (List Int)
  | [] => some []
  | .v (.int .i64 x) :: r => match intsOf r with
    | some l => some (x :: l)
    | none => none
  | _ => none
def binR (tab : Tab) (op : BinOp) (t : TypeId) (a b : AV) : Rs :=
  match a, b with
  | .v (.int k x), .v (.int k' y) => bif isShift op then shiftR op k x y else bif decide (k = k') then (match tab.kind t with | .intw => intwR op k x y | _ => intR op k x y) else .fail
  | .str x, .str y => strR op x y
  | .v (.bool x), .v (.bool y) => match tab.kind t with
    | .bool => nilR op (x == y)
    | _ => .fail
  | .ip _, .v (.pointer none) => match tab.kind t with
    | .pointer _ => nilR op false
    | _ => .fail
  | .ptr _ _, .v (.pointer none) => match tab.kind t with
    | .pointer _ => nilR op false
    | _ => .fail
  | .v (.pointer none), .v (.pointer none) => match tab.kind t with
    | .pointer _ => nilR op true
    | _ => .fail
  | .v (.iface _ _), .v .nilIface => match tab.kind t with
    | .iface => nilR op false
    | _ => .fail
  | .v .nilIface, .v .nilIface => match tab.kind t with
    | .iface => nilR op true
    | _ => .fail
  | .agg xs, .agg ys => match tab.kind t with
    | .array n e => match tab.kind e, tab.get e, intsOf xs, intsOf ys with
      | .int .i64, some ie, some l, some r => bif Nat.beq ie.size 1 && (Nat.beq l.length n && Nat.beq r.length n) then nilR op (decide (l = r)) else .fail
      | _, _, _, _ => .fail
    | _ => .fail
  | _, _ => .fail

/-- what stands from an address on -/
def readR (L : Loc) (R : Heap) (a : T) (f : List AV → Rs) : Rs :=
  match a with
  | .lp k off => match L.get k with
    | some cs => f (cs.drop off)
    | none => .fail
  | .g (.ip cs) => f cs
  | .g (.ptr b off) => .ex (fun cs => (b, AObj.cells cs) ∈ R) fun cs => f (cs.drop off)
  | _ => .fail
/-- a part of cells: of a type -/
def partR (tab : Tab) (t : TypeId) (cs : List AV) : Rs :=
  match tab.get t with
  | some i => bif i.kind.agg then (bif Nat.ble i.size cs.length then rv (.agg (cs.take i.size)) else .fail) else (match cs with
    | c :: _ => rv c
    | [] => .fail)
  | none => .fail
/-- the address that lies so many cells on -/
def shiftT (a : T) (n : Nat) : T :=
  match a with
  | .lp k off => .lp k (off + n)
  | .g (.ip cs) => .g (.ip (cs.drop n))
  | .g (.ptr b off) => .g (.ptr b (off + n))
  | _ => .junk
def isAddr : T → Bool
  | .lp _ _ => true
  | .g (.ip _) => true
  | .g (.ptr _ _) => true
  | _ => false
def atG (t : T) (f : AV → Rs) : Rs :=
  match t with
  | .g x => f x
  | _ => .fail

/-- the bounds of a cut -/
def hiR (ρ : Operand → T) (n : Nat) (hi : Option Operand) (f : Nat → Nat → Rs) (l : Nat) : Rs :=
  match hi with
  | none => .req (l ≤ n) (f l n)
  | some y => atG (ρ y) fun y => natR y fun h => .req (l ≤ h ∧ h ≤ n) (f l h)
def cutR (ρ : Operand → T) (n : Nat) (lo hi : Option Operand) (f : Nat → Nat → Rs) : Rs :=
  match lo with
  | none => hiR ρ n hi f 0
  | some x => atG (ρ x) fun x => natR x (hiR ρ n hi f)

/-- no tuple -/
def noTup : AV → Bool
  | .tup _ => false
  | _ => true
def putCells (cs : List AV) (off : Nat) (xs : List AV) : List AV := cs.take off ++ xs ++ cs.drop (off + xs.length)
def fillA (ρ : Operand → T) (fs : List (Nat × Nat × TypeId)) : List (Nat × Operand) → List AV → Option (List AV)
  | [], cs => some cs
  | (i, x) :: r, cs => match fs[i]?, ρ x with
    | some (off, size, _), .g a => bif (noTup a && Nat.beq a.cells.length size && Nat.ble (off + size) cs.length) then fillA ρ fs r (putCells cs off a.cells) else none
    | _, _ => none
def elemsA (ρ : Operand → T) (size : Nat) : List (Nat × Operand) → Nat → Option (List AV)
  | [], _ => some []
  | (i, x) :: r, k => bif Nat.beq i k then (match ρ x with
    | .g a => bif (noTup a && Nat.beq a.cells.length size) then (elemsA ρ size r (k + 1)).map (a :: ·) else none
    | _ => none) else none
/-- a width that fits a type's -/
def wOk (s size : Nat) : Bool := Nat.beq s size || Nat.beq s 0
/-- cells that are values, all of them -/
def valsOf : List AV → Option (List Value)
  | [] => some []
  | .v x :: r => match valsOf r with
    | some l => some (x :: l)
    | none => none
  | _ => none
def argsA : List T → Option (List AV)
  | [] => some []
  | .g a :: r => (argsA r).map (a :: ·)
  | _ => none

/-- the operations that leave what may turn as it is; R: what is read behind pointers -/
def ares (tab : Tab) (o : Op) (ρ : Operand → T) (L : Loc) (R : Heap) : Rs :=
  match o with
  | .move x | .assign x => .ret (ρ x)
  | .pick c a b => match ρ c with
    | .g (.v (.bool q)) => .ite q (.ret (ρ a)) (.ret (ρ b))
    | _ => .fail
  | .nilCheck x => bif isAddr (ρ x) then .ret (ρ x) else (match ρ x with
    | .g (.fn (.func f) c) => .ret (.g (.fn (.func f) c))
    | _ => .fail)
  | .load t a => readR L R (ρ a) fun cs => partR tab t cs
  | .binOp op t x y _ => match ρ x, ρ y with
    | .g a, .g b => binR tab op t a b
    | _, _ => .fail
  | .unOp op _ x => match op, ρ x with
    | .not, .g (.v (.bool q)) => rv (.b (!q))
    | .neg, .g (.v (.int k n)) => wrapR k (0 - n)
    | _, _ => .fail
  | .convert src dst x => match tab.kind src, tab.kind dst, ρ x with
    | .int _, .int k, .g (.v (.int _ n)) => wrapR k n
    | .string, .string, .g (.str l) => rv (.str l)
    | .slice e, .string, .g (.sl _ _ xs) => match tab.kind e with
      | .int .u8 => .ex (fun l : List UInt8 => xs = l.map byteV ∧ l.length ≤ 1125899906842624) fun l => rv (.str l)
      | _ => .fail
    | _, _, _ => .fail
  | .makeFunc fn first captured => bif Nat.beq first.size 0 then (match argsA (captured.toList.map ρ) with
    | some xs => rv (.fn fn xs)
    | none => .fail) else (match fn, first.toList.map ρ, captured.toList with
    | .func f, [.g (.ptr b off)], [] => rv (.v (.func (.func f) #[.pointer (some ⟨b, off, none⟩)] #[]))
    | _, _, _ => .fail)
  | .slice t x lo hi mx => match tab.kind t, ρ x with
    | .string, .g (.str l) => match mx with
      | none => cutR ρ l.length lo hi fun a b => rv (.str ((l.drop a).take (b - a)))
      | some _ => .fail
    | .slice e, .g (.sl o s xs) => match tab.get e with
      | some ie => bif wOk s ie.size then (match mx with
        | none => cutR ρ xs.length lo hi fun a b => rv (.sl (match lo, hi with | none, none => o | _, _ => .no) s ((xs.drop a).take (b - a)))
        | some y => bif hi.isSome then cutR ρ xs.length lo hi fun a b => atG (ρ y) fun y => natR y fun m => .req (m = b) (rv (.sl .full s ((xs.drop a).take (b - a)))) else .fail) else .fail
      | none => .fail
    | .slice e, .g (.v (.slice (some ⟨b, off, none⟩) n cap)) => match tab.get e with
      | some ie => bif mx.isSome then .fail else .req (n ≤ cap) (cutR ρ n lo hi fun l h => .ex (fun o : Nat => (if cap = l then off else off + l * ie.size) = o) fun o => rv (.v (.slice (some ⟨b, o, none⟩) (h - l) (cap - l))))
      | none => .fail
    | .array m e, .g (.ip cs) => match tab.get e with
      | some ie => bif (mx.isSome || !Nat.beq ie.size 1) then .fail else .req (m ≤ cs.length ∧ m ≤ 1000000 ∧ ∀ y ∈ cs, y.cells = [y]) (cutR ρ m lo hi fun l h => rv (.sl .no 1 ((cs.drop l).take (h - l))))
      | none => .fail
    | .array m e, .g (.ptr b off) => match tab.get e with
      | some ie => bif mx.isSome then .fail else cutR ρ m lo hi fun l h => .ex (fun o : Nat => (if m = l then off else off + l * ie.size) = o) fun o => rv (.v (.slice (some ⟨b, o, none⟩) (h - l) (m - l)))
      | none => .fail
    | _, _ => .fail
  | .fieldAddr s x f => match tab.kind s with
    | .struct fs => match fs[f]? with
      | some (off, size, _) => bif (isAddr (ρ x) && !Nat.beq size 0) then .ret (shiftT (ρ x) off) else .fail
      | none => .fail
    | _ => .fail
  | .field s x f => match tab.kind s, ρ x with
    | .struct fs, .g (.agg cs) => match fs[f]? with
      | some (off, _, t) => partR tab t (cs.drop off)
      | none => .fail
    | _, _ => .fail
  | .indexAddr t x i => match tab.kind t, ρ x, ρ i with
    | .slice e, .g (.sl _ s xs), .g i => match tab.get e with
      | some ie => bif Nat.beq s ie.size then (natR i fun n => .ex (fun y : AV => xs[n]? = some y) fun y => rv (.ip y.cells)) else .fail
      | none => .fail
    | .array m e, a, .g i => match tab.get e with
      | some ie => bif isAddr a then natR i fun n => .req (n < m) (.ret (shiftT a (n * ie.size))) else .fail
      | none => .fail
    | .slice e, .g (.v (.slice (some ⟨b, off, none⟩) m _)), .g i => match tab.get e with
      | some ie => natR i fun n => .req (n < m) (rv (.ptr b (off + n * ie.size)))
      | none => .fail
    | _, _, _ => .fail
  | .index t x i => match tab.kind t, ρ x, ρ i with
    | .string, .g (.str l), .g i => natR i fun n => .ex (fun c : UInt8 => l[n]? = some c) fun c => rv (byteV c)
    | .array m e, .g (.agg cs), .g i => match tab.get e with
      | some ie => natR i fun n => .req (n < m) (partR tab e (cs.drop (n * ie.size)))
      | none => .fail
    | _, _, _ => .fail
  | .build t parts => match tab.get t with
    | some i => match i.kind with
      | .struct fs => match fillA ρ fs parts.toList (lit i.zero).cells with
        | some cs => bif litOk i.zero then rv (.agg cs) else .fail
        | none => .fail
      | .array n e => match tab.get e with
        | some ie => match elemsA ρ ie.size parts.toList 0 with
          | some xs => bif (Nat.beq xs.length n && (Nat.beq i.zero.cells.size (n * ie.size) && !Nat.beq ie.size 0)) then rv (.agg (xs.flatMap AV.cells)) else .fail
          | none => .fail
        | none => .fail
      | _ => .fail
    | none => .fail
  | .buildSlice t len parts => match tab.kind t with
    | .slice e => match tab.get e with
      | some ie => match elemsA ρ ie.size parts.toList 0 with
        | some xs => bif (Nat.beq xs.length len && Nat.ble (len * ie.size) 16777216 && !Nat.beq ie.size 0) then rv (.sl .full ie.size xs) else .fail
        | none => .fail
      | none => .fail
    | _ => .fail
  | .makeInterface t x => match tab.kind t, ρ x with
    | .struct _, .g (.agg xs) => match valsOf xs with
      | some cs => rv (.v (.iface t (.agg cs.toArray)))
      | none => .fail
    | _, _ => .fail
  | .typeAssert x _ t ok => match tab.kind t, ρ x with
    | .struct _, .g (.v (.iface t' (.agg cs))) => bif (ok && Nat.beq t t' && cs.toList.all Value.oneCell') then rv (.tup [.agg (cs.toList.map .v), .b true]) else .fail
    | _, _ => .fail
  | .extract t k => match ρ t with
    | .g (.tup xs) => match xs[k]? with
      | some x => rv x
      | none => .fail
    | _ => .fail
  | .call c => match c.callee, c.args.toList.map ρ with
    | .builtin .len, [.g x] => match c.argTypes[0]? with
      | some ty => match tab.kind ty, x with
        | .string, .str l => rv (.i l.length)
        | .slice _, .sl _ _ xs => rv (.i xs.length)
        | .slice _, .v (.slice _ n _) => rv (.i n)
        | .array n _, _ => rv (.i n)
        | _, _ => .fail
      | none => .fail
    | .builtin .min, [.g (.v (.int k x)), .g (.v (.int k' y))] => bif decide (k = k') then rv (.v (.int k (min x y))) else .fail
    | .builtin .max, [.g (.v (.int k x)), .g (.v (.int k' y))] => bif decide (k = k') then rv (.v (.int k (max x y))) else .fail
    | _, _ => .fail
  | _ => .fail
end Go.Proofs.YtahdkhklngjmoaaGreatDoor

/-
  The abstract machine: what an operation yields in memory is what it yields on pure values. No condition.
-/
namespace Go.Proofs.YtahdkhklngjmoaaGreatDoor
open Go.RowKit

def repX (M : Mem) (lm : Nat → Nat) : T → Value → Prop
  | .g x, u => rep M x u
  | .lp k off, u => u = .pointer (some ⟨lm k, off, none⟩)
  | .undef, u => u = undef
  | .junk, _ => True
def lheap (lm : Nat → Nat) (L : Loc) : Heap := L.map fun p => (lm p.1, AObj.cells p.2)

theorem repX.mono {M M' : Mem} (hM : M.le M') {lm : Nat → Nat} {t : T} {u : Value} (h : repX M lm t u) : repX M' lm t u := by
  cases t with
  | g x => exact rep.mono hM x u h
  | lp k off => exact h
  | undef => exact h
  | junk => trivial

/-! literals -/
theorem rep_lit1 {M : Mem} {v : Value} (h : lit1Ok v = true) : v.oneCell' = true ∧ rep M (lit1 v) v := by
  unfold lit1
  split
  · refine ⟨rfl, ?_⟩
    simp only [rep]
    exact ⟨none, 0, rfl, by simp, by simp [maxLen], fun _ => rfl, ⟨fun _ => rfl, fun y hy => by cases hy⟩, rfl, fun h => by simp at h⟩
  · rename_i s
    refine ⟨rfl, ?_⟩
    simp only [rep]
    simp only [lit1Ok, Nat.ble_eq] at h
    exact ⟨by simp, by simpa using h⟩
  · have h1 : v.oneCell' = true := by cases v <;> first | rfl | (simp [lit1Ok] at h)
    exact ⟨h1, by simp [rep, h1]⟩
theorem rep_lits {M : Mem} : ∀ (l : List Value), l.all lit1Ok = true → repC M (l.map lit1) l
  | [], _ => by simp only [List.map_nil, repC]
  | v :: l, h => by
    simp only [List.all_cons, Bool.and_eq_true] at h
    simp only [List.map_cons, repC]
    exact ⟨v, l, rfl, rep_lit1 h.1, rep_lits l h.2⟩
theorem rep_lit {M : Mem} {v : Value} (h : litOk v = true) : rep M (lit v) v := by
  unfold lit
  split
  · rename_i cs
    simp only [rep]
    exact ⟨cs.toList, by simp, rep_lits _ h⟩
  · rename_i hn
    have h' : lit1Ok v = true := by
      unfold litOk at h
      split at h
      · exact absurd rfl (hn _)
      · exact h
    exact (rep_lit1 h').2

theorem ev_rep {M : Mem} {lm : Nat → Nat} {e : Env} {a : Act} (he : ∀ i, repX M lm (e.get i) (a.tmps.getD i undef)) (x : Operand) : repX M lm (e.ev x) (a.eval x) := by
  cases x with
  | tmp t => exact he t
  | const v =>
    show repX M lm (bif litOk v then .g (lit v) else .junk) v
    cases h : litOk v with
    | true => exact rep_lit h
    | false => trivial
  | global g => trivial
  | func f =>
    show rep M (.fn (.func f) []) _
    simp only [rep, repT]
    exact ⟨[], rfl, rfl⟩

/-! lists -/
theorem repC.length {M : Mem} : ∀ {xs : List AV} {cs : List Value}, repC M xs cs → cs.length = xs.length
  | [], cs, h => by simp only [repC] at h; rw [h]; rfl
  | x :: xs, cs, h => by
    simp only [repC] at h
    obtain ⟨c, cs', rfl, _, h⟩ := h
    simp [repC.length h]
theorem repT.length {M : Mem} : ∀ {xs : List AV} {cs : List Value}, repT M xs cs → cs.length = xs.length
  | [], cs, h => by simp only [repT] at h; rw [h]; rfl
  | x :: xs, cs, h => by
    simp only [repT] at h
    obtain ⟨c, cs', rfl, _, h⟩ := h
    simp [repT.length h]
theorem repC.drop {M : Mem} : ∀ {xs : List AV} {cs : List Value} (n : Nat), repC M xs cs → repC M (xs.drop n) (cs.drop n)
  | xs, cs, 0, h => by simpa using h
  | [], cs, n + 1, h => by simp only [repC] at h; subst h; simp [repC]
  | x :: xs, cs, n + 1, h => by
    simp only [repC] at h
    obtain ⟨c, cs', rfl, _, h⟩ := h
    simpa using repC.drop n h
theorem repC.take {M : Mem} : ∀ {xs : List AV} {cs : List Value} (n : Nat), repC M xs cs → repC M (xs.take n) (cs.take n)
  | xs, cs, 0, h => by simp [repC]
  | [], cs, n + 1, h => by simp only [repC] at h; subst h; simp [repC]
  | x :: xs, cs, n + 1, h => by
    simp only [repC] at h
    obtain ⟨c, cs', rfl, h1, h⟩ := h
    simp only [List.take_succ_cons, repC]
    exact ⟨c, _, rfl, h1, repC.take n h⟩
theorem repC.append {M : Mem} : ∀ {xs ys : List AV} {cs ds : List Value}, repC M xs cs → repC M ys ds → repC M (xs ++ ys) (cs ++ ds)
  | [], ys, cs, ds, h, k => by simp only [repC] at h; subst h; simpa using k
  | x :: xs, ys, cs, ds, h, k => by
    simp only [repC] at h
    obtain ⟨c, cs', rfl, h1, h⟩ := h
    simp only [List.cons_append, repC]
    exact ⟨c, _, rfl, h1, repC.append h k⟩
theorem repC.one {M : Mem} : ∀ {xs : List AV} {cs : List Value}, repC M xs cs → ∀ c ∈ cs, c.oneCell' = true
  | [], cs, h, c, hc => by simp only [repC] at h; subst h; cases hc
  | x :: xs, cs, h, c, hc => by
    simp only [repC] at h
    obtain ⟨d, cs', rfl, h1, h⟩ := h
    rcases List.mem_cons.1 hc with rfl | hc
    · exact h1.1
    · exact repC.one h c hc
theorem repT.get {M : Mem} : ∀ {xs : List AV} {cs : List Value} {k : Nat} {x : AV}, repT M xs cs → xs[k]? = some x → ∃ c, cs[k]? = some c ∧ rep M x c
  | [], cs, k, x, h, hk => by simp at hk
  | y :: xs, cs, 0, x, h, hk => by
    simp only [repT] at h
    obtain ⟨c, cs', rfl, h1, h⟩ := h
    simp at hk; subst hk
    exact ⟨c, rfl, h1⟩
  | y :: xs, cs, k + 1, x, h, hk => by
    simp only [repT] at h
    obtain ⟨c, cs', rfl, h1, h⟩ := h
    simpa using repT.get h (by simpa using hk)

/-- a value that is no aggregate has one cell -/
theorem rep.cells {M : Mem} {x : AV} {u : Value} (h : rep M x u) (ht : ∀ xs, x ≠ .tup xs) : repC M x.cells u.cells.toList := by
  cases x with
  | agg xs =>
    simp only [rep] at h
    obtain ⟨cs, rfl, h⟩ := h
    simpa [AV.cells, Value.cells] using h
  | tup xs => exact absurd rfl (ht xs)
  | v x =>
    simp only [rep] at h
    obtain ⟨rfl, h1⟩ := h
    have : u.cells = #[u] := by cases u <;> first | rfl | (simp [Value.oneCell'] at h1)
    rw [this]
    simp only [AV.cells, repC, rep]
    exact ⟨u, [], rfl, ⟨h1, rfl, h1⟩, rfl⟩
  | str l =>
    have h0 := h
    simp only [rep] at h
    obtain ⟨rfl, h1⟩ := h
    simp only [AV.cells, Value.cells, repC]
    exact ⟨_, [], rfl, ⟨rfl, h0⟩, rfl⟩
  | sl o s xs =>
    have h0 := h
    simp only [rep] at h
    obtain ⟨a, cap, rfl, _⟩ := h
    simp only [AV.cells, Value.cells, repC]
    exact ⟨_, [], rfl, ⟨rfl, h0⟩, rfl⟩
  | ip xs =>
    have h0 := h
    simp only [rep] at h
    obtain ⟨b, off, rfl, _⟩ := h
    simp only [AV.cells, Value.cells, repC]
    exact ⟨_, [], rfl, ⟨rfl, h0⟩, rfl⟩
  | ptr b off =>
    have h0 := h
    simp only [rep] at h
    subst h
    simp only [AV.cells, Value.cells, repC]
    exact ⟨_, [], rfl, ⟨rfl, h0⟩, rfl⟩
  | fn f xs =>
    have h0 := h
    simp only [rep] at h
    obtain ⟨cs, rfl, _⟩ := h
    simp only [AV.cells, Value.cells, repC]
    exact ⟨_, [], rfl, ⟨rfl, h0⟩, rfl⟩
  | mp b =>
    have h0 := h
    simp only [rep] at h
    subst h
    simp only [AV.cells, Value.cells, repC]
    exact ⟨_, [], rfl, ⟨rfl, h0⟩, rfl⟩

/-! memory that never turns -/
theorem atL.drop {M : Mem} : ∀ {xs : List AV} {b o : Nat} (n : Nat), atL M xs b o → n ≤ xs.length → atL M (xs.drop n) b (o + n)
  | xs, b, o, 0, h, _ => by simpa using h
  | [], b, o, n + 1, h, hn => by simp at hn
  | x :: xs, b, o, n + 1, h, hn => by
    simp only [atL] at h
    have := atL.drop (b := b) n h.2 (by simpa using hn)
    rw [show o + (n + 1) = o + 1 + n by omega]
    simpa using this
theorem atL.drop' {M : Mem} {xs : List AV} {b o : Nat} (n : Nat) (h : atL M xs b o) : atL M (xs.drop n) b (o + n) := by
  rcases Nat.lt_or_ge xs.length n with hn | hn
  · rw [List.drop_eq_nil_of_le (by omega)]; simp only [atL]
  · exact h.drop n hn
/-- the cells' values -/
theorem atL.vals {M : Mem} : ∀ {xs : List AV} {b o : Nat}, atL M xs b o → ∃ cs, repC M xs cs ∧ ∀ j c, cs[j]? = some c → M b (o + j) = some c
  | [], b, o, h => ⟨[], by simp only [repC], fun j c hj => by simp at hj⟩
  | x :: xs, b, o, h => by
    simp only [atL] at h
    obtain ⟨⟨c, h1, h2, h3⟩, h4⟩ := h
    obtain ⟨cs, k1, k2⟩ := h4.vals
    refine ⟨c :: cs, by simp only [repC]; exact ⟨c, cs, rfl, ⟨h2, h3⟩, k1⟩, fun j d hj => ?_⟩
    cases j with
    | zero => simp at hj; subst hj; exact h1
    | succ j => have := k2 j d (by simpa using hj); rw [show o + (j + 1) = o + 1 + j by omega]; exact this
theorem atL.of_vals {M : Mem} : ∀ {xs : List AV} {cs : List Value} {b o : Nat}, repC M xs cs → (∀ j c, cs[j]? = some c → M b (o + j) = some c) → atL M xs b o
  | [], cs, b, o, _, _ => by simp only [atL]
  | x :: xs, cs, b, o, h, hm => by
    simp only [repC] at h
    obtain ⟨c, cs', rfl, h1, h⟩ := h
    simp only [atL]
    refine ⟨⟨c, by simpa using hm 0 c (by simp), h1⟩, atL.of_vals h fun j d hj => ?_⟩
    have := hm (j + 1) d (by simpa using hj)
    rwa [show o + (j + 1) = o + 1 + j by omega] at this
/-- an element's cells -/
theorem atE.cons {M : Mem} {x : AV} {xs : List AV} {b o : Nat} : atE M (x :: xs) b o ↔ atL M x.cells b o ∧ atE M xs b (o + x.cells.length) := by
  cases x <;> simp only [atE, AV.cells, atL, List.length_cons, List.length_nil, Nat.zero_add, and_true]
theorem atE.get {M : Mem} {s : Nat} : ∀ {xs : List AV} {b o k : Nat} {x : AV}, atE M xs b o → (∀ y ∈ xs, y.cells.length = s) → xs[k]? = some x → atL M x.cells b (o + k * s)
  | [], b, o, k, x, h, _, hk => by simp at hk
  | y :: xs, b, o, 0, x, h, _, hk => by
    simp at hk; subst hk
    simpa using (atE.cons.1 h).1
  | y :: xs, b, o, k + 1, x, h, hs, hk => by
    have h2 := (atE.cons.1 h).2
    have := h2.get (fun z hz => hs z (by simp [hz])) (by simpa using hk)
    rw [hs y (by simp)] at this
    rwa [show o + (k + 1) * s = o + s + k * s by rw [Nat.succ_mul]; omega]
theorem atE.flat {M : Mem} : ∀ {xs : List AV} {b o : Nat}, atE M xs b o ↔ atL M (xs.flatMap AV.cells) b o
  | [], b, o => by simp [atE, atL]
  | x :: xs, b, o => by
    rw [atE.cons, atE.flat, List.flatMap_cons]
    exact atL.append.symm
where atL.append {M : Mem} : ∀ {xs ys : List AV} {b o : Nat}, atL M (xs ++ ys) b o ↔ atL M xs b o ∧ atL M ys b (o + xs.length)
  | [], ys, b, o => by simp [atL]
  | x :: xs, ys, b, o => by
    simp only [List.cons_append, atL, atL.append, List.length_cons]
    rw [show o + 1 + xs.length = o + (xs.length + 1) by omega, and_assoc]
end Go.Proofs.YtahdkhklngjmoaaGreatDoor

/-
  The abstract machine: each operation that leaves what may turn as it is, in memory. No condition.
-/
namespace Go.Proofs.YtahdkhklngjmoaaGreatDoor
open Go.RowKit

/-! types -/
section
variable {P : Program} {tab : Tab}
theorem beq_true {a b : Nat} (h : Nat.beq a b = true) : a = b := Nat.eq_of_beq_eq_true h
theorem TabOk.get : ∀ {tab : Tab} {t : TypeId} {i : TI}, TabOk P tab → tab.get t = some i → TIok P t i
  | [], t, i, _, h => by cases h
  | (k, x) :: r, t, i, hP, h => by
    simp only [Tab.get] at h
    cases hk : Nat.beq k t with
    | true => rw [hk] at h; cases h; rw [← beq_true hk]; exact hP.1
    | false => rw [hk] at h; exact TabOk.get hP.2 h
theorem kind_get {t : TypeId} {k : TK} (h : tab.kind t = k) (hk : k ≠ .other) : ∃ i, tab.get t = some i ∧ i.kind = k := by
  unfold Tab.kind at h
  split at h
  · exact ⟨_, ‹_›, h⟩
  · exact absurd h.symm hk
theorem TIok.aggD {t : TypeId} {i : TI} (h : TIok P t i) {d : TypeDesc} (hd : P.underlying t = some d) : isAggD d = i.kind.agg := by
  have := h.2.2; rw [hd] at this; simpa using this
theorem TIok.desc {t : TypeId} {i : TI} (h : TIok P t i) : ∃ d, P.underlying t = some d ∧ TK.of P d = i.kind.plain := by
  have := h.2.1
  cases hd : P.underlying t with
  | none => rw [hd] at this; cases this
  | some d => rw [hd] at this; exact ⟨d, rfl, by simpa using this⟩
theorem und_of (hP : TabOk P tab) {t : TypeId} {k : TK} (h : tab.kind t = k) (hk : k ≠ .other) (hp : k.plain = k := by rfl) : ∃ d, P.underlying t = some d ∧ TK.of P d = k := by
  obtain ⟨i, h1, h2⟩ := kind_get h hk
  obtain ⟨d, h3, h4⟩ := (hP.get h1).desc
  exact ⟨d, h3, h4.trans (by rw [h2, hp])⟩
theorem und_slice (hP : TabOk P tab) {t e : TypeId} (h : tab.kind t = .slice e) : P.underlying t = some (.slice e) := by
  obtain ⟨d, h1, h2⟩ := und_of hP h (by simp)
  rw [h1]; cases d <;> first | (injection h2 with h2; rw [h2]; done) | (exfalso; simp only [TK.of] at h2; first | (cases h2; done) | (split at h2 <;> cases h2; done))
theorem und_array (hP : TabOk P tab) {t e : TypeId} {n : Nat} (h : tab.kind t = .array n e) : P.underlying t = some (.array n e) := by
  obtain ⟨d, h1, h2⟩ := und_of hP h (by simp)
  rw [h1]; cases d <;> first | (injection h2 with h2 h3; rw [h2, h3]; done) | (exfalso; simp only [TK.of] at h2; first | (cases h2; done) | (split at h2 <;> cases h2; done))
theorem und_int (hP : TabOk P tab) {t : TypeId} {k : IntKind} (h : tab.kind t = .int k) : P.underlying t = some (.int k) := by
  obtain ⟨d, h1, h2⟩ := und_of hP h (by simp)
  rw [h1]; cases d <;> first | (injection h2 with h2; rw [h2]; done) | (exfalso; simp only [TK.of] at h2; first | (cases h2; done) | (split at h2 <;> cases h2; done))
theorem und_bool (hP : TabOk P tab) {t : TypeId} (h : tab.kind t = .bool) : P.underlying t = some .bool := by
  obtain ⟨d, h1, h2⟩ := und_of hP h (by simp)
  rw [h1]; cases d <;> first | rfl | (exfalso; simp only [TK.of] at h2; first | (cases h2; done) | (split at h2 <;> cases h2; done))
theorem und_string (hP : TabOk P tab) {t : TypeId} (h : tab.kind t = .string) : P.underlying t = some .string := by
  obtain ⟨d, h1, h2⟩ := und_of hP h (by simp)
  rw [h1]; cases d <;> first | rfl | (exfalso; simp only [TK.of] at h2; first | (cases h2; done) | (split at h2 <;> cases h2; done))
theorem und_pointer (hP : TabOk P tab) {t e : TypeId} (h : tab.kind t = .pointer e) : P.underlying t = some (.pointer e) := by
  obtain ⟨d, h1, h2⟩ := und_of hP h (by simp)
  rw [h1]; cases d <;> first | (injection h2 with h2; rw [h2]; done) | (exfalso; simp only [TK.of] at h2; first | (cases h2; done) | (split at h2 <;> cases h2; done))
theorem und_iface (hP : TabOk P tab) {t : TypeId} (h : tab.kind t = .iface) : P.underlying t = some (.interface #[]) := by
  obtain ⟨d, h1, h2⟩ := und_of hP h (by simp)
  rw [h1]
  cases d <;> simp only [TK.of] at h2 <;> first | (cases h2; done) | skip
  · split at h2 <;> cases h2
  · rename_i ms
    split at h2
    · rename_i hm
      rw [Array.eq_empty_of_size_eq_zero hm]
    · cases h2
theorem und_struct (hP : TabOk P tab) {t : TypeId} {fs : List (Nat × Nat × TypeId)} (h : tab.kind t = .struct fs) : ∃ gs, P.underlying t = some (.struct gs) ∧ gs.toList.mapM (fun f => (P.info? f.type).map fun i => (f.offset, i.size, f.type)) = some fs := by
  obtain ⟨d, h1, h2⟩ := und_of hP h (by simp)
  rw [h1]
  cases d <;> simp only [TK.of] at h2 <;> first | (cases h2; done) | (split at h2 <;> cases h2; done) | skip
  rename_i gs
  refine ⟨gs, rfl, ?_⟩
  split at h2
  · rename_i l hl; cases h2; exact hl
  · cases h2
theorem TIok.info {t : TypeId} {i : TI} (h : TIok P t i) : ∃ f, P.info? t = some f ∧ f.size = i.size ∧ f.bytes = i.bytes ∧ f.zero = some i.zero := by
  have := h.1
  cases hf : P.info? t with
  | none => rw [hf] at this; cases this
  | some f => rw [hf] at this; simp at this; exact ⟨f, rfl, this.1, this.2.1, this.2.2⟩
theorem TIok.agg {t : TypeId} {i : TI} (h : TIok P t i) (w : World) : (isAgg t).run P w = .ok i.kind.agg w := by
  obtain ⟨d, h1, h2⟩ := h.desc
  unfold isAgg
  rw [Sem.run_bind, run_underlying h1, Result.andThen_ok, ← h.aggD h1]
  cases d <;> rfl
theorem TIok.sizeOf {t : TypeId} {i : TI} (h : TIok P t i) (w : World) : (sizeOf t).run P w = .ok i.size w := by
  obtain ⟨f, h1, h2, _⟩ := h.info
  simp [Go.sizeOf, typeInfo, h1, h2]
theorem TIok.zero {t : TypeId} {i : TI} (h : TIok P t i) (w : World) : (zeroValue t).run P w = .ok i.zero w := by
  obtain ⟨f, h1, _, _, h2⟩ := h.info
  simp [zeroValue, typeInfo, h1, h2]
end

/-! evolving -/
theorem Inv.evo0 {M M' : Mem} {H : Heap} {w w' : World} (h : Inv M H w) (e : Evo [] M w M' w') (hm : ∀ b o v, M' b o = some v → w'.cell? ⟨b, o, none⟩ = some v) : Inv M' H w' :=
  ⟨hm, fun b x hx => (h.obj b x hx).keep e (by simp), h.nodup⟩
/-- a new block that never turns -/
def Mem.add (M : Mem) (b : Nat) (cs : List Value) : Mem := fun b' o => if b' = b then cs[o]? else M b' o
theorem evo_new {M : Mem} {H : Heap} {w : World} (h : Inv M H w) (cs : List Value) (T : TypeId) : Evo [] M w (M.add w.heap.size cs) (w.alloc (.cells cs.toArray T)) ∧ Inv (M.add w.heap.size cs) H (w.alloc (.cells cs.toArray T)) := by
  have old : ∀ b o v, M b o = some v → b < w.heap.size := fun b o v hv => World.block_lt_of_cell? w _ (h.mem b o v hv)
  have e : Evo [] M w (M.add w.heap.size cs) (w.alloc (.cells cs.toArray T)) := by
    refine ⟨rfl, rfl, rfl, by simp, fun k hk _ => heap_alloc_old w _ hk, fun b o v hv => ?_, fun b o v hv => ?_⟩
    · have := old b o v hv
      unfold Mem.add
      rw [if_neg (by omega)]; exact hv
    · unfold Mem.add at hv
      split at hv
      · right; right; omega
      · exact Or.inl hv
  refine ⟨e, h.evo0 e fun b o v hv => ?_⟩
  unfold Mem.add at hv
  split at hv
  · rename_i hb
    subst hb
    rw [World.cell?_alloc_at _ _ _ _ rfl]
    simpa using hv
  · exact (World.cell?_alloc_lt w (.cells cs.toArray T) ⟨b, o, none⟩ (old b o v hv)).trans (h.mem b o v hv)

/-- what an operation comes to: a value that stands for t -/
def Yields (P : Program) (lm : Nat → Nat) (H : Heap) (M : Mem) (w : World) (s : Sem Next) (t : T) : Prop :=
  ∃ u w' M', s.run P w = .ok (.value u) w' ∧ Evo [] M w M' w' ∧ Inv M' H w' ∧ repX M' lm t u

section
variable {P : Program} {tab : Tab} {lm : Nat → Nat} {H : Heap} {M : Mem} {w : World}

theorem Yields.same (h : Inv M H w) {s : Sem Next} {t : T} {u : Value} (hs : s.run P w = .ok (.value u) w) (ht : repX M lm t u) : Yields P lm H M w s t :=
  ⟨u, w, M, hs, Evo.refl _ _ _, h, ht⟩

theorem rep_b {q : Bool} : rep M (.b q) (.bool q) := by simp [AV.b, rep, Value.oneCell']
theorem rep_int {k : IntKind} {n : Int} : rep M (.v (.int k n)) (.int k n) := by simp [rep, Value.oneCell']
theorem rep_str {l : List UInt8} (h : l.length ≤ 1125899906842624) : rep M (.str l) (.string ⟨l.toArray⟩) := by simp [rep, h]

/-- reading an address -/
theorem cells_at {L : Loc} {R : Heap} (hI : Inv M H w) (hL : ∀ p ∈ lheap lm L, p ∈ H) (hR : ∀ p ∈ R, p ∈ H) {a : T} {u : Value} (ha : repX M lm a u) {f : List AV → Rs} {t : T} (h : (readR L R a f).run (fun x => x = t)) :
    ∃ b off cs vs, u = .pointer (some ⟨b, off, none⟩) ∧ repC M cs vs ∧ (∀ j c, vs[j]? = some c → w.cell? ⟨b, off + j, none⟩ = some c) ∧ (f cs).run (fun x => x = t) := by
  have obj : ∀ {b : Nat} {cs : List AV} (off : Nat), (b, AObj.cells cs) ∈ H → ∃ vs, repC M (cs.drop off) vs ∧ ∀ j c, vs[j]? = some c → w.cell? ⟨b, off + j, none⟩ = some c := by
    intro b cs off hb
    obtain ⟨_, vs, T, h1, h2⟩ := hI.obj _ _ hb
    refine ⟨vs.drop off, h2.drop off, fun j c hj => ?_⟩
    simp only [World.cell?, h1]
    simpa [List.getElem?_drop] using hj
  unfold readR at h
  split at h
  · rename_i k off
    split at h
    · rename_i cs hk
      have hin : (lm k, AObj.cells cs) ∈ H := hL _ (List.mem_map.2 ⟨(k, cs), get_mem hk, rfl⟩)
      obtain ⟨vs, h1, h2⟩ := obj off hin
      exact ⟨lm k, off, _, vs, ha, h1, h2, h⟩
    · exact h.elim
  · rename_i cs
    simp only [repX, rep] at ha
    obtain ⟨b, off, rfl, ha⟩ := ha
    obtain ⟨vs, h1, h2⟩ := ha.vals
    exact ⟨b, off, cs, vs, rfl, h1, fun j c hj => hI.mem _ _ _ (h2 j c hj), h⟩
  · rename_i b off
    obtain ⟨cs, hb, h⟩ := h
    simp only [repX, rep] at ha
    obtain ⟨vs, h1, h2⟩ := obj off (hR _ hb)
    exact ⟨b, off, _, vs, ha, h1, h2, h⟩
  · exact h.elim
where get_mem : ∀ {L : Loc} {k : Nat} {cs : List AV}, L.get k = some cs → (k, cs) ∈ L
  | [], k, cs, h => by cases h
  | (j, x) :: r, k, cs, h => by
    simp only [Loc.get] at h
    cases hj : Nat.beq j k with
    | true => rw [hj] at h; cases h; rw [← beq_true hj]; simp
    | false => rw [hj] at h; exact List.mem_cons_of_mem _ (get_mem h)

/-- a part of cells that can be loaded -/
theorem load_part (hP : TabOk P tab) {ty : TypeId} {b off : Nat} {cs : List AV} {vs : List Value} {t : T} (hc : repC M cs vs) (hv : ∀ j c, vs[j]? = some c → w.cell? ⟨b, off + j, none⟩ = some c) (h : (partR tab ty cs).run (fun x => x = t)) :
    ∃ u, (loadVar ty ⟨b, off, none⟩).run P w = .ok u w ∧ repX M lm t u := by
  unfold partR at h
  split at h
  · rename_i i hi
    have ok := hP.get hi
    cases hag : i.kind.agg with
    | true =>
      rw [hag] at h
      cases hsz : Nat.ble i.size cs.length with
      | true =>
        rw [hsz] at h
        have hle := Nat.le_of_ble_eq_true hsz
        obtain rfl : T.g (.agg (cs.take i.size)) = t := h
        have hl : (vs.take i.size).length = i.size := by rw [List.length_take, hc.length]; omega
        refine ⟨.agg (vs.take i.size).toArray, ?_, ?_⟩
        · unfold loadVar
          rw [Sem.run_bind, ok.agg, hag, Result.andThen_ok]
          simp only [if_true, Sem.run_bind, ok.sizeOf, Result.andThen_ok]
          have := run_loadCells_list (P := P) (w := w) ⟨b, off, none⟩ (vs.take i.size) fun j c hj => by
            rw [Addr.add_lit]
            rw [List.getElem?_take] at hj
            split at hj
            · exact hv j c hj
            · cases hj
          rw [hl] at this
          rw [this]
          rfl
        · show rep M _ _
          simp only [rep]
          exact ⟨vs.take i.size, rfl, hc.take _⟩
      | false => rw [hsz] at h; exact h.elim
    | false =>
      rw [hag] at h
      simp only [cond_false] at h
      split at h
      · rename_i c cs'
        obtain rfl : T.g c = t := h
        simp only [repC] at hc
        obtain ⟨d, ds, rfl, ⟨h1, h2⟩, _⟩ := hc
        refine ⟨d, ?_, h2⟩
        unfold loadVar
        rw [Sem.run_bind, ok.agg, hag, Result.andThen_ok]
        have := hv 0 d (by simp)
        rw [Nat.add_zero] at this
        simp [this]
      · exact h.elim
  · exact h.elim
end
end Go.Proofs.YtahdkhklngjmoaaGreatDoor

/-
  The abstract machine: operators on pure values. No condition.
-/
namespace Go.Proofs.YtahdkhklngjmoaaGreatDoor
open Go.RowKit

section
variable {P : Program} {tab : Tab} {lm : Nat → Nat} {M : Mem}

theorem wrap64 {n : Int} (h : in64 n) : IntKind.i64.wrap n = n := by
  unfold in64 at h
  unfold IntKind.wrap IntKind.bits IntKind.signed
  simp only [Bool.true_and, ge_iff_le, decide_eq_true_eq]
  split <;> omega
theorem wrapR_run {k : IntKind} {n : Int} {r : T} (h : (wrapR k n).run (fun x => x = r)) : r = .g (.v (.int k (k.wrap n))) := by
  cases k <;> first | exact h.symm | (obtain ⟨h1, h2⟩ := h; rw [wrap64 h1]; exact h2.symm)

/-- what yields the same in every world -/
def Pure' (P : Program) (lm : Nat → Nat) (M : Mem) (s : Sem Value) (t : T) : Prop := ∃ u, (∀ w, s.run P w = .ok u w) ∧ repX M lm t u

theorem Pure'.of {s : Sem Value} {t : T} (u : Value) (h : ∀ w, s.run P w = .ok u w) (ht : repX M lm t u) : Pure' P lm M s t := ⟨u, h, ht⟩
theorem Pure'.wrap {s : Sem Value} {k : IntKind} {n : Int} {t : T} (h : (wrapR k n).run (fun x => x = t)) (hs : ∀ w, s.run P w = .ok (.int k (k.wrap n)) w) : Pure' P lm M s t := by
  rw [wrapR_run h]
  exact ⟨_, hs, show rep M _ _ from rep_int⟩
theorem Pure'.int {s : Sem Value} {k : IntKind} {n : Int} {t : T} (h : (rv (.v (.int k n))).run (fun x => x = t)) (hs : ∀ w, s.run P w = .ok (.int k n) w) : Pure' P lm M s t := by
  obtain rfl : T.g _ = t := h
  exact ⟨_, hs, show rep M _ _ from rep_int⟩
theorem Pure'.bool {s : Sem Value} {q : Bool} {t : T} (h : (cmpR q).run (fun x => x = t)) (hs : ∀ w, s.run P w = .ok (.bool q) w) : Pure' P lm M s t := by
  have h' : T.g (.b q) = t := by cases q <;> exact h
  subst h'
  exact ⟨_, hs, show rep M _ _ from rep_b⟩
theorem Pure'.nbool {s : Sem Value} {q : Bool} {t : T} (h : (ncmpR q).run (fun x => x = t)) (hs : ∀ w, s.run P w = .ok (.bool (!q)) w) : Pure' P lm M s t := by
  have h' : T.g (.b (!q)) = t := by cases q <;> exact h
  subst h'
  exact ⟨_, hs, show rep M _ _ from rep_b⟩

theorem int_beq (x y : Int) : (x == y) = decide (x = y) := by by_cases h : x = y <;> simp [h]
theorem ints_sound {op : BinOp} {t : TypeId} {k : IntKind} {x y : Int} {r : T} (h : (intR op k x y).run (fun x => x = r)) : Pure' P lm M (binOp op t (.int k x) (.int k y)) r := by
  cases op <;> simp only [intR] at h
  case add => exact .wrap h fun w => by simp [binOp, Op.intArith]
  case sub => exact .wrap h fun w => by simp [binOp, Op.intArith]
  case mul => exact .wrap h fun w => by simp [binOp, Op.intArith]
  case quo => exact .wrap h.2 fun w => by simp [binOp, Op.intDiv, h.1]
  case rem => exact .int h.2 fun w => by simp [binOp, Op.intDiv, h.1]
  case and => exact .int h fun w => by simp [binOp, Op.intBits]
  case or => exact .int h fun w => by simp [binOp, Op.intBits]
  case xor => exact .int h fun w => by simp [binOp, Op.intBits]
  case eql => exact .bool h fun w => by simp [binOp, Op.intCmp, int_beq]
  case neq => exact .nbool h fun w => by simp [binOp, Op.intCmp, bne, int_beq]
  case lss => exact .bool h fun w => by simp [binOp, Op.intCmp]
  case leq => exact .bool h fun w => by simp [binOp, Op.intCmp]
  case gtr => exact .bool h fun w => by simp [binOp, Op.intCmp]
  case geq => exact .bool h fun w => by simp [binOp, Op.intCmp]
  all_goals exact h.elim
theorem intw_sound {op : BinOp} {t : TypeId} {k : IntKind} {x y : Int} {r : T} (h : (intwR op k x y).run (fun x => x = r)) : Pure' P lm M (binOp op t (.int k x) (.int k y)) r := by
  cases op <;> simp only [intwR] at h
  case add => exact .int h fun w => by simp [binOp, Op.intArith]
  all_goals exact h.elim
theorem shift_sound {op : BinOp} {t : TypeId} {k k' : IntKind} {x y : Int} {r : T} (h : (shiftR op k x y).run (fun x => x = r)) : Pure' P lm M (binOp op t (.int k x) (.int k' y)) r := by
  cases op <;> simp only [shiftR] at h
  case shl =>
    have : ¬ y < 0 := by have := h.1; omega
    exact .wrap h.2 fun w => by simp [binOp, Op.shift, this]
  case shr =>
    have : ¬ y < 0 := by have := h.1; omega
    exact .int h.2 fun w => by simp [binOp, Op.shift, this]
  all_goals exact h.elim
theorem str_sound {op : BinOp} {t : TypeId} {x y : List UInt8} {r : T} (h : (strR op x y).run (fun x => x = r)) : Pure' P lm M (binOp op t (.string ⟨x.toArray⟩) (.string ⟨y.toArray⟩)) r := by
  have e : binOp op t (.string ⟨x.toArray⟩) (.string ⟨y.toArray⟩) = Op.stringOp op ⟨x.toArray⟩ ⟨y.toArray⟩ := by cases op <;> rfl
  rw [e]
  cases op <;> simp only [strR] at h
  case add =>
    obtain ⟨h1, h2⟩ := h
    obtain rfl : T.g _ = r := h2
    refine ⟨.string ⟨(x ++ y).toArray⟩, fun w => ?_, show rep M _ _ from rep_str (by simpa using h1)⟩
    have hs : ∀ l : List UInt8, (ByteArray.mk l.toArray).size = l.length := fun l => by simp [ByteArray.size]
    have ha : (ByteArray.mk x.toArray ++ ByteArray.mk y.toArray) = ByteArray.mk (x ++ y).toArray := by
      apply ByteArray.ext
      simp
    have hb : ¬ (9223372036854775807 : Int) < ((x.length : Int) + (y.length : Int)) := by omega
    simp [Op.stringOp, hs, ha, IntKind.max, IntKind.signed, IntKind.bits, hb]
  case eql => exact .bool h fun w => by simp [Op.stringOp, Bool.beq_eq_decide_eq]
  case neq => exact .nbool h fun w => by simp [Op.stringOp, Bool.beq_eq_decide_eq]
  case lss => exact .bool h fun w => by simp [Op.stringOp]
  case leq => exact .bool h fun w => by simp [Op.stringOp, Bool.beq_eq_decide_eq]
  case gtr => exact .nbool h fun w => by simp [Op.stringOp, Bool.beq_eq_decide_eq]
  case geq => exact .nbool h fun w => by simp [Op.stringOp]
  all_goals exact h.elim
theorem nil_sound {op : BinOp} {t : TypeId} {a b : Value} {q : Bool} {r : T} (h : (nilR op q).run (fun x => x = r)) (he : ∀ w, (Op.equal t a b).run P w = .ok q w) (hb : binOp .eql t a b = (do pure (.bool (← Op.equal t a b))) ∧ binOp .neq t a b = (do pure (.bool (!(← Op.equal t a b))))) : Pure' P lm M (binOp op t a b) r := by
  cases op <;> simp only [nilR] at h
  case eql => exact .bool h fun w => by rw [hb.1]; simp [he]
  case neq => exact .nbool h fun w => by rw [hb.2]; simp [he]
  all_goals exact h.elim

theorem und_pp {t e : TypeId} (h : P.underlying t = some (.pointer e)) : P.underlying t = some (.pointer (P.pointee t)) := by simp [Program.pointee, h]
theorem guard_pure (op : BinOp) (t : TypeId) (x y : Operand) (a b : Value) (h : (∀ xs ys, a = .agg xs → b = .agg ys → False) ∧ (a = .nilIface → False)) (w : World) : (eqGuard op t x y a b).run P w = .ok () w := by
  cases op
  case eql => cases a <;> cases b <;> first | rfl | (exact (h.2 rfl).elim) | (exact (h.1 _ _ rfl rfl).elim)
  case neq => cases a <;> cases b <;> first | rfl | (exact (h.2 rfl).elim) | (exact (h.1 _ _ rfl rfl).elim)
  all_goals rfl

theorem guard_nils {P : Program} (op : BinOp) (t : TypeId) (x y : Operand) (h : P.underlying t = some (.interface #[])) (w : World) : (eqGuard op t x y .nilIface .nilIface).run P w = .ok () w := by
  have key : (do if ← Op.eqGuardIn Op.maxDepth t .nilIface .nilIface then (unsupported (.noEntry "binop/eql: two nil values of an interface type with methods, neither of them the literal nil") : Sem Unit)).run P w = .ok () w := by
    rw [Sem.run_bind]
    show Result.andThen ((Op.eqGuardIn (9999 + 1) t .nilIface .nilIface).run P w) _ = _
    unfold Op.eqGuardIn
    rw [Sem.run_bind, run_underlying h]
    rfl
  cases op <;> cases x <;> cases y <;> first | rfl | exact key

/-! arrays of ints -/
theorem intsOf_rep : ∀ {xs : List AV} {cs : List Value} {l : List Int}, repC M xs cs → intsOf xs = some l → cs = l.map fun x => Value.int .i64 x
  | [], cs, l, h, k => by simp only [repC] at h; simp only [intsOf, Option.some.injEq] at k; subst h; subst k; rfl
  | x :: xs, cs, l, h, k => by
    simp only [repC] at h
    obtain ⟨c, cs', rfl, ⟨_, h1⟩, h2⟩ := h
    unfold intsOf at k
    split at k
    · simp_all
    · rename_i y r heq
      cases heq
      split at k
      · rename_i l' hl
        cases k
        simp only [rep] at h1
        rw [h1.1, intsOf_rep h2 hl]; rfl
      · cases k
    · cases k
theorem run_eqItems_int {e : TypeId} (he : P.underlying e = some (.int .i64)) (hs : P.cellsOf e = 1) (d : Nat) (l r : List Int) (w : World) : ∀ (m k : Nat), k + m = l.length → k + m = r.length →
    (Op.eqItems (d + 1) e (P.cellsOf e) (l.map fun x => Value.int .i64 x).toArray (r.map fun x => Value.int .i64 x).toArray (List.range' k m)).run P w = .ok (decide (l.drop k = r.drop k)) w
  | 0, k, h1, h2 => by
    rw [List.drop_eq_nil_of_le (by omega), List.drop_eq_nil_of_le (by omega)]
    simp [Op.eqItems]
  | m + 1, k, h1, h2 => by
    have hk1 : k < l.length := by omega
    have hk2 : k < r.length := by omega
    have hp : P.plainKey e = true := by simp [Program.plainKey, he]
    have p1 := run_part_plain (P := P) (w := w) hp (xs := (l.map fun x => Value.int .i64 x).toArray) (off := k) (v := .int .i64 l[k]) (by simp [hk1])
    have p2 := run_part_plain (P := P) (w := w) hp (xs := (r.map fun x => Value.int .i64 x).toArray) (off := k) (v := .int .i64 r[k]) (by simp [hk2])
    have p3 := run_equalIn_int (P := P) w d e .i64 .i64 l[k] r[k] he
    have ih := run_eqItems_int he hs d l r w m (k + 1) (by omega) (by omega)
    rw [hs] at ih ⊢
    have e1 : l.drop k = l[k] :: l.drop (k + 1) := List.drop_eq_getElem_cons hk1
    have e2 : r.drop k = r[k] :: r.drop (k + 1) := List.drop_eq_getElem_cons hk2
    rw [List.range'_succ]
    simp only [Op.eqItems, Nat.mul_one, Sem.run_bind, p1, p2, p3, Result.andThen_ok]
    by_cases hq : l[k] = r[k]
    · rw [beq_iff_eq.2 hq]
      simp only [Bool.not_true, Bool.false_eq_true, if_false, ih]
      congr 1
      rw [decide_eq_decide, e1, e2, hq]
      exact ⟨fun h => by rw [h], fun h => (List.cons.inj h).2⟩
    · rw [beq_eq_false_iff_ne.2 hq]
      have : decide (l.drop k = r.drop k) = false := by rw [decide_eq_false_iff_not, e1, e2]; exact fun h => hq (List.cons.inj h).1
      rw [this]
      simp
theorem eqType_int {t e : TypeId} {n : Nat} (ht : P.underlying t = some (.array n e)) (he : P.underlying e = some (.int .i64)) : P.eqGuardType P.depth t = false := by
  have : P.depth = 2 * (P.types.size + Made.depth) + 1 + 1 := rfl
  rw [this]
  simp only [Program.eqGuardType, ht, he]
theorem agg_equal {t e : TypeId} {n : Nat} (ht : P.underlying t = some (.array n e)) (he : P.underlying e = some (.int .i64)) (hs : P.cellsOf e = 1) {i : TypeInfo} (hi : P.info? e = some i) (l r : List Int) (h1 : l.length = n) (h2 : r.length = n) (w : World) :
    (Op.equal t (.agg (l.map fun x => Value.int .i64 x).toArray) (.agg (r.map fun x => Value.int .i64 x).toArray)).run P w = .ok (decide (l = r)) w := by
  show (Op.equalIn (9998 + 1 + 1) t _ _).run P w = _
  rw [run_equalIn_array w (9998 + 1) _ _ ht hi, List.range_eq_range', run_eqItems_int he hs 9998 l r w n 0 (by omega) (by omega)]
  rfl

theorem und_iface_at (hP : TabOk P tab) {t : TypeId} (h : tab.kind t = .iface) : P.underlying t = some (.interface (P.methodsAt t)) := by
  have hu := und_iface hP h
  rw [hu]
  unfold Program.methodsAt
  rw [hu]
theorem bin_sound (hP : TabOk P tab) {op : BinOp} {t : TypeId} {x y : Operand} {a b : AV} {ua ub : Value} (ha : rep M a ua) (hb : rep M b ub) {r : T} (h : (binR tab op t a b).run (fun x => x = r)) : Pure' P lm M (do eqGuard op t x y ua ub; binOp op t ua ub) r := by
  have key : ((∀ xs ys, ua = .agg xs → ub = .agg ys → False) ∧ (ua = .nilIface → False)) → Pure' P lm M (binOp op t ua ub) r → Pure' P lm M (do eqGuard op t x y ua ub; binOp op t ua ub) r := by
    rintro hg ⟨u, h1, h2⟩
    exact ⟨u, fun w => by rw [Sem.run_bind, guard_pure op t x y ua ub hg, Result.andThen_ok, h1], h2⟩
  unfold binR at h
  split at h
  · rename_i k x k' y
    simp only [rep] at ha hb
    obtain ⟨rfl, _⟩ := ha
    obtain ⟨rfl, _⟩ := hb
    refine key ⟨by simp, by simp⟩ ?_
    cases hs : isShift op with
    | true => rw [hs] at h; exact shift_sound h
    | false =>
      rw [hs] at h
      by_cases hk : k = k'
      · subst hk
        simp only [decide_true, cond_true, cond_false] at h
        split at h
        · exact intw_sound h
        · exact ints_sound h
      · simp only [hk, decide_false, cond_false] at h; exact h.elim
  · simp only [rep] at ha hb
    obtain ⟨rfl, _⟩ := ha
    obtain ⟨rfl, _⟩ := hb
    exact key ⟨by simp, by simp⟩ (str_sound h)
  · simp only [rep] at ha hb
    obtain ⟨rfl, _⟩ := ha
    obtain ⟨rfl, _⟩ := hb
    refine key ⟨by simp, by simp⟩ ?_
    split at h
    · rename_i hk
      exact nil_sound h (fun w => run_equal_bool w t _ _ (und_bool hP hk)) ⟨rfl, rfl⟩
    · exact h.elim
  · simp only [rep] at ha hb
    obtain ⟨b', off, rfl, _⟩ := ha
    obtain ⟨rfl, _⟩ := hb
    refine key ⟨by simp, by simp⟩ ?_
    split at h
    · rename_i e hk
      have hu := und_pointer hP hk
      exact nil_sound h (fun w => run_equal_pointer_nil w t _ (und_pp hu)) ⟨rfl, rfl⟩
    · exact h.elim
  · simp only [rep] at ha hb
    subst ha
    obtain ⟨rfl, _⟩ := hb
    refine key ⟨by simp, by simp⟩ ?_
    split at h
    · rename_i e hk
      have hu := und_pointer hP hk
      exact nil_sound h (fun w => run_equal_pointer_nil w t _ (und_pp hu)) ⟨rfl, rfl⟩
    · exact h.elim
  · simp only [rep] at ha hb
    obtain ⟨rfl, _⟩ := ha
    obtain ⟨rfl, _⟩ := hb
    refine key ⟨by simp, by simp⟩ ?_
    split at h
    · rename_i e hk
      have hu := und_pointer hP hk
      exact nil_sound h (fun w => run_equal_pointer_nil w t _ (und_pp hu)) ⟨rfl, rfl⟩
    · exact h.elim
  · simp only [rep] at ha hb
    obtain ⟨rfl, _⟩ := ha
    obtain ⟨rfl, _⟩ := hb
    refine key ⟨by simp, by simp⟩ ?_
    split at h
    · rename_i hk
      exact nil_sound h (fun w => run_equal_held_nil w t _ _ (und_iface_at hP hk)) ⟨rfl, rfl⟩
    · exact h.elim
  · simp only [rep] at ha hb
    obtain ⟨rfl, _⟩ := ha
    obtain ⟨rfl, _⟩ := hb
    split at h
    · rename_i hk
      have hu := und_iface hP hk
      obtain ⟨u, h1, h2⟩ := nil_sound h (fun w => run_equal_nil_nil w t (und_iface_at hP hk)) ⟨rfl, rfl⟩
      exact ⟨u, fun w => by rw [Sem.run_bind, guard_nils op t x y hu, Result.andThen_ok, h1], h2⟩
    · exact h.elim
  · rename_i xs ys
    simp only [rep] at ha hb
    obtain ⟨cs, rfl, ha⟩ := ha
    obtain ⟨ds, rfl, hb⟩ := hb
    split at h
    · rename_i n e hk
      split at h
      · rename_i ie l r hk1 hie hl hr
        cases hq : (Nat.beq ie.size 1 && (Nat.beq l.length n && Nat.beq r.length n)) with
        | false => rw [hq] at h; exact h.elim
        | true =>
          rw [hq] at h
          simp only [Bool.and_eq_true] at hq
          have b1 := beq_true hq.1
          have b2 := beq_true hq.2.1
          have b3 := beq_true hq.2.2
          have hu := und_array hP hk
          have he := und_int hP hk1
          obtain ⟨f, i1, i2, _⟩ := (hP.get hie).info
          have hs : P.cellsOf e = 1 := by simp [Program.cellsOf, i1, i2, b1]
          rw [intsOf_rep ha hl, intsOf_rep hb hr]
          obtain ⟨u, g1, g2⟩ := nil_sound (P := P) (lm := lm) (M := M) (t := t) h (fun w => agg_equal hu he hs i1 l r b2 b3 w) ⟨rfl, rfl⟩
          exact ⟨u, fun w => by rw [Sem.run_bind, run_eqGuard_agg w op t x y _ _ (eqType_int hu he), Result.andThen_ok, g1], g2⟩
      · exact h.elim
    · exact h.elim
  · exact h.elim
end
end Go.Proofs.YtahdkhklngjmoaaGreatDoor

/-
  The abstract machine: cuts, parts of structs, literals. No condition.
-/
namespace Go.Proofs.YtahdkhklngjmoaaGreatDoor
open Go.RowKit

section
variable {P : Program} {tab : Tab} {lm : Nat → Nat} {M : Mem}

/-- a bound as it stands -/
def Bnd (x : Option Value) (d n : Nat) : Prop := (x = none ∧ n = d) ∨ ∃ k : IntKind, x = some (.int k (n : Int))

theorem natR_run {x : AV} {u : Value} (hx : rep M x u) {f : Nat → Rs} {t : T} (h : (natR x f).run (fun x => x = t)) : ∃ (k : IntKind) (n : Nat), u = .int k (n : Int) ∧ (f n).run (fun x => x = t) := by
  unfold natR at h
  split at h
  · rename_i k i
    obtain ⟨n, rfl, h⟩ := h
    simp only [rep] at hx
    exact ⟨k, n, hx.1, h⟩
  · exact h.elim
theorem atG_run {a : T} {f : AV → Rs} {t : T} (h : (atG a f).run (fun x => x = t)) : ∃ x, a = .g x ∧ (f x).run (fun x => x = t) := by
  unfold atG at h
  split at h
  · exact ⟨_, rfl, h⟩
  · exact h.elim
theorem cutR_run {e : Env} {a : Act} (he : ∀ x, repX M lm (e.ev x) (a.eval x)) {n : Nat} {lo hi : Option Operand} {f : Nat → Nat → Rs} {t : T} (h : (cutR e.ev n lo hi f).run (fun x => x = t)) :
    ∃ l hh : Nat, Bnd (lo.map a.eval) 0 l ∧ Bnd (hi.map a.eval) n hh ∧ l ≤ hh ∧ hh ≤ n ∧ (f l hh).run (fun x => x = t) := by
  have key : ∀ l : Nat, (hiR e.ev n hi f l).run (fun x => x = t) → ∃ hh : Nat, Bnd (hi.map a.eval) n hh ∧ l ≤ hh ∧ hh ≤ n ∧ (f l hh).run (fun x => x = t) := by
    intro l h
    unfold hiR at h
    cases hi with
    | none => exact ⟨n, Or.inl ⟨rfl, rfl⟩, h.1, Nat.le_refl _, h.2⟩
    | some y =>
      obtain ⟨x, hx, h⟩ := atG_run h
      have hy := he y
      rw [hx] at hy
      obtain ⟨k, m, hu, h⟩ := natR_run hy h
      exact ⟨m, Or.inr ⟨k, by simp [hu]⟩, h.1.1, h.1.2, h.2⟩
  unfold cutR at h
  cases lo with
  | none =>
    obtain ⟨hh, h⟩ := key 0 h
    exact ⟨0, hh, Or.inl ⟨rfl, rfl⟩, h⟩
  | some y =>
    obtain ⟨x, hx, h⟩ := atG_run h
    have hy := he y
    rw [hx] at hy
    obtain ⟨k, l, hu, h⟩ := natR_run hy h
    obtain ⟨hh, h⟩ := key l h
    exact ⟨l, hh, Or.inr ⟨k, by simp [hu]⟩, h⟩

theorem run_bounds {w : World} {sl : Bool} {len cap l h m : Nat} {lo hi mx : Option Value} (hlo : Bnd lo 0 l) (hhi : Bnd hi len h) (hmx : Bnd mx cap m) (h1 : l ≤ h) (h2 : h ≤ m) (h3 : m ≤ cap) (h4 : mx.isSome = true → hi.isSome = true) :
    (Instr.sliceBounds sl len cap lo hi mx).run P w = .ok (l, h, m) w := by
  have sb : ∀ (k : IntKind) (i y : Nat) (c : BoundsCode), i ≤ y → (Instr.sliceBound (.int k (i : Int)) y c).run P w = .ok i w := fun k i y c hi => by
    rw [run_sliceBound w k i y c (by omega) (by omega)]; simp
  unfold Instr.sliceBounds
  rcases hmx with ⟨rfl, rfl⟩ | ⟨km, rfl⟩
  · rcases hhi with ⟨rfl, rfl⟩ | ⟨kh, rfl⟩
    · rcases hlo with ⟨rfl, rfl⟩ | ⟨kl, rfl⟩
      · rfl
      · simp [sb _ _ _ _ h1]
    · rcases hlo with ⟨rfl, rfl⟩ | ⟨kl, rfl⟩
      · simp [sb _ _ _ _ h2]
      · simp [sb _ _ _ _ h2, sb _ _ _ _ h1]
  · rcases hhi with ⟨rfl, rfl⟩ | ⟨kh, rfl⟩
    · simp at h4
    · rcases hlo with ⟨rfl, rfl⟩ | ⟨kl, rfl⟩
      · simp [sb _ _ _ _ h2, sb _ _ _ _ h3]
      · simp [sb _ _ _ _ h2, sb _ _ _ _ h1, sb _ _ _ _ h3]

/-! structs -/
theorem mapM_get {α β : Type} {g : α → Option β} : ∀ {l : List α} {r : List β}, l.mapM g = some r → ∀ {k : Nat} {y : β}, r[k]? = some y → ∃ x, l[k]? = some x ∧ g x = some y
  | [], r, h, k, y, hy => by simp at h; subst h; simp at hy
  | x :: l, r, h, k, y, hy => by
    simp only [List.mapM_cons, Option.bind_eq_bind, Option.pure_def] at h
    cases hg : g x with
    | none => simp [hg] at h
    | some z =>
      cases hr : l.mapM g with
      | none => simp [hg, hr] at h
      | some rest =>
        simp [hg, hr] at h
        subst h
        cases k with
        | zero => simp at hy; subst hy; exact ⟨x, rfl, hg⟩
        | succ k => simpa using mapM_get hr (by simpa using hy)
theorem mapM_map {α β γ : Type} {g : α → Option β} (q : β → γ) : ∀ {l : List α} {r : List β}, l.mapM g = some r → l.mapM (fun x => (g x).map q) = some (r.map q)
  | [], r, h => by simp at h; subst h; simp
  | x :: l, r, h => by
    simp only [List.mapM_cons, Option.bind_eq_bind, Option.pure_def] at h ⊢
    cases hg : g x with
    | none => simp [hg] at h
    | some z =>
      cases hr : l.mapM g with
      | none => simp [hg, hr] at h
      | some rest =>
        simp [hg, hr] at h
        subst h
        simp [mapM_map q hr]

theorem put_cells : ∀ (vs : List Value) (k : Nat) (cs : Array Value) (off : Nat), off + k + vs.length ≤ cs.size →
    ((vs.zipIdx k).foldl (fun (cs : Array Value) (p : Value × Nat) => cs.setIfInBounds (off + p.2) p.1) cs).toList = cs.toList.take (off + k) ++ vs ++ cs.toList.drop (off + k + vs.length)
  | [], k, cs, off, _ => by simp
  | v :: vs, k, cs, off, h => by
    simp only [List.length_cons] at h
    rw [List.zipIdx_cons, List.foldl_cons, put_cells vs (k + 1) _ off (by simp; omega)]
    simp only [Array.toList_setIfInBounds, List.length_cons]
    have e1 : (cs.toList.set (off + k) v).take (off + (k + 1)) = cs.toList.take (off + k) ++ [v] := by
      rw [show off + (k + 1) = off + k + 1 by omega, List.take_succ_eq_append_getElem (by simp; omega)]
      rw [List.take_set_of_le (Nat.le_refl _)]
      simp
    have e2 : (cs.toList.set (off + k) v).drop (off + (k + 1) + vs.length) = cs.toList.drop (off + k + (vs.length + 1)) := by
      rw [List.drop_set_of_lt (by omega)]
      congr 1
      omega
    rw [e1, e2]
    simp

theorem noTup_ne {x : AV} (h : noTup x = true) : ∀ xs, x ≠ .tup xs := by rintro xs rfl; cases h
theorem fillA_sound {e : Env} {a : Act} (he : ∀ x, repX M lm (e.ev x) (a.eval x)) {fs : List (Nat × Nat × TypeId)} : ∀ {parts : List (Nat × Operand)} {xs ys : List AV} {cs : Array Value}, repC M xs cs.toList → fillA e.ev fs parts xs = some ys →
    ∃ ds, Instr.fill ((fs.map fun f => (f.1, f.2.1)).toArray[·]?) cs (parts.map fun p => (p.1, a.eval p.2)) = some ds ∧ repC M ys ds.toList
  | [], xs, ys, cs, h, hf => by cases hf; exact ⟨cs, rfl, h⟩
  | (i, x) :: r, xs, ys, cs, h, hf => by
    simp only [fillA] at hf
    split at hf
    · rename_i off size ty av hfi hx
      have hev := he x
      rw [hx] at hev
      cases hb : (noTup av && Nat.beq av.cells.length size && Nat.ble (off + size) xs.length) with
      | false => rw [hb] at hf; cases hf
      | true =>
        rw [hb] at hf
        simp only [Bool.and_eq_true] at hb
        have hcl := rep.cells hev (noTup_ne hb.1.1)
        have hlen := hcl.length
        have h1 := beq_true hb.1.2
        have h2 := Nat.le_of_ble_eq_true hb.2
        have h3 := h.length
        have hs1 : (a.eval x).cells.size = size := by rw [← h1, ← hlen, Array.length_toList]
        have hs2 : cs.size = xs.length := by rw [← h3, Array.length_toList]
        have hp := put_cells (a.eval x).cells.toList 0 cs off (by rw [Array.length_toList]; omega)
        rw [Array.length_toList] at hp
        obtain ⟨ds, k1, k2⟩ := fillA_sound he (cs := ((a.eval x).cells.zipIdx.foldl (fun (cs : Array Value) (p : Value × Nat) => cs.setIfInBounds (off + p.2) p.1) cs)) (xs := putCells xs off av.cells) (by
          rw [← Array.foldl_toList, Array.toList_zipIdx, hp]
          unfold putCells
          rw [Nat.add_zero]
          refine repC.append (repC.append (h.take _) hcl) ?_
          rw [show off + (a.eval x).cells.size = off + av.cells.length by omega]
          exact h.drop _) hf
        refine ⟨ds, ?_, k2⟩
        simp only [List.map_cons, Instr.fill]
        have hpl : (fs.map fun f => (f.1, f.2.1)).toArray[i]? = some (off, size) := by simp [hfi]
        simp only [hpl]
        rw [if_neg (by simp only [Bool.or_eq_true, decide_eq_true_eq]; omega)]
        exact k1
    · cases hf
end
end Go.Proofs.YtahdkhklngjmoaaGreatDoor

/-
  The abstract machine: what each operation that leaves what may turn as it is yields in memory. No condition.
-/
namespace Go.Proofs.YtahdkhklngjmoaaGreatDoor
open Go.RowKit

section
variable {P : Program} {tab : Tab} {lm : Nat → Nat} {H : Heap} {M : Mem} {w : World} {L : Loc} {R : Heap} {e : Env} {a : Act}

theorem Yields.of_pure (hI : Inv M H w) {s : Sem Value} {t : T} (h : Pure' P lm M s t) : Yields P lm H M w (do pure (.value (← s))) t := by
  obtain ⟨u, h1, h2⟩ := h
  exact .same hI (by rw [Sem.run_bind, h1, Result.andThen_ok]; rfl) h2
theorem Yields.of_val (hI : Inv M H w) {s : Sem Value} {t : T} {u : Value} (h1 : s.run P w = .ok u w) (h2 : repX M lm t u) : Yields P lm H M w (do pure (.value (← s))) t :=
  .same hI (by rw [Sem.run_bind, h1, Result.andThen_ok]; rfl) h2

theorem argsA_rep {ρ : Operand → T} {ev : Operand → Value} (he : ∀ x, repX M lm (ρ x) (ev x)) : ∀ {l : List Operand} {xs : List AV}, argsA (l.map ρ) = some xs → repT M xs (l.map ev)
  | [], xs, h => by cases h; simp only [List.map_nil, repT]
  | x :: l, xs, h => by
    have hx := he x
    simp only [List.map_cons] at h
    cases hr : ρ x with
    | g y =>
      rw [hr] at h hx
      simp only [argsA] at h
      cases hs : argsA (l.map ρ) with
      | none => rw [hs] at h; cases h
      | some ys =>
        rw [hs] at h
        cases h
        simp only [List.map_cons, repT]
        exact ⟨_, _, rfl, hx, argsA_rep he hs⟩
    | lp k off => rw [hr] at h; cases h
    | undef => rw [hr] at h; cases h
    | junk => rw [hr] at h; cases h

theorem isAddr_rep {t : T} {u : Value} (h : isAddr t = true) (ht : repX M lm t u) : ∃ b off, u = .pointer (some ⟨b, off, none⟩) := by
  unfold isAddr at h
  split at h
  · exact ⟨_, _, ht⟩
  · simp only [repX, rep] at ht; obtain ⟨b, off, h, _⟩ := ht; exact ⟨b, off, h⟩
  · simp only [repX, rep] at ht; exact ⟨_, _, ht⟩
  · cases h
theorem shift_rep {t : T} {b off : Nat} (n : Nat) (h : isAddr t = true) (ht : repX M lm t (.pointer (some ⟨b, off, none⟩))) : repX M lm (shiftT t n) (.pointer (some ⟨b, off + n, none⟩)) := by
  unfold isAddr at h
  split at h
  · simp only [repX] at ht
    cases ht
    rfl
  · simp only [repX, rep] at ht
    obtain ⟨b', off', h1, h2⟩ := ht
    cases h1
    simp only [shiftT, repX, rep]
    exact ⟨b, off + n, rfl, h2.drop' n⟩
  · simp only [repX, rep] at ht
    cases ht
    simp only [shiftT, repX, rep]
  · cases h

/-- a part of an aggregate -/
theorem part_agg (hP : TabOk P tab) {ty : TypeId} {cs : List AV} {vs : List Value} (off : Nat) {t : T} (hc : repC M cs vs) (h : (partR tab ty (cs.drop off)).run (fun x => x = t)) : Pure' P lm M (part ty vs.toArray off) t := by
  unfold partR at h
  split at h
  · rename_i i hi
    have ok := hP.get hi
    cases hag : i.kind.agg with
    | true =>
      rw [hag] at h
      cases hsz : Nat.ble i.size (cs.drop off).length with
      | true =>
        rw [hsz] at h
        obtain rfl : T.g (.agg ((cs.drop off).take i.size)) = t := h
        refine ⟨.agg (vs.toArray.extract off (off + i.size)), fun w => ?_, ?_⟩
        · unfold part
          simp only [Sem.run_bind, ok.agg, hag, Result.andThen_ok, if_true, ok.sizeOf]
          rfl
        · show rep M _ _
          simp only [rep]
          refine ⟨(vs.drop off).take i.size, ?_, (hc.drop off).take _⟩
          congr 1
          apply Array.ext'
          simp
      | false => rw [hsz] at h; exact h.elim
    | false =>
      rw [hag] at h
      simp only [cond_false] at h
      split at h
      · rename_i c cs' hcs
        obtain rfl : T.g c = t := h
        have h2 := hc.drop off
        rw [hcs] at h2
        simp only [repC] at h2
        obtain ⟨d, ds, hd, ⟨h3, h4⟩, _⟩ := h2
        refine ⟨d, fun w => ?_, h4⟩
        have hget : vs[off]? = some d := by
          have := congrArg (fun l : List Value => l[0]?) hd
          simpa using this
        unfold part
        simp [Sem.run_bind, ok.agg, hag, hget]
      · exact h.elim
  · exact h.elim

theorem atE_drop {M : Mem} {s : Nat} : ∀ {xs : List AV} {b o : Nat} (n : Nat), atE M xs b o → (∀ y ∈ xs, y.cells.length = s) → n ≤ xs.length → atE M (xs.drop n) b (o + n * s)
  | xs, b, o, 0, h, _, _ => by simpa using h
  | [], b, o, n + 1, h, _, hn => by simp at hn
  | x :: xs, b, o, n + 1, h, hs, hn => by
    have h2 := (atE.cons.1 h).2
    rw [hs x (by simp)] at h2
    have := atE_drop n h2 (fun y hy => hs y (by simp [hy])) (by simpa using hn)
    rw [show o + (n + 1) * s = o + s + n * s by rw [Nat.succ_mul]; omega]
    simpa using this
theorem atE.take' {M : Mem} : ∀ {xs : List AV} {b o : Nat} (_ : atE M xs b o) (n : Nat), atE M (xs.take n) b o
  | xs, b, o, h, 0 => by simp [atE]
  | [], b, o, h, n + 1 => by simp [atE]
  | x :: xs, b, o, h, n + 1 => by
    rw [List.take_succ_cons, atE.cons]
    exact ⟨(atE.cons.1 h).1, atE.take' (atE.cons.1 h).2 n⟩
theorem sl_cut {o o' : Own} {s : Nat} {xs : List AV} {ad : Option Addr} {cap l hh m size : Nat} (hs : s = size ∨ s = 0) (h : rep M (.sl o s xs) (.slice ad xs.length cap)) (h1 : l ≤ hh) (h2 : hh ≤ xs.length) (h3 : hh ≤ m) (h4 : m ≤ cap)
    (ho : ownOk (if m = l then ad else ad.map (·.add (l * size))) (hh - l) (m - l) s o') : rep M (.sl o' s ((xs.drop l).take (hh - l))) (.slice (if m = l then ad else ad.map (·.add (l * size))) (hh - l) (m - l)) := by
  simp only [rep] at h ⊢
  obtain ⟨a', cap', e1, k1, k2, k3, ⟨k4, k5⟩, k6, k7⟩ := h
  simp only [Value.slice.injEq] at e1
  obtain ⟨rfl, _, rfl⟩ := e1
  have hlen : ((xs.drop l).take (hh - l)).length = hh - l := by rw [List.length_take, List.length_drop]; omega
  rw [hlen]
  refine ⟨_, m - l, rfl, by omega, by omega, ?_, ⟨?_, ?_⟩, ho, ?_⟩
  · intro h0
    split at h0
    · omega
    · rw [Option.map_eq_none_iff] at h0; have := k3 h0; omega
  · intro h0; rw [k4 h0]; simp
  · intro y hy; exact k5 y (List.mem_of_mem_drop (List.mem_of_mem_take hy))
  · intro hpos
    obtain ⟨b, off, rfl, hat⟩ := k7 (by omega)
    have hs' : s = size := by
      rcases hs with h | h
      · exact h
      · have := k4 h; rw [this] at h2; simp at h2; omega
    subst hs'
    rw [if_neg (by omega)]
    refine ⟨b, off + l * s, by simp only [Option.map_some, Addr.add_lit], ?_⟩
    exact (atE_drop l hat k5 (by omega)).take' (hh - l)
theorem elemsA_sound {size : Nat} (he : ∀ x, repX M lm (e.ev x) (a.eval x)) : ∀ {parts : List (Nat × Operand)} {k : Nat} {xs : List AV}, elemsA e.ev size parts k = some xs →
    parts.map (fun p => (p.1, a.eval p.2)) = ((parts.map fun p => a.eval p.2).zipIdx k).map (fun x => (x.2, x.1)) ∧ (∀ v ∈ parts.map (fun p => a.eval p.2), v.cells.size = size) ∧ (∀ y ∈ xs, y.cells.length = size) ∧ xs.length = parts.length ∧
      repC M (xs.flatMap AV.cells) ((parts.map fun p => a.eval p.2).flatMap fun v => v.cells.toList)
  | [], k, xs, h => by cases h; exact ⟨rfl, by simp, by simp, rfl, by simp [repC]⟩
  | (i, x) :: r, k, xs, h => by
    simp only [elemsA] at h
    cases hi : Nat.beq i k with
    | false => rw [hi] at h; cases h
    | true =>
      rw [hi] at h
      have hev := he x
      cases hr : e.ev x with
      | g y =>
        rw [hr] at h hev
        simp only [cond_true] at h
        cases hb : (noTup y && Nat.beq y.cells.length size) with
        | false => rw [hb] at h; cases h
        | true =>
          rw [hb] at h
          simp only [Bool.and_eq_true] at hb
          simp only [cond_true] at h
          cases hs : elemsA e.ev size r (k + 1) with
          | none => rw [hs] at h; cases h
          | some ys =>
            rw [hs] at h
            cases h
            obtain ⟨h1, h2, h3, h4, h5⟩ := elemsA_sound he hs
            have hc := rep.cells hev (noTup_ne hb.1)
            have hl := hc.length
            have hw := beq_true hb.2
            refine ⟨?_, ?_, ?_, by simp [h4], ?_⟩
            · simp only [List.map_cons, List.zipIdx_cons, h1, beq_true hi]
            · intro v hv
              simp only [List.map_cons, List.mem_cons] at hv
              rcases hv with rfl | hv
              · rw [← hw, ← hl, Array.length_toList]
              · exact h2 v hv
            · intro z hz
              rcases List.mem_cons.1 hz with rfl | hz
              · exact hw
              · exact h3 z hz
            · simp only [List.map_cons, List.flatMap_cons]
              exact hc.append h5
      | lp k off => rw [hr] at h; cases h
      | undef => rw [hr] at h; cases h
      | junk => rw [hr] at h; cases h
end
end Go.Proofs.YtahdkhklngjmoaaGreatDoor

/-
  The abstract machine: an operation that leaves what may turn as it is yields in memory what it yields on pure values. No condition.
-/
namespace Go.Proofs.YtahdkhklngjmoaaGreatDoor
open Go.RowKit

section
variable {P : Program} {tab : Tab} {lm : Nat → Nat} {H : Heap} {M : Mem} {w : World} {L : Loc} {R : Heap} {e : Env} {a : Act}

theorem bytes_of {l : List UInt8} : ∀ {b o : Nat}, atE M (l.map byteV) b o → ∀ j c, (l.map fun c => Value.int .u8 c.toNat)[j]? = some c → M b (o + j) = some c := by
  induction l with
  | nil => intro b o _ j c hj; simp at hj
  | cons x l ih =>
    intro b o h j c hj
    simp only [List.map_cons, byteV, atE, rep] at h
    obtain ⟨⟨d, h1, h2, rfl, _⟩, h3⟩ := h
    cases j with
    | zero => simp at hj; subst hj; exact h1
    | succ j => have := ih h3 j c (by simpa using hj); rwa [show o + (j + 1) = o + 1 + j by omega]

theorem bytes_str (l : List UInt8) : (l.map fun c => (c.toNat : Int)).foldl (fun (r : ByteArray) n => r.push (UInt8.ofNat n.toNat)) ByteArray.empty = ⟨l.toArray⟩ := by
  have key : ∀ (l : List UInt8) (s : ByteArray), (l.map fun c => (c.toNat : Int)).foldl (fun (r : ByteArray) n => r.push (UInt8.ofNat n.toNat)) s = ⟨s.data ++ l.toArray⟩ := by
    intro l
    induction l with
    | nil => intro s; simp
    | cons x l ih =>
      intro s
      simp only [List.map_cons, List.foldl_cons]
      rw [ih]
      congr 1
      simp [ByteArray.push]
  rw [key]; simp

theorem ares_load (hP : TabOk P tab) (hI : Inv M H w) (hL : ∀ p ∈ lheap lm L, p ∈ H) (hR : ∀ p ∈ R, p ∈ H) {ty : TypeId} {x : T} {u : Value} (hx : repX M lm x u) {t : T} (h : (readR L R x fun cs => partR tab ty cs).run (fun x => x = t)) :
    Yields P lm H M w (do pure (.value (← Instr.loadAt ty u))) t := by
  obtain ⟨b, off, cs, vs, rfl, h1, h2, h3⟩ := cells_at hI hL hR hx h
  obtain ⟨v, h4, h5⟩ := load_part (P := P) (w := w) (lm := lm) hP h1 h2 h3
  refine .of_val hI (u := v) ?_ h5
  unfold Instr.loadAt Instr.sureAddr
  simp only [Sem.run_bind, Sem.run_pure, Result.andThen_ok, h4]

theorem ares_slice (hP : TabOk P tab) (hI : Inv M H w) (he : ∀ x, repX M lm (e.ev x) (a.eval x)) {ty : TypeId} {x : Operand} {lo hi mx : Option Operand} {t : T} (h : (ares tab (.slice ty x lo hi mx) e.ev L R).run (fun x => x = t)) :
    Yields P lm H M w (do pure (.value (← Instr.sliceAt ty (a.eval x) (lo.map a.eval) (hi.map a.eval) (mx.map a.eval)))) t := by
  have hx := he x
  simp only [ares] at h
  split at h
  · rename_i l hk hx'
    rw [hx'] at hx
    simp only [repX, rep] at hx
    split at h
    · obtain ⟨i, j, h1, h2, h3, h4, h⟩ := cutR_run he h
      obtain rfl : T.g _ = t := h
      have hu := und_string hP hk
      have hsz : (ByteArray.mk l.toArray).size = l.length := by simp [ByteArray.size]
      refine .of_val hI (u := .string ⟨((l.drop i).take (j - i)).toArray⟩) ?_ (show rep M _ _ from rep_str (by rw [List.length_take, List.length_drop]; omega))
      rw [hx.1]
      unfold Instr.sliceAt
      simp only [Sem.run_bind, run_underlying hu, Result.andThen_ok, Option.map_none]
      unfold Instr.slice
      simp only [Sem.run_bind, run_underlying hu, Result.andThen_ok, Option.isSome_none, Bool.false_eq_true, if_false]
      rw [run_bounds h1 (by rw [hsz]; exact h2) (Or.inl ⟨rfl, rfl⟩) h3 (by rw [hsz]; exact h4) (Nat.le_refl _) (by simp)]
      simp only [Result.andThen_ok, Sem.run_pure]
      congr 2
      apply ByteArray.ext
      apply Array.ext'
      simp [ByteArray.data_extract]
    · exact h.elim
  · rename_i el o s xs hk hx'
    rw [hx'] at hx
    have hxr : rep M (.sl o s xs) (a.eval x) := hx
    simp only [repX, rep] at hx
    obtain ⟨ad, cap, hv, k1, k2, k3, k4, k5, k6⟩ := hx
    rw [hv] at hxr
    have hu := und_slice hP hk
    split at h
    · rename_i ie hie
      have ok := hP.get hie
      cases hw : wOk s ie.size with
      | false => rw [hw] at h; exact h.elim
      | true =>
        rw [hw] at h
        simp only [cond_true] at h
        have hs : s = ie.size ∨ s = 0 := by
          unfold wOk at hw
          rw [Bool.or_eq_true] at hw
          exact hw.imp beq_true beq_true
        have run : ∀ {i j m : Nat}, Bnd (lo.map a.eval) 0 i → Bnd (hi.map a.eval) xs.length j → Bnd (mx.map a.eval) cap m → i ≤ j → j ≤ m → m ≤ cap → ((mx.map a.eval).isSome = true → (hi.map a.eval).isSome = true) →
            (Instr.sliceAt ty (a.eval x) (lo.map a.eval) (hi.map a.eval) (mx.map a.eval)).run P w = .ok (.slice (if m = i then ad else ad.map (·.add (i * ie.size))) (j - i) (m - i)) w := by
          intro i j m b1 b2 b3 c1 c2 c3 c4
          rw [hv]
          unfold Instr.sliceAt
          simp only [Sem.run_bind, run_underlying hu, Result.andThen_ok]
          unfold Instr.slice
          simp only [Sem.run_bind, run_underlying hu, Result.andThen_ok]
          rw [run_bounds b1 b2 b3 c1 c2 c3 c4]
          simp only [Result.andThen_ok, ok.sizeOf, Sem.run_pure]
        split at h
        · obtain ⟨i, j, h1, h2, h3, h4, h⟩ := cutR_run he h
          obtain rfl : T.g _ = t := h
          refine .of_val hI (run h1 h2 (Or.inl ⟨rfl, rfl⟩) h3 (by omega) (Nat.le_refl _) (by simp)) ?_
          refine sl_cut hs hxr h3 h4 (by omega) (Nat.le_refl _) ?_
          cases lo with
          | some _ => trivial
          | none =>
            cases hi with
            | some _ => trivial
            | none =>
              obtain rfl : i = 0 := by rcases h1 with ⟨_, h⟩ | ⟨k, h⟩; exact h; cases h
              obtain rfl : j = xs.length := by rcases h2 with ⟨_, h⟩ | ⟨k, h⟩; exact h; cases h
              by_cases hc : cap = 0
              · simpa [hc] using k5
              · rw [if_neg hc]
                simp only [Nat.zero_mul, Nat.sub_zero]
                have : ad.map (fun x => x.add 0) = ad := by cases ad <;> rfl
                rw [this]; exact k5
        · rename_i y
          cases hhi : hi.isSome with
          | false => rw [hhi] at h; exact h.elim
          | true =>
            rw [hhi] at h
            simp only [cond_true] at h
            obtain ⟨i, j, h1, h2, h3, h4, h⟩ := cutR_run he h
            obtain ⟨z, hz, h⟩ := atG_run h
            have hy := he y
            rw [hz] at hy
            obtain ⟨k, m, hm, h⟩ := natR_run hy h
            obtain ⟨rfl, h⟩ := h
            obtain rfl : T.g _ = t := h
            refine .of_val hI (run h1 h2 (m := m) (Or.inr ⟨k, by simp [hm]⟩) h3 (Nat.le_refl _) (by omega) (by simp [hhi])) ?_
            exact sl_cut hs hxr h3 h4 (Nat.le_refl _) (by omega) rfl
    · exact h.elim
  · rename_i el b off n cap hk hx'
    rw [hx'] at hx
    simp only [repX, rep] at hx
    have hv := hx.1
    have hu := und_slice hP hk
    split at h
    · rename_i ie hie
      have ok := hP.get hie
      cases hmx : mx.isSome with
      | true => rw [hmx] at h; exact h.elim
      | false =>
        rw [hmx] at h
        simp only [cond_false] at h
        have hno : mx = none := by cases mx <;> first | rfl | cases hmx
        subst hno
        obtain ⟨hc, h⟩ := h
        obtain ⟨i, j, h1, h2, h3, h4, h⟩ := cutR_run he h
        obtain ⟨o, ho, h⟩ := h
        obtain rfl : T.g _ = t := h
        refine .of_val hI (u := .slice (some ⟨b, o, none⟩) (j - i) (cap - i)) ?_ (show rep M _ _ by simp [rep, Value.oneCell'])
        rw [hv]
        unfold Instr.sliceAt
        simp only [Sem.run_bind, run_underlying hu, Result.andThen_ok, Option.map_none]
        unfold Instr.slice
        simp only [Sem.run_bind, run_underlying hu, Result.andThen_ok]
        rw [run_bounds h1 h2 (Or.inl ⟨rfl, rfl⟩) h3 (by omega) (Nat.le_refl _) (by simp)]
        simp only [Result.andThen_ok, ok.sizeOf, Sem.run_pure]
        by_cases hci : cap = i
        · rw [if_pos hci] at ho ⊢; rw [ho]
        · rw [if_neg hci] at ho ⊢; rw [← ho]; simp [Addr.add_lit]
    · exact h.elim
  · rename_i m el cs hk hx'
    rw [hx'] at hx
    simp only [repX, rep] at hx
    obtain ⟨b, off, hv, hat⟩ := hx
    have hu := und_array hP hk
    split at h
    · rename_i ie hie
      have ok := hP.get hie
      cases hmx : (mx.isSome || !Nat.beq ie.size 1) with
      | true => rw [hmx] at h; exact h.elim
      | false =>
        rw [hmx] at h
        simp only [cond_false] at h
        simp only [Bool.or_eq_false_iff, Bool.not_eq_false'] at hmx
        have hno : mx = none := by cases mx <;> first | rfl | cases hmx.1
        have hsz := beq_true hmx.2
        subst hno
        obtain ⟨⟨g1, g2, g3⟩, h⟩ := h
        obtain ⟨i, j, h1, h2, h3, h4, h⟩ := cutR_run he h
        obtain rfl : T.g _ = t := h
        have hlen : ((cs.drop i).take (j - i)).length = j - i := by rw [List.length_take, List.length_drop]; omega
        have hcell : ∀ y ∈ (cs.drop i).take (j - i), y.cells = [y] := fun y hy => g3 y (List.mem_of_mem_drop (List.mem_of_mem_take hy))
        refine .of_val hI (u := .slice (some (if m = i then ⟨b, off, none⟩ else (⟨b, off, none⟩ : Addr).add (i * ie.size))) (j - i) (m - i)) ?_ ?_
        · rw [hv]
          unfold Instr.sliceAt Instr.sureAddr
          simp only [Sem.run_bind, run_underlying hu, Result.andThen_ok, Option.map_none, Sem.run_pure]
          rw [run_bounds h1 h2 (Or.inl ⟨rfl, rfl⟩) h3 (by omega) (Nat.le_refl _) (by simp)]
          simp only [Result.andThen_ok, ok.sizeOf]
        · show rep M _ _
          simp only [rep]
          refine ⟨some (if m = i then (⟨b, off, none⟩ : Addr) else (⟨b, off, none⟩ : Addr).add (i * ie.size)), m - i, by rw [hlen], by omega, (by simp only [maxLen]; omega), (fun h => by simp at h), ⟨(fun h => by simp at h), fun y hy => by rw [hcell y hy]; rfl⟩, trivial, fun hpos => ?_⟩
          rw [hlen] at hpos
          refine ⟨b, off + i, by rw [if_neg (by omega), hsz, Nat.mul_one]; simp [Addr.add_lit], ?_⟩
          rw [atE.flat]
          have hfl : ((cs.drop i).take (j - i)).flatMap AV.cells = (cs.drop i).take (j - i) := by
            generalize (cs.drop i).take (j - i) = ys at hcell
            induction ys with
            | nil => rfl
            | cons y ys ih => rw [List.flatMap_cons, hcell y (by simp), ih fun z hz => hcell z (List.mem_cons_of_mem _ hz)]; rfl
          rw [hfl]
          have e1 : cs = cs.take i ++ ((cs.drop i).take (j - i) ++ (cs.drop i).drop (j - i)) := by rw [List.take_append_drop, List.take_append_drop]
          rw [e1, atE.flat.atL.append, atE.flat.atL.append] at hat
          have := hat.2.1
          rwa [List.length_take, Nat.min_eq_left (by omega)] at this
    · exact h.elim
  · rename_i m el b off hk hx'
    rw [hx'] at hx
    simp only [repX, rep] at hx
    have hv := hx
    have hu := und_array hP hk
    split at h
    · rename_i ie hie
      have ok := hP.get hie
      cases hmx : mx.isSome with
      | true => rw [hmx] at h; exact h.elim
      | false =>
        rw [hmx] at h
        simp only [cond_false] at h
        have hno : mx = none := by cases mx <;> first | rfl | cases hmx
        subst hno
        obtain ⟨i, j, h1, h2, h3, h4, h⟩ := cutR_run he h
        obtain ⟨o, ho, h⟩ := h
        obtain rfl : T.g _ = t := h
        refine .of_val hI (u := .slice (some ⟨b, o, none⟩) (j - i) (m - i)) ?_ (show rep M _ _ by simp [rep, Value.oneCell'])
        rw [hv]
        unfold Instr.sliceAt Instr.sureAddr
        simp only [Sem.run_bind, run_underlying hu, Result.andThen_ok, Option.map_none, Sem.run_pure]
        rw [run_bounds h1 h2 (Or.inl ⟨rfl, rfl⟩) h3 (by omega) (Nat.le_refl _) (by simp)]
        simp only [Result.andThen_ok, ok.sizeOf]
        by_cases hci : m = i
        · rw [if_pos hci] at ho ⊢; rw [ho]
        · rw [if_neg hci] at ho ⊢; rw [← ho]; simp [Addr.add_lit]
    · exact h.elim
  · exact h.elim
end
end Go.Proofs.YtahdkhklngjmoaaGreatDoor

/-
  The abstract machine: each operation that leaves what may turn as it is. No condition.
-/
namespace Go.Proofs.YtahdkhklngjmoaaGreatDoor
open Go.RowKit

section
variable {P : Program} {tab : Tab} {lm : Nat → Nat} {H : Heap} {M : Mem} {w : World} {L : Loc} {R : Heap} {e : Env} {a : Act}

theorem ares_convert (hP : TabOk P tab) (hI : Inv M H w) (he : ∀ x, repX M lm (e.ev x) (a.eval x)) {src dst : TypeId} {x : Operand} {t : T} (h : (ares tab (.convert src dst x) e.ev L R).run (fun x => x = t)) :
    Yields P lm H M w (do pure (.value (← convert src dst (a.eval x)))) t := by
  have hx := he x
  simp only [ares] at h
  split at h
  · rename_i k0 k1 k n h1 h2 h3
    rw [h3] at hx
    simp only [repX, rep] at hx
    refine .of_pure hI (.wrap h fun w => ?_)
    rw [hx.1]
    unfold convert
    simp only [Sem.run_bind, run_underlying (und_int hP h1), run_underlying (und_int hP h2), Result.andThen_ok]
    rfl
  · rename_i l h1 h2 h3
    rw [h3] at hx
    have hr : rep M (.str l) (a.eval x) := hx
    simp only [repX, rep] at hx
    obtain rfl : T.g _ = t := h
    refine .of_pure hI (.of (a.eval x) (fun w => ?_) hr)
    rw [hx.1]
    unfold convert
    simp only [Sem.run_bind, run_underlying (und_string hP h1), run_underlying (und_string hP h2), Result.andThen_ok]
    rfl
  · rename_i el o s xs h1 h2 h3
    rw [h3] at hx
    simp only [repX, rep] at hx
    obtain ⟨ad, cap, hv, k1, k2, k3, k4, k5, k6⟩ := hx
    split at h
    · rename_i h4
      obtain ⟨l, ⟨rfl, hl⟩, h⟩ := h
      obtain rfl : T.g _ = t := h
      rw [hv]
      refine .of_val hI (u := .string ⟨l.toArray⟩) ?_ (show rep M _ _ from rep_str hl)
      rw [run_convert_bytes_string w src dst el _ _ _ (und_slice hP h1) (und_int hP h4) (und_string hP h2)]
      simp only [List.length_map] at k6 ⊢
      cases ad with
      | none =>
        have : l = [] := by
          cases l with
          | nil => rfl
          | cons y l => obtain ⟨b, off, h, _⟩ := k6 (by simp); cases h
        subst this
        rfl
      | some ad =>
        by_cases h0 : 0 < l.length
        · obtain ⟨b, off, h, hat⟩ := k6 h0
          cases h
          have hld := run_loadCells_list (P := P) (w := w) ⟨b, off, none⟩ (l.map fun c => Value.int .u8 c.toNat) fun j v hj => by
            rw [Addr.add_lit]
            exact hI.mem _ _ _ (bytes_of hat j v hj)
          rw [List.length_map] at hld
          have e1 : (l.map fun c => Value.int .u8 c.toNat) = (l.map fun c => (c.toNat : Int)).map (Value.int .u8) := by rw [List.map_map]; rfl
          rw [run_bytesToString w _ _ _ (l.map fun c => (c.toNat : Int)) (by rw [← e1]; exact hld), bytes_str]
        · have : l = [] := List.eq_nil_of_length_eq_zero (by omega)
          subst this
          rw [List.length_nil, run_bytesToString w _ _ _ [] (by rfl)]
          rfl
    · exact h.elim
  · exact h.elim

theorem ares_addr (hP : TabOk P tab) (hI : Inv M H w) (he : ∀ x, repX M lm (e.ev x) (a.eval x)) {s : TypeId} {x : Operand} {f : Nat} {t : T} (h : (ares tab (.fieldAddr s x f) e.ev L R).run (fun x => x = t)) :
    Yields P lm H M w (do pure (.value (← Instr.fieldAt s (a.eval x) f))) t := by
  have hx := he x
  simp only [ares] at h
  split at h
  · rename_i fs hk
    obtain ⟨gs, hu, hm⟩ := und_struct hP hk
    split at h
    · rename_i off size ty hf
      cases hb : (isAddr (e.ev x) && !Nat.beq size 0) with
      | false => rw [hb] at h; exact h.elim
      | true =>
        rw [hb] at h
        simp only [Bool.and_eq_true, Bool.not_eq_true'] at hb
        obtain rfl : shiftT (e.ev x) off = t := h
        obtain ⟨b, o, hv⟩ := isAddr_rep hb.1 hx
        rw [hv] at hx
        refine .of_val hI (u := .pointer (some ⟨b, o + off, none⟩)) ?_ (shift_rep off hb.1 hx)
        obtain ⟨g, hg, hgi⟩ := mapM_get hm hf
        cases hi : P.info? g.type with
        | none => rw [hi] at hgi; cases hgi
        | some i =>
          rw [hi] at hgi
          simp only [Option.map_some, Option.some.injEq, Prod.mk.injEq] at hgi
          obtain ⟨rfl, rfl, rfl⟩ := hgi
          have hz : ¬ i.size = 0 := by
            intro h0
            rw [h0] at hb
            exact absurd hb.2 (by decide)
          have hg' : gs[f]? = some g := by simpa using hg
          rw [hv]
          unfold Instr.fieldAt
          simp only [Sem.run_bind, run_underlying hu, Result.andThen_ok, hg']
          simp [Instr.sureAddr, fieldPlace, sizeOf, typeInfo, hi, hz, Addr.add_lit]
    · exact h.elim
  · exact h.elim

theorem ares_field (hP : TabOk P tab) (hI : Inv M H w) (he : ∀ x, repX M lm (e.ev x) (a.eval x)) {s : TypeId} {x : Operand} {f : Nat} {t : T} (h : (ares tab (.field s x f) e.ev L R).run (fun x => x = t)) :
    Yields P lm H M w (do pure (.value (← Instr.field s (a.eval x) f))) t := by
  have hx := he x
  simp only [ares] at h
  split at h
  · rename_i fs cs hk hx'
    rw [hx'] at hx
    simp only [repX, rep] at hx
    obtain ⟨vs, hv, hc⟩ := hx
    obtain ⟨gs, hu, hm⟩ := und_struct hP hk
    split at h
    · rename_i off size ty hf
      obtain ⟨g, hg, hgi⟩ := mapM_get hm hf
      cases hi : P.info? g.type with
      | none => rw [hi] at hgi; cases hgi
      | some i =>
        rw [hi] at hgi
        simp only [Option.map_some, Option.some.injEq, Prod.mk.injEq] at hgi
        obtain ⟨rfl, rfl, rfl⟩ := hgi
        have hg' : gs[f]? = some g := by simpa using hg
        obtain ⟨u, h1, h2⟩ := part_agg (P := P) (lm := lm) hP g.offset hc h
        refine .of_val hI (u := u) ?_ h2
        rw [hv]
        unfold Instr.field
        simp only [Sem.run_bind, run_underlying hu, Result.andThen_ok, hg', asAgg, Sem.run_pure, h1]
    · exact h.elim
  · exact h.elim

theorem ares_indexAddr (hP : TabOk P tab) (hI : Inv M H w) (he : ∀ x, repX M lm (e.ev x) (a.eval x)) {ty : TypeId} {x i : Operand} {t : T} (h : (ares tab (.indexAddr ty x i) e.ev L R).run (fun x => x = t)) :
    Yields P lm H M w (do pure (.value (← Instr.indexAt ty (a.eval x) (a.eval i)))) t := by
  have hx := he x
  have hi := he i
  simp only [ares] at h
  split at h
  · rename_i el o s xs iv hk hx' hi'
    rw [hx'] at hx
    rw [hi'] at hi
    simp only [repX, rep] at hx
    obtain ⟨ad, cap, hv, k1, k2, k3, k4, k5, k6⟩ := hx
    have hu := und_slice hP hk
    split at h
    · rename_i ie hie
      have ok := hP.get hie
      cases hs : Nat.beq s ie.size with
      | false => rw [hs] at h; exact h.elim
      | true =>
        rw [hs] at h
        simp only [cond_true] at h
        obtain ⟨k, n, hn, h⟩ := natR_run hi h
        obtain ⟨y, hy, h⟩ := h
        obtain rfl : T.g _ = t := h
        have hlt : n < xs.length := (List.getElem?_eq_some_iff.1 hy).1
        obtain ⟨b, off, rfl, hat⟩ := k6 (by omega)
        have hin := hat.get k4.2 hy
        rw [beq_true hs] at hin
        refine .of_val hI (u := .pointer (some ⟨b, off + n * ie.size, none⟩)) ?_ ?_
        · rw [hv, hn]
          unfold Instr.indexAt
          simp only [asIntOf, Sem.run_bind, Sem.run_pure, Result.andThen_ok, run_underlying hu]
          simp [hlt, ok.sizeOf, Addr.add_lit]
        · show rep M _ _
          simp only [rep]
          exact ⟨b, _, rfl, hin⟩
    · exact h.elim
  · rename_i m el iv hk hi'
    rw [hi'] at hi
    have hu := und_array hP hk
    split at h
    · rename_i ie hie
      have ok := hP.get hie
      cases hs : isAddr (e.ev x) with
      | false => rw [hs] at h; exact h.elim
      | true =>
        rw [hs] at h
        simp only [cond_true] at h
        obtain ⟨k, n, hn, h⟩ := natR_run hi h
        obtain ⟨hlt, h⟩ := h
        obtain rfl : shiftT (e.ev x) (n * ie.size) = t := h
        obtain ⟨b, o, hv⟩ := isAddr_rep hs hx
        rw [hv] at hx
        refine .of_val hI (u := .pointer (some ⟨b, o + n * ie.size, none⟩)) ?_ (shift_rep _ hs hx)
        rw [hv, hn]
        unfold Instr.indexAt
        simp only [asIntOf, Sem.run_bind, Sem.run_pure, Result.andThen_ok, run_underlying hu, Instr.sureAddr]
        simp [hlt, ok.sizeOf, Addr.add_lit]
    · exact h.elim
  · rename_i el b off m cap iv hk hx' hi'
    rw [hx'] at hx
    rw [hi'] at hi
    simp only [repX, rep] at hx
    have hu := und_slice hP hk
    split at h
    · rename_i ie hie
      have ok := hP.get hie
      obtain ⟨k, n, hn, h⟩ := natR_run hi h
      obtain ⟨hlt, h⟩ := h
      obtain rfl : T.g _ = t := h
      refine .of_val hI (u := .pointer (some ⟨b, off + n * ie.size, none⟩)) ?_ (show rep M _ _ by simp [rep])
      rw [hx.1, hn]
      unfold Instr.indexAt
      simp only [asIntOf, Sem.run_bind, Sem.run_pure, Result.andThen_ok, run_underlying hu]
      simp [hlt, ok.sizeOf, Addr.add_lit]
    · exact h.elim
  · exact h.elim

theorem ares_index (hP : TabOk P tab) (hI : Inv M H w) (he : ∀ x, repX M lm (e.ev x) (a.eval x)) {ty : TypeId} {x i : Operand} {t : T} (h : (ares tab (.index ty x i) e.ev L R).run (fun x => x = t)) :
    Yields P lm H M w (do pure (.value (← Instr.index ty (a.eval x) (a.eval i)))) t := by
  have hx := he x
  have hi := he i
  simp only [ares] at h
  split at h
  · rename_i l iv hk hx' hi'
    rw [hx'] at hx
    rw [hi'] at hi
    simp only [repX, rep] at hx
    have hu := und_string hP hk
    obtain ⟨k, n, hn, h⟩ := natR_run hi h
    obtain ⟨c, hc, h⟩ := h
    obtain rfl : T.g _ = t := h
    refine .of_val hI (u := .int .u8 c.toNat) ?_ (show rep M _ _ from rep_int)
    rw [hx.1, hn]
    unfold Instr.index
    simp only [asIntOf, Sem.run_bind, Sem.run_pure, Result.andThen_ok, run_underlying hu]
    have hlt : n < l.length := (List.getElem?_eq_some_iff.1 hc).1
    have : (ByteArray.mk l.toArray)[n]? = some c := by
      have hsz : n < (ByteArray.mk l.toArray).size := by simpa [ByteArray.size] using hlt
      rw [ByteArray.getElem?_lt' _ _ hsz]
      exact congrArg some (List.getElem?_eq_some_iff.1 hc).2
    simp [this]
  · rename_i m el cs iv hk hx' hi'
    rw [hx'] at hx
    rw [hi'] at hi
    simp only [repX, rep] at hx
    obtain ⟨vs, hv, hc⟩ := hx
    have hu := und_array hP hk
    split at h
    · rename_i ie hie
      have ok := hP.get hie
      obtain ⟨k, n, hn, h⟩ := natR_run hi h
      obtain ⟨hlt, h⟩ := h
      obtain ⟨u, h1, h2⟩ := part_agg (P := P) (lm := lm) hP (n * ie.size) hc h
      refine .of_val hI (u := u) ?_ h2
      rw [hv, hn]
      unfold Instr.index
      simp only [asIntOf, Sem.run_bind, Sem.run_pure, Result.andThen_ok, run_underlying hu]
      simp [hlt, ok.sizeOf, h1]
    · exact h.elim
  · exact h.elim

theorem ares_build (hP : TabOk P tab) (hI : Inv M H w) (he : ∀ x, repX M lm (e.ev x) (a.eval x)) {ty : TypeId} {parts : Array (Nat × Operand)} {t : T} (h : (ares tab (.build ty parts) e.ev L R).run (fun x => x = t)) :
    Yields P lm H M w (do pure (.value (← Instr.build ty (parts.map fun (i, x) => (i, a.eval x))))) t := by
  simp only [ares] at h
  split at h
  · rename_i i hi
    have ok := hP.get hi
    split at h
    · rename_i fs hk
      obtain ⟨gs, hu, hm⟩ := und_struct hP (show tab.kind ty = .struct fs by unfold Tab.kind; rw [hi]; exact hk)
      split at h
      · rename_i cs hf
        obtain ⟨f, h1, h2, h3, h4⟩ := ok.info
        cases hz : litOk i.zero with
        | true =>
          rw [hz] at h
          obtain rfl : T.g _ = t := h
          have hrep : repC M (lit i.zero).cells i.zero.cells.toList := by
            have hl := rep_lit (M := M) hz
            refine rep.cells hl ?_
            intro xs hx
            unfold lit at hx
            split at hx
            · cases hx
            · unfold lit1 at hx
              split at hx <;> cases hx
          obtain ⟨ds, k1, k2⟩ := fillA_sound he hrep hf
          refine .of_val hI (u := .agg ds) ?_ ?_
          · refine run_build w ty _ ds ?_
            unfold Program.built
            rw [h1, hu]
            have hpl := mapM_map (fun p : Nat × Nat × TypeId => (p.1, p.2.1)) hm
            simp only [Option.map_map] at hpl
            simp only [h4]
            have e2 : (gs.toList.mapM fun f => (P.info? f.type).map fun i => (f.offset, i.size)) = some (fs.map fun f => (f.1, f.2.1)) := hpl
            rw [e2]
            simp only [Array.toList_map]
            exact k1
          · show rep M _ _
            simp only [rep]
            exact ⟨ds.toList, by simp, k2⟩
        | false => rw [hz] at h; exact h.elim
      · exact h.elim
    · rename_i n el hk
      have hu := und_array hP (show tab.kind ty = .array n el by unfold Tab.kind; rw [hi]; exact hk)
      split at h
      · rename_i ie hie
        split at h
        · rename_i xs hxs
          obtain ⟨f, h1, h2, h3, h4⟩ := ok.info
          obtain ⟨g, g1, g2, _⟩ := (hP.get hie).info
          cases hb : (Nat.beq xs.length n && (Nat.beq i.zero.cells.size (n * ie.size) && !Nat.beq ie.size 0)) with
          | false => rw [hb] at h; exact h.elim
          | true =>
            rw [hb] at h
            obtain rfl : T.g _ = t := h
            simp only [Bool.and_eq_true, Bool.not_eq_true'] at hb
            have b1 := beq_true hb.1
            have b2 := beq_true hb.2.1
            have b3 : 0 < ie.size := by
              rcases Nat.eq_zero_or_pos ie.size with h0 | h0
              · rw [h0] at hb; exact absurd hb.2.2 (by decide)
              · exact h0
            obtain ⟨s1, s2, s3, s4, s5⟩ := elemsA_sound he hxs
            refine .of_val hI (u := .agg ((parts.toList.map fun p => a.eval p.2).flatMap fun v => v.cells.toList).toArray) ?_ ?_
            · refine run_build w ty _ _ ?_
              unfold Program.built
              rw [h1, hu]
              simp only [h4, g1, g2]
              have hl2 : (parts.map fun (i, x) => (i, a.eval x)).toList = ((parts.toList.map fun p => a.eval p.2).zipIdx 0).map fun x => (x.2, x.1) := by
                rw [Array.toList_map]; exact s1
              rw [hl2]
              exact Go.Great.fill_whole b3 _ _ s2 (by rw [b2, List.length_map, ← s4, b1])
            · show rep M _ _
              simp only [rep]
              exact ⟨_, rfl, s5⟩
        · exact h.elim
      · exact h.elim
    · exact h.elim
  · exact h.elim

theorem ares_lit (hP : TabOk P tab) (hI : Inv M H w) (he : ∀ x, repX M lm (e.ev x) (a.eval x)) {ty : TypeId} {len : Nat} {parts : Array (Nat × Operand)} {t : T} (h : (ares tab (.buildSlice ty len parts) e.ev L R).run (fun x => x = t)) :
    Yields P lm H M w (do pure (.value (← Instr.buildSlice ty len (parts.map fun (i, x) => (i, a.eval x))))) t := by
  simp only [ares] at h
  split at h
  · rename_i el hk
    have hu := und_slice hP hk
    split at h
    · rename_i ie hie
      have ok := hP.get hie
      obtain ⟨f, i1, i2, i3, i4⟩ := ok.info
      split at h
      · rename_i xs hxs
        cases hb : (Nat.beq xs.length len && Nat.ble (len * ie.size) 16777216 && !Nat.beq ie.size 0) with
        | false => rw [hb] at h; exact h.elim
        | true =>
          rw [hb] at h
          simp only [cond_true] at h
          obtain rfl : T.g _ = t := h
          simp only [Bool.and_eq_true, Bool.not_eq_true'] at hb
          have b1 := beq_true hb.1.1
          have b2 := Nat.le_of_ble_eq_true hb.1.2
          have b3 : 0 < ie.size := by
            rcases Nat.eq_zero_or_pos ie.size with h0 | h0
            · rw [h0] at hb; exact absurd hb.2 (by decide)
            · exact h0
          obtain ⟨s1, s2, s3, s4, s5⟩ := elemsA_sound he hxs
          have hlen : (parts.toList.map fun p => a.eval p.2).length = len := by rw [List.length_map]; omega
          obtain ⟨ev, hI'⟩ := evo_new hI ((parts.toList.map fun p => a.eval p.2).flatMap fun v => v.cells.toList) el
          have hrun : (Instr.buildSlice ty len (parts.map fun (i, x) => (i, a.eval x))).run P w = .ok (.slice (some ⟨w.heap.size, 0, none⟩) len len) (w.alloc (.cells ((parts.toList.map fun p => a.eval p.2).flatMap fun v => v.cells.toList).toArray el)) := by
            by_cases h0 : len = 0
            · subst h0
              have : parts.toList = [] := by
                apply List.eq_nil_of_length_eq_zero; omega
              have hp : parts = #[] := Array.toList_eq_nil_iff.1 this
              subst hp
              have hr : (Array.range 0) = (#[] : Array Nat) := Array.eq_empty_of_size_eq_zero (by simp)
              simp [Instr.buildSlice, run_underlying hu, ok.sizeOf, Instr.fill, newRow, hr]
            · have hl2 : (parts.map fun (i, x) => (i, a.eval x)).toList = ((parts.toList.map fun p => a.eval p.2).zipIdx 0).map fun x => (x.2, x.1) := by
                rw [Array.toList_map]; exact s1
              have hz : f.zero = some ie.zero := i4
              refine run_buildSlice w ty el len _ _ f ie.zero hu i1 hz (by rw [i2]; omega) (by rw [i2]; have := Nat.mul_pos (Nat.pos_of_ne_zero h0) b3; omega) ?_
              rw [hl2, i2]
              exact Go.Great.fill_whole b3 _ _ s2 (by simp [hlen])
          refine ⟨_, _, _, by rw [Sem.run_bind, hrun]; rfl, ev, hI', ?_⟩
          show rep _ _ _
          have hcells : repC (M.add w.heap.size ((parts.toList.map fun p => a.eval p.2).flatMap fun v => v.cells.toList)) (xs.flatMap AV.cells) ((parts.toList.map fun p => a.eval p.2).flatMap fun v => v.cells.toList) := repC.mono ev.sub _ _ s5
          generalize ((parts.toList.map fun p => a.eval p.2).flatMap fun v => v.cells.toList) = vs at *
          simp only [rep]
          refine ⟨some ⟨w.heap.size, 0, none⟩, len, by rw [b1], by omega, ?_, (fun h => by cases h), ⟨fun h0 => by omega, s3⟩, b1.symm, fun _ => ⟨w.heap.size, 0, rfl, ?_⟩⟩
          · have := Nat.le_mul_of_pos_right len b3
            simp only [maxLen]; omega
          · rw [atE.flat]
            exact atL.of_vals hcells fun j c hj => by unfold Mem.add; simpa using hj
      · exact h.elim
    · exact h.elim
  · exact h.elim
end
end Go.Proofs.YtahdkhklngjmoaaGreatDoor

/-
  The abstract machine: all operations that leave what may turn as it is. No condition.
-/
namespace Go.Proofs.YtahdkhklngjmoaaGreatDoor
open Go.RowKit

section
variable {P : Program} {tab : Tab} {lm : Nat → Nat} {H : Heap} {M : Mem} {w : World} {L : Loc} {R : Heap} {e : Env} {a : Act}

theorem vals_rep {M : Mem} : ∀ {xs : List AV} {cs vs : List Value}, repC M xs cs → valsOf xs = some vs → cs = vs
  | [], cs, vs, h, k => by simp only [repC] at h; simp only [valsOf, Option.some.injEq] at k; rw [h, k]
  | x :: xs, cs, vs, h, k => by
    simp only [repC] at h
    obtain ⟨c, cs', rfl, ⟨_, h1⟩, h2⟩ := h
    unfold valsOf at k
    split at k
    · simp_all
    · rename_i y r heq
      cases heq
      simp only [rep] at h1
      split at k
      · rename_i l hl
        cases k
        rw [h1.1, vals_rep h2 hl]
      · cases k
    · cases k
theorem ones_repC {M : Mem} : ∀ {l : List Value}, (∀ c ∈ l, c.oneCell' = true) → repC M (l.map AV.v) l
  | [], _ => by simp [repC]
  | c :: l, h => by
    simp only [List.map_cons, repC]
    have h1 := h c (by simp)
    exact ⟨c, l, rfl, ⟨h1, by simp only [rep]; exact ⟨trivial, h1⟩⟩, ones_repC fun c hc => h c (by simp [hc])⟩
theorem two_args {args : Array Operand} {ρ : Operand → T} {x y : T} (ha : args.toList.map ρ = [x, y]) : ∃ x0 y0, args = #[x0, y0] ∧ ρ x0 = x ∧ ρ y0 = y := by
  obtain ⟨l⟩ := args
  cases l with
  | nil => simp at ha
  | cons p l => cases l with
    | nil => simp at ha
    | cons q l => cases l with
      | nil => simp at ha; exact ⟨p, q, rfl, ha.1, ha.2⟩
      | cons r l => simp at ha
theorem ares_sound (hP : TabOk P tab) (hI : Inv M H w) (hL : ∀ p ∈ lheap lm L, p ∈ H) (hR : ∀ p ∈ R, p ∈ H) (he : ∀ x, repX M lm (e.ev x) (a.eval x)) (o : Oper) {t : T} (h : (ares tab o.op e.ev L R).run (fun x => x = t)) :
    Yields P lm H M w (execOp a.eval o) t := by
  obtain ⟨dst, op, ty, pos, after, guard⟩ := o
  cases op <;> first | (exact h.elim; done) | skip
  case move x =>
    obtain rfl : e.ev x = t := h
    exact .same hI rfl (he x)
  case assign x =>
    obtain rfl : e.ev x = t := h
    exact .same hI rfl (he x)
  case pick c x y =>
    have hc := he c
    simp only [ares] at h
    split at h
    · rename_i q hq
      rw [hq] at hc
      simp only [repX, rep] at hc
      have hrun : ∀ (b : Bool), a.eval c = .bool b → (execOp a.eval ⟨dst, .pick c x y, ty, pos, after, guard⟩).run P w = .ok (.value (if b then a.eval x else a.eval y)) w := by
        intro b hb
        unfold execOp
        simp [hb, asBool]
      cases q with
      | true =>
        obtain rfl : e.ev x = t := h
        exact .same hI (hrun true hc.1) (he x)
      | false =>
        obtain rfl : e.ev y = t := h
        exact .same hI (hrun false hc.1) (he y)
    · exact h.elim
  case nilCheck x =>
    have hx := he x
    simp only [ares] at h
    cases hb : isAddr (e.ev x) with
    | true =>
      rw [hb] at h
      obtain rfl : e.ev x = t := h
      obtain ⟨b, off, hv⟩ := isAddr_rep hb hx
      rw [hv] at hx
      refine .same hI (u := .pointer (some ⟨b, off, none⟩)) ?_ hx
      unfold execOp
      simp [hv]
    | false =>
      rw [hb] at h
      simp only [cond_false] at h
      split at h
      · rename_i f c hx'
        rw [hx'] at hx
        have hr : rep M (.fn (.func f) c) (a.eval x) := hx
        simp only [repX, rep] at hx
        obtain ⟨cs, hv, _⟩ := hx
        obtain rfl : T.g _ = t := h
        refine .same hI (u := a.eval x) ?_ hr
        unfold execOp
        simp [hv]
      · exact h.elim
  case load lt x => exact ares_load hP hI hL hR (he x) h
  case binOp op xt x y yt =>
    have hx := he x
    have hy := he y
    simp only [ares] at h
    split at h
    · rename_i av bv hx' hy'
      rw [hx'] at hx
      rw [hy'] at hy
      exact .of_pure hI (bin_sound hP hx hy h)
    · exact h.elim
  case unOp op xt x =>
    have hx := he x
    simp only [ares] at h
    split at h
    · rename_i q hx'
      rw [hx'] at hx
      simp only [repX, rep] at hx
      obtain rfl : T.g _ = t := h
      refine .of_val hI (u := .bool (!q)) ?_ (show rep M _ _ from rep_b)
      rw [hx.1]; rfl
    · rename_i k n hx'
      rw [hx'] at hx
      simp only [repX, rep] at hx
      refine .of_pure hI (.wrap h fun w => ?_)
      rw [hx.1]; rfl
    · exact h.elim
  case convert src dst x => exact ares_convert hP hI he h
  case makeFunc fn first captured =>
    simp only [ares] at h
    cases hb : Nat.beq first.size 0 with
    | false =>
      rw [hb] at h
      simp only [cond_false] at h
      split at h
      · rename_i f b off hfi hcap
        obtain rfl : T.g _ = t := h
        have h0 : captured = #[] := by apply Array.ext'; simpa using hcap
        obtain ⟨x0, hf0, hx0⟩ : ∃ x0, first = #[x0] ∧ e.ev x0 = .g (.ptr b off) := by
          obtain ⟨l⟩ := first
          cases l with
          | nil => simp at hfi
          | cons y l => cases l with
            | nil => simp at hfi; exact ⟨y, rfl, hfi⟩
            | cons z l => simp at hfi
        have hv := he x0
        rw [hx0] at hv
        simp only [repX, rep] at hv
        refine .of_val hI (u := .func (.func f) (first.map a.eval) (captured.map a.eval)) rfl ?_
        subst h0
        subst hf0
        show rep M (.v _) _
        refine ⟨?_, rfl⟩
        simp [hv]
      · exact h.elim
    | true =>
      rw [hb] at h
      simp only [cond_true] at h
      split at h
      · rename_i xs hxs
        obtain rfl : T.g _ = t := h
        have hr := argsA_rep he hxs
        refine .of_val hI (u := .func fn (first.map a.eval) (captured.map a.eval)) rfl ?_
        have h0 : first = #[] := Array.eq_empty_of_size_eq_zero (beq_true hb)
        show rep M _ _
        simp only [rep]
        refine ⟨captured.toList.map a.eval, ?_, hr⟩
        rw [h0]
        have e1 : captured.map a.eval = (captured.toList.map a.eval).toArray := by apply Array.ext'; simp
        rw [e1]; simp
      · exact h.elim
  case slice xt x lo hi mx => exact ares_slice hP hI he h
  case fieldAddr s x f => exact ares_addr hP hI he h
  case field s x f => exact ares_field hP hI he h
  case indexAddr xt x i => exact ares_indexAddr hP hI he h
  case index xt x i => exact ares_index hP hI he h
  case build bt parts => exact ares_build hP hI he h
  case buildSlice bt len parts => exact ares_lit hP hI he h
  case makeInterface xt x =>
    have hx := he x
    simp only [ares] at h
    split at h
    · rename_i fs xs hk hx'
      rw [hx'] at hx
      simp only [repX, rep] at hx
      obtain ⟨cs, hv, hc⟩ := hx
      split at h
      · rename_i vs hvs
        obtain rfl : T.g _ = t := h
        obtain ⟨gs, hu, _⟩ := und_struct hP hk
        have e : cs = vs := vals_rep hc hvs
        subst e
        refine .of_val hI (u := .iface xt (.agg cs.toArray)) ?_ (show rep M (.v _) _ from ⟨rfl, rfl⟩)
        rw [hv]
        unfold Instr.makeInterface
        rw [Sem.run_bind, run_underlying hu]
        rfl
      · exact h.elim
    · exact h.elim
  case typeAssert x xt at_ ok =>
    have hx := he x
    simp only [ares] at h
    split at h
    · rename_i fs t' cs hk hx'
      rw [hx'] at hx
      simp only [repX, rep] at hx
      cases hb : (ok && Nat.beq at_ t' && cs.toList.all Value.oneCell') with
      | false => rw [hb] at h; exact h.elim
      | true =>
        rw [hb] at h
        obtain rfl : T.g _ = t := h
        simp only [Bool.and_eq_true] at hb
        obtain ⟨⟨rfl, h2⟩, h3⟩ := hb
        obtain rfl := beq_true h2
        obtain ⟨gs, hu, _⟩ := und_struct hP hk
        refine .of_val hI (u := .tuple #[.agg cs, .bool true]) ?_ ?_
        · rw [hx.1]
          unfold Instr.typeAssert
          rw [Sem.run_bind, run_underlying hu, Result.andThen_ok]
          simp
        · show rep M (.tup [.agg (cs.toList.map .v), .b true]) _
          simp only [rep, repT]
          exact ⟨_, rfl, _, _, rfl, ⟨cs.toList, rfl, ones_repC fun c hc => List.all_eq_true.1 h3 c hc⟩, _, _, rfl, ⟨rfl, rfl⟩, rfl⟩
    · exact h.elim
  case extract x k =>
    have hx := he x
    simp only [ares] at h
    split at h
    · rename_i xs hx'
      rw [hx'] at hx
      simp only [repX, rep] at hx
      obtain ⟨cs, hv, hc⟩ := hx
      split at h
      · rename_i y hy
        obtain rfl : T.g _ = t := h
        obtain ⟨c, h1, h2⟩ := hc.get hy
        refine .of_val hI (u := c) ?_ h2
        rw [hv]
        simp [Instr.extract, h1]
      · exact h.elim
    · exact h.elim
  case call c =>
    obtain ⟨callee, args, ats⟩ := c
    simp only [ares] at h
    have hrun : ∀ b, callee = .builtin b → execOp a.eval ⟨dst, .call ⟨callee, args, ats⟩, ty, pos, after, guard⟩ = builtin b ats ty (args.map fun | .const _ => true | _ => false) (args.map a.eval) := by
      rintro b rfl
      rfl
    split at h
    · rename_i x ha
      rw [hrun _ rfl]
      obtain ⟨x0, hargs, hx⟩ : ∃ x0, args = #[x0] ∧ e.ev x0 = .g x := by
        obtain ⟨l⟩ := args
        cases l with
        | nil => simp at ha
        | cons y l => cases l with
          | nil => simp at ha; exact ⟨y, rfl, ha⟩
          | cons z l => simp at ha
      subst hargs
      have hv := he x0
      rw [hx] at hv
      split at h
      · rename_i ty0 hty
        split at h
        · rename_i l hk
          simp only [repX, rep] at hv
          obtain rfl : T.g _ = t := h
          refine .of_val hI (u := .int .i64 l.length) ?_ (show rep M _ _ from rep_int)
          have hu := und_string hP hk
          have hsz : (ByteArray.mk l.toArray).size = l.length := by simp [ByteArray.size]
          simp [Builtin.len_, hty, run_underlying hu, hv.1, goInt, hsz]
        · rename_i el o s xs hk
          simp only [repX, rep] at hv
          obtain ⟨ad, cap, hv, _⟩ := hv
          obtain rfl : T.g _ = t := h
          refine .of_val hI (u := .int .i64 xs.length) ?_ (show rep M _ _ from rep_int)
          have hu := und_slice hP hk
          simp [Builtin.len_, hty, run_underlying hu, hv, goInt]
        · rename_i el ad n cap hk
          simp only [repX, rep] at hv
          obtain rfl : T.g _ = t := h
          refine .of_val hI (u := .int .i64 n) ?_ (show rep M _ _ from rep_int)
          have hu := und_slice hP hk
          simp [Builtin.len_, hty, run_underlying hu, hv.1, goInt]
        · rename_i n el hk
          obtain rfl : T.g _ = t := h
          refine .of_val hI (u := .int .i64 n) ?_ (show rep M _ _ from rep_int)
          have hu := und_array hP hk
          simp [Builtin.len_, hty, run_underlying hu, goInt]
        · exact h.elim
      · exact h.elim
    · rename_i k x k' y ha
      rw [hrun _ rfl]
      obtain ⟨x0, y0, hargs, hx, hy⟩ : ∃ x0 y0, args = #[x0, y0] ∧ e.ev x0 = .g (.v (.int k x)) ∧ e.ev y0 = .g (.v (.int k' y)) := two_args ha
      subst hargs
      have hvx := he x0
      have hvy := he y0
      rw [hx] at hvx
      rw [hy] at hvy
      simp only [repX, rep] at hvx hvy
      cases hb : decide (k = k') with
      | false => rw [hb] at h; exact h.elim
      | true =>
        rw [hb] at h
        obtain rfl : T.g _ = t := h
        obtain rfl := of_decide_eq_true hb
        refine .of_val hI (u := .int k (min x y)) ?_ (show rep M _ _ from rep_int)
        have e1 : (if y < x then y else x) = min x y := by omega
        simp [Builtin.min_, Builtin.min2, hvx.1, hvy.1, e1]
    · rename_i k x k' y ha
      rw [hrun _ rfl]
      obtain ⟨x0, y0, hargs, hx, hy⟩ : ∃ x0 y0, args = #[x0, y0] ∧ e.ev x0 = .g (.v (.int k x)) ∧ e.ev y0 = .g (.v (.int k' y)) := two_args ha
      subst hargs
      have hvx := he x0
      have hvy := he y0
      rw [hx] at hvx
      rw [hy] at hvy
      simp only [repX, rep] at hvx hvy
      cases hb : decide (k = k') with
      | false => rw [hb] at h; exact h.elim
      | true =>
        rw [hb] at h
        obtain rfl : T.g _ = t := h
        obtain rfl := of_decide_eq_true hb
        refine .of_val hI (u := .int k (max x y)) ?_ (show rep M _ _ from rep_int)
        have e1 : (if y > x then y else x) = max x y := by omega
        simp [Builtin.max_, Builtin.max2, hvx.1, hvy.1, e1]
    · exact h.elim
end
end Go.Proofs.YtahdkhklngjmoaaGreatDoor

/-
  What package variables hold: nothing is asked. No condition.
-/
namespace Go.Proofs.YtahdkhklngjmoaaGreatDoor
open Go.RowKit

/-- so many package variables are looked at -/
def nG : Nat := 0
/-- what they hold -/
def GW (_ : World) : Prop := True
theorem GW.keep {w w' : World} (_ : GW w) (_ : ∀ k, k < nG → w'.heap[k]? = w.heap[k]?) : GW w' := trivial
end Go.Proofs.YtahdkhklngjmoaaGreatDoor

