import Derived.Test.YtegkjnibkilbpaaT29
namespace Go.Proofs.Ytegkjnibkilbpaa
open Go.RowKit

section
variable {P : Program} {ops : Array Oper} {C : World → Prop} {eff : Nat → Bool} {Q : Act → World → Prop} {o : Oper} {rest : List Oper} {k : Nat} {a : Act} {w : World}

/-- append(s, x...) in the chain -/
theorem wpC_app (hw : Region.wanted o (yielded ops a.tmps) = true) (he : eff k = true) (s x : Operand) (t : TypeId) (ho : o.op = .call { callee := .builtin .append, args := #[s, x], argTypes := #[t, t] })
    {base e size bytes : Nat} (hE : ElemT P t e size bytes) {v : Value} {n : Nat} {xs : List Value} (hs : a.eval s = v) (hown : w.ownsRow base e size v n xs)
    {B : Nat} {u : Value} {m : Nat} {news : List Value} (hx : a.eval x = u) (hrd : rd B w size u m news) (h1 : ∀ u ∈ news, u.oneCell' = true)
    (h63 : n + m ≤ maxLen) (hbytes : (n + m) * bytes ≤ 140737488355328) (hbase : base ≤ w.heap.size)
    (h : ∀ v' w', App w w' base e size v v' (n + m) (xs ++ news) → C w' ∧ wpC P ops C eff Q rest (k + 1) (a.put o.dst v') w') : wpC P ops C eff Q (o :: rest) k a w := by
  refine wpC_eff hw he fun K hK => ?_
  obtain ⟨v', w', hr, h2⟩ := run_app_rd (ty := o.type) hE hown hrd h1 h63 hbytes hbase
  obtain ⟨h3, h4⟩ := h v' w' h2
  unfold Oper.wp execOp
  simp only [ho, resolve, invoke, builtin, Sem.run_bind, Sem.run_pure, Result.andThen_ok, List.map_toArray, List.map_cons, List.map_nil, hs, hx, hr]
  exact hK _ _ ⟨_, rfl⟩ h3 h4

/-- a literal of one element in the chain -/
theorem wpC_lit1 (hw : Region.wanted o (yielded ops a.tmps) = true) (he : eff k = true) (t : TypeId) (y : Operand) (ho : o.op = .buildSlice t 1 #[(0, y)]) {e s bytes : Nat} (hE : ElemT P t e s bytes) {u : Value} (hy : a.eval y = u) (hu : u.cells.size = s) (hs : s ≤ 16777216)
    (h : C (w.alloc (.cells u.cells e)) ∧ wpC P ops C eff Q rest (k + 1) (a.put o.dst (.slice (some ⟨w.heap.size, 0, none⟩) 1 1)) (w.alloc (.cells u.cells e))) : wpC P ops C eff Q (o :: rest) k a w := by
  refine wpC_eff hw he fun K hK => ?_
  have hr := run_lit (P := P) (w := w) hE [u] (by simpa using hu) (by simp) (by simpa using hs)
  simp only [List.length_singleton, List.zipIdx_cons, List.zipIdx_nil, List.map_cons, List.map_nil, List.flatMap_cons, List.flatMap_nil, List.append_nil, Array.toArray_toList] at hr
  unfold Oper.wp execOp
  simp only [ho, Sem.run_bind, List.map_toArray, List.map_cons, List.map_nil, hy, hr, Result.andThen_ok]
  exact hK _ _ ⟨_, rfl⟩ h.1 h.2
end

/-- the loop that gathers names -/
def GatRel (H : Nat) (w0 : World) (cs : List CallD) (k : Nat) (v : Value) (wr : World) : Prop :=
  wr.ownsRow H 24 4 v (ddOf (cs.take k)).length (cellsL (ddOf (cs.take k))) ∧ Below H w0 wr ∧ H ≤ wr.heap.size

def BackRel (w0 : World) (L : List CallD) (j : Int) (v : Value) (wr : World) : Prop :=
  wr.ownsRow w0.heap.size 24 4 v (L.drop (j + 1).toNat).reverse.length (cellsL (L.drop (j + 1).toNat).reverse) ∧ Below w0.heap.size w0 wr

def DropRel (H : Nat) (w0 : World) (L : List CallD) (la : Option Addr) (lc : Nat) (k : Nat) (v : Value) (wr : World) : Prop :=
  ∃ b t, v = .pointer (some ⟨b, 0, none⟩) ∧ Good wr b t ∧ t.kv = dropAll (L.take k) (kvOf L) ∧ Below H w0 wr ∧ H ≤ wr.heap.size ∧ rdC wr.heap.size wr (.slice la L.length lc) L

theorem dropAll_len : ∀ (L : List CallD) (l : List KV), (dropAll L l).length ≤ l.length
  | [], _ => Nat.le_refl _
  | _ :: L, _ => Nat.le_trans (dropAll_len L _) (List.length_filter_le _ _)

set_option maxRecDepth 100000 in
set_option maxHeartbeats 4000000 in
theorem order_law (w : World) (u : Value) (cs : List CallD) (s : List UInt8) (hu : rdC w.heap.size w u cs) (hs : ∀ c ∈ cs, c.name.length ≤ 1125899906842624) (hz : s.length ≤ 1125899906842624) :
    Calls Try.prog 4 #[u, .string ⟨s.toArray⟩] w (TruePost w) := by
  have HU := Lib.hid hu
  have HS := Lib.hid hs
  have hsz := szB s
  clear hu hs
  go_enter Try.func4, Try.ntmps4
  go_wp2_with fail
  refine (alive_any _).mono ?_
  rintro e w1 ⟨rfl, hB01⟩
  have u1 := HU.out.step hB01
  have U1 := Lib.hid u1
  clear u1
  generalize hH : w.heap.size = H at *
  go_wp2_with fail
  refine (great_any w1 _ u cs U1.out HS.out).mono ?_
  rintro e w2 ⟨g, rfl, rfl, hg⟩
  have HG := Lib.hid hg
  clear hg HS
  cases g with
  | true =>
    go_wp2_with fail
    go_ret
    exact ⟨rfl, by rw [hH]; exact hB01⟩
  | false =>
    have hlen := HG.out rfl
    by_cases hbig : 500 < s.length
    · go_wp2_with fail
      go_ret
      exact ⟨rfl, by rw [hH]; exact hB01⟩
    · have hdec : decide ((500 : Int) < (s.length : Int)) = false := by simp; omega
      have hH1 : H ≤ w1.heap.size := by rw [← hH]; exact hB01.size
      go_wp2_with fail
      have ho0 : (w1.alloc (.cells #[] 24)).ownsRow H 24 4 (.slice (some ⟨w1.heap.size, 0, none⟩) 0 0) 0 [] := own.lit w1 [] 24 4 0 H rfl (by unfold maxLen; omega) hH1
      have hB02 : Below H w (w1.alloc (.cells #[] 24)) := hB01.alloc hH1 _
      have hH2 : H ≤ (w1.alloc (.cells #[] 24)).heap.size := by simp; omega
      obtain ⟨a, cap, rfl, h2, h3, h4, h5⟩ := HU.out
      have H5 := Lib.hid h5
      clear h5 h4 U1 HU hB01
      go_loopw [5, 6] (fun v i wr => ∃ k : Nat, k ≤ cs.length ∧ i = .int .i64 k ∧ GatRel H w cs k v wr) (fun _ i _ => cs.length - (intOf i).toNat)
      case atStart => exact ⟨0, Nat.zero_le _, rfl, ho0, hB02, hH2⟩
      case round =>
        clear ho0 hB02 hH2
        obtain ⟨k, hk, rfl, hown, hB, hHr⟩ := hrel
        obtain ⟨hpl, hln⟩ := ddOf_plain cs k hk
        have HP := Lib.hid hpl
        clear hpl
        by_cases hlt : k < cs.length
        · obtain ⟨bb, off, rfl, hbb, hc⟩ := H5.out (by omega)
          have hcc := (hc k cs[k] (by simp [hlt])).below hB hbb
          have hsn := ddOf_snoc (cs := cs) (k := k) (c := cs[k]) (by simp [hlt])
          obtain ⟨c1, c2, c3, c4⟩ := hcc
          have HSN := Lib.hid hsn
          clear hc hsn
          generalize hL : ddOf (cs.take k) = L at *
          generalize hck : cs[k] = c at *
          have HCK := Lib.hid hck
          have HL := Lib.hid hL
          clear hck hL c1 c4
          have hrd := rdC_of_own hown
          obtain ⟨la, lc, rfl, l2, l3, l4, l5⟩ := hrd
          have HO := Lib.hid hown
          have L5 := Lib.hid l5
          clear hown l5 l4
          obtain ⟨wo, rfl⟩ : ∃ wo : World, wo = wr := ⟨_, rfl⟩
          have HB := Lib.hid hB
          clear hB
          go_wp2_with fail
          go_loopw [7, 8] (fun kn j wr => ∃ m : Nat, m ≤ L.length ∧ j = .int .i64 m ∧ kn = .bool ((L.take m).any fun d => d.name == c.name) ∧ ∃ n, wr = wo.drewN n) (fun _ j _ => L.length - (intOf j).toNat)
          case atStart => exact ⟨0, Nat.zero_le _, rfl, rfl, 0, rfl⟩
          case round =>
            obtain ⟨m, hm, rfl, rfl, n, rfl⟩ := hrel
            by_cases hml : m < L.length
            · obtain ⟨lb, loff, rfl, hlb, hlc⟩ := L5.out (by omega)
              obtain ⟨e1, e2, e3, e4⟩ := hlc m L[m] (by simp [hml])
              have hany : (L.take (m + 1)).any (fun d => d.name == c.name) = ((L.take m).any (fun d => d.name == c.name) || L[m].name == c.name) := by
                rw [List.take_succ_eq_append_getElem hml, List.any_append]; simp
              have HA := Lib.hid hany
              clear hany hlc e1 e2 e4
              generalize hd : L[m].name = d at e3 HA
              have HD := Lib.hid hd
              clear hd
              generalize hkn : (L.take m).any (fun d => d.name == c.name) = kn at *
              have HKN := Lib.hid hkn
              clear hkn
              generalize hcn : c.name = cn at c3 HA
              have HCN := Lib.hid hcn
              clear hcn
              cases kn with
              | true =>
                go_wp2
                go_quiet (fail)
                go_wp2
                go_roundw
                case rel => exact ⟨m + 1, by omega, by go_num, by rw [HA.out]; rfl, _, rfl⟩
                case measure => simp [intOf]; omega
              | false =>
                cases hdc : d == cn with
                | true =>
                  go_wp2
                  go_quiet (fail)
                  go_wp2
                  go_roundw
                  case rel => exact ⟨m + 1, by omega, by go_num, by rw [HA.out, hdc]; rfl, _, rfl⟩
                  case measure => simp [intOf]; omega
                | false =>
                  go_wp2
                  go_quiet (fail)
                  go_wp2
                  go_roundw
                  case rel => exact ⟨m + 1, by omega, by go_num, by rw [HA.out, hdc]; rfl, _, rfl⟩
                  case measure => simp [intOf]; omega
            · obtain rfl : m = L.length := by omega
              rw [List.take_length]
              have hB2 : Below wo.heap.size wo (wo.drewN n) := below_drewN' _ _ _
              have hB3 := HB.out.trans (hB2.mono hHr)
              have ho2 := own.below HO.out hB2
              have hx2 := (hB2.cell (p := ⟨bb, off + k * 4 + 1, none⟩) (by show bb < _; omega)).trans c2
              have hx3 := (hB2.cell (p := ⟨bb, off + k * 4 + 2, none⟩) (by show bb < _; omega)).trans c3
              have hH3 : H ≤ (wo.drewN n).heap.size := Nat.le_trans hHr hB2.size
              have HO3 := Lib.hid ho2
              have HB3 := Lib.hid hB3
              clear HB HO hB2 hB3 ho2 c2 c3 L5
              generalize wo.drewN n = w3 at *
              cases hkn : L.any (fun d => d.name == c.name) with
              | true =>
                have hst : ddStep L c = L := by unfold ddStep; rw [if_pos hkn]
                have HST := Lib.hid hst
                clear hst hkn
                go_wp2
                go_roundw
                case rel => exact ⟨k + 1, by omega, by go_num, by unfold GatRel; rw [HSN.out, HST.out]; exact ⟨HO3.out, HB3.out, hH3⟩⟩
                case measure => simp [intOf]; omega
              | false =>
                have hst : ddStep L c = L ++ [⟨0, c.n, c.name, false⟩] := by unfold ddStep; rw [if_neg (by rw [hkn]; decide)]
                have HST := Lib.hid hst
                clear hst hkn
                go_wp2_with fail
                have hcell : ∀ w', Below H w w' → w'.cell? ⟨bb, off + k * 4 + 1, none⟩ = some (.int .i64 c.n) ∧ w'.cell? ⟨bb, off + k * 4 + 2, none⟩ = some (.string ⟨c.name.toArray⟩) := fun w' hw' =>
                  ⟨(hw'.cell (p := ⟨bb, off + k * 4 + 1, none⟩) hbb).trans (((HB3.out.cell (p := ⟨bb, off + k * 4 + 1, none⟩) hbb).symm).trans hx2), (hw'.cell (p := ⟨bb, off + k * 4 + 2, none⟩) hbb).trans (((HB3.out.cell (p := ⟨bb, off + k * 4 + 2, none⟩) hbb).symm).trans hx3)⟩
                have HC := Lib.hid hcell
                clear hcell hx2 hx3
                have hC0 : Below H w w3.drew := HB3.out.drew
                refine wp_region_chain [12, 13] (Below H w) (by kernel_rfl) (by kernel_rfl) hC0 ?_
                iterate 11 (refine wpC_step rfl rfl rfl rfl hC0 ?_; apply Exists.intro; refine ⟨fun w' hw' K hK => ?_, ?_⟩; (obtain ⟨f0, f1⟩ := HC.out w' hw'; go_step; exact hK))
                have ho3 : w3.drew.ownsRow H 24 4 (.slice la L.length lc) L.length (cellsL L) := HO3.out.drew
                refine wpC_calm rfl rfl (.agg #[.int .i64 0, .int .i64 c.n, .string ⟨c.name.toArray⟩, .bool false]) (fun w' _ => by kernel_rfl) ?_
                simp only [Act.put, List.setIfInBounds_toArray, List.set_cons_succ, List.set_cons_zero]
                refine wpC_lit1 rfl rfl 22 (.tmp 67) rfl el22 (u := .agg #[.int .i64 0, .int .i64 c.n, .string ⟨c.name.toArray⟩, .bool false]) rfl rfl (by omega) ⟨hC0.alloc hH3 _, ?_⟩
                simp only [Act.put, List.setIfInBounds_toArray, List.set_cons_succ, List.set_cons_zero]
                refine wpC_app rfl rfl (.tmp 56) (.tmp 68) 22 rfl el22 (v := .slice la L.length lc) rfl (ho3.alloc _) (u := .slice (some ⟨w3.heap.size, 0, none⟩) 1 1) rfl (rd.lit w3.drew [.int .i64 0, .int .i64 c.n, .string ⟨c.name.toArray⟩, .bool false] 24 4 1 rfl (by unfold maxLen; omega)) ?_ (by unfold maxLen; omega) (by omega) (by simp; omega) fun v' w' hA => ?_
                · intro x hx
                  simp only [List.mem_cons, List.not_mem_nil, or_false] at hx
                  rcases hx with rfl | rfl | rfl | rfl <;> rfl
                have hA' := App.alloc (w := w3.drew) _ hA
                have hbA : Below H w3.drew w' := App.below hA' ho3 (Nat.le_refl _) hH3
                have hB4 : Below H w w' := hC0.trans hbA
                have hH4 : H ≤ w'.heap.size := Nat.le_trans hH3 hbA.size
                have HO4 : Hid (w'.ownsRow H 24 4 v' (L ++ [(⟨0, c.n, c.name, false⟩ : CallD)]).length (cellsL (L ++ [(⟨0, c.n, c.name, false⟩ : CallD)]))) := Lib.hid (by
                  have := hA.own
                  unfold cellsL
                  rw [List.flatMap_append, List.length_append]
                  exact this)
                refine ⟨hB4, ?_⟩
                clear hA hA' hbA ho3
                simp only [Act.put, List.setIfInBounds_toArray, List.set_cons_succ, List.set_cons_zero]
                refine wpC_step rfl rfl rfl rfl hB4 ?_
                apply Exists.intro
                refine ⟨fun w2 hw' K hK => ?_, ?_⟩
                · go_step; exact hK
                refine wpC_nil ?_
                have HB4 := Lib.hid hB4
                clear hB4 hC0
                go_wp2
                go_roundw
                case rel => exact ⟨k + 1, by omega, by go_num, by unfold GatRel; rw [HSN.out, HST.out]; exact ⟨HO4.out, HB4.out, hH4⟩⟩
                case measure => simp [intOf]; omega
        · obtain rfl : k = cs.length := by omega
          rw [List.take_length] at *
          generalize hL : ddOf cs = L at *
          have HL := Lib.hid hL
          clear hL H5
          obtain ⟨la, lc, rfl, l2, l3, l4, l5⟩ := rdC_of_own hown
          have HO := Lib.hid hown
          have L5 := Lib.hid l5
          have HB := Lib.hid hB
          clear hown l5 l4 hB
          obtain ⟨wo, rfl⟩ : ∃ wo : World, wo = wr := ⟨_, rfl⟩
          go_wp2_with fail
          have ho0 : (wo.alloc (.cells #[] 24)).ownsRow wo.heap.size 24 4 (.slice (some ⟨wo.heap.size, 0, none⟩) 0 0) 0 [] := own.lit wo [] 24 4 0 wo.heap.size rfl (by unfold maxLen; omega) (Nat.le_refl _)
          have hB0 : Below wo.heap.size wo (wo.alloc (.cells #[] 24)) := (Below.refl _ _).alloc (Nat.le_refl _) _
          go_loopw [9, 10] (fun v i wr2 => ∃ j : Int, -1 ≤ j ∧ j < L.length ∧ i = .int .i64 j ∧ BackRel wo L j v wr2) (fun _ i _ => (intOf i + 1).toNat)
          case atStart => exact ⟨(L.length : Int) - 1, by omega, by omega, rfl, by
            unfold BackRel
            rw [show ((L.length : Int) - 1 + 1).toNat = L.length by omega, List.drop_length]
            exact ⟨ho0, hB0⟩⟩
          case round =>
            clear ho0 hB0
            obtain ⟨j, hj1, hj2, rfl, hback, hB2⟩ := hrel
            have HB2 := Lib.hid hB2
            clear hB2
            by_cases hj : 0 ≤ j
            · obtain ⟨m, rfl⟩ := Int.eq_ofNat_of_zero_le hj
              have hm : m < L.length := by omega
              obtain ⟨lb, loff, rfl, hlb, hlc⟩ := L5.out (by omega)
              obtain ⟨e1, e2, e3, e4⟩ := (hlc m L[m] (by simp [hm])).below HB2.out hlb
              have hrev : (L.drop m).reverse = (L.drop (m + 1)).reverse ++ [L[m]] := by rw [List.drop_eq_getElem_cons hm, List.reverse_cons]
              have HR := Lib.hid hrev
              rw [show ((m : Int) + 1).toNat = m + 1 by omega] at hback
              have hbl : (L.drop (m + 1)).reverse.length = L.length - (m + 1) := by simp
              rw [hbl] at hback
              have HBL := Lib.hid hbl
              have HBK := Lib.hid hback
              clear hrev hlc hback hbl
              generalize hd : L[m] = d at *
              have HD := Lib.hid hd
              clear hd
              go_wp2_with (refine stp 83 ?_)
              intro _
              refine wpList_app1 rfl rfl (.tmp 78) (.tmp 82) 22 83 rfl rfl rfl rfl el22 rfl HBK.out (u := .agg #[.int .i64 d.of, .int .i64 d.n, .string ⟨d.name.toArray⟩, .bool d.drop]) rfl rfl ?_ (by decide) (by unfold maxLen; omega) (by omega) HB2.out.size fun v' w' hA => ?_
              · intro x hx
                have hx' : x ∈ [Value.int .i64 d.of, .int .i64 d.n, .string ⟨d.name.toArray⟩, .bool d.drop] := hx
                simp only [List.mem_cons, List.not_mem_nil, or_false] at hx'
                rcases hx' with rfl | rfl | rfl | rfl <;> rfl
              have hb3 : Below wo.heap.size wr w' := App.below hA HBK.out (Nat.le_refl _) HB2.out.size
              have HBA : Hid (w'.ownsRow wo.heap.size 24 4 v' (L.drop m).reverse.length (cellsL (L.drop m).reverse)) := Lib.hid (by
                have h1 := hA.own
                have e1 : (L.drop m).reverse.length = L.length - (m + 1) + 1 := by rw [HR.out, List.length_append, HBL.out]; rfl
                have e2 : cellsL (L.drop m).reverse = cellsL (L.drop (m + 1)).reverse ++ [.int .i64 d.of, .int .i64 d.n, .string ⟨d.name.toArray⟩, .bool d.drop] := by rw [HR.out]; unfold cellsL; rw [List.flatMap_append]; rfl
                rw [e1, e2]; exact h1)
              have HB3 := Lib.hid hb3
              clear hA hb3 e1 e2 e3 e4
              go_wp2
              go_roundw
              case rel => exact ⟨(m : Int) - 1, by omega, by omega, rfl, by
                unfold BackRel
                rw [show ((m : Int) - 1 + 1).toNat = m by omega]
                exact ⟨HBA.out, HB2.out.trans HB3.out⟩⟩
              case measure => first | (simp [intOf]; done) | (simp [intOf]; omega)
            · obtain rfl : j = -1 := by omega
              rw [show ((-1 : Int) + 1).toNat = 0 by omega, List.drop_zero, List.length_reverse] at hback
              have ho5 := own.below HO.out HB2.out
              have hd0 : decide ((0 : Int) ≤ -1) = false := by decide
              have hrl := rdC_of_own ho5
              have hrb : rdC wr.heap.size wr _ L.reverse := rdC_of_own (L := L.reverse) (by rw [List.length_reverse]; exact hback)
              have hB5 : Below H w wr := HB.out.trans (HB2.out.mono hHr)
              have hH5 : H ≤ wr.heap.size := Nat.le_trans hHr HB2.out.size
              have P1 := last_any wr _ L hrl (by omega)
              have HL5 := Lib.hid hrl
              have HR5 := Lib.hid hrb
              clear ho5 hrl hrb hback HB HB2 L5 HO
              go_wp2_with fail
              refine P1.mono ?_
              rintro e w6 ⟨t6, b6, rfl, g6, hk6, hB6⟩
              have hc6 := kv_cnt hk6
              have HL6 := Lib.hid (HL5.out.step hB6)
              have HR6 := Lib.hid (HR5.out.step hB6)
              have hB06 := hB5.trans (hB6.mono hH5)
              have hH6 : H ≤ w6.heap.size := Nat.le_trans hH5 hB6.size
              have HK6 := Lib.hid hk6
              clear hk6 hB6 hB5 hH5 HL5 HR5 P1
              unfold rad
              have P1 := last_any w6 _ L.reverse HR6.out (by simp; omega)
              go_wp2_with fail
              refine P1.mono ?_
              rintro e w7 ⟨t7, b7, rfl, g7, hk7, hB7⟩
              rw [kvOf_rev HP.out] at hk7
              have hc7 := kv_cnt hk7
              have g67 := g6.step hB7
              have HL7 := Lib.hid (HL6.out.step hB7)
              have hB07 := hB06.trans (hB7.mono hH6)
              have hH7 : H ≤ w7.heap.size := Nat.le_trans hH6 hB7.size
              have HK7 := Lib.hid hk7
              clear hk7 hB7 hB06 hH6 HL6 HR6 P1 g6
              unfold rad
              have P1 := Names_good w7 b6 t6 g67 (by omega)
              go_wp2_with fail
              refine P1.mono ?_
              rintro e w8 ⟨v8, rfl, r8, hB8⟩
              have g68 := g67.step hB8
              have g78 := g7.step hB8
              have HL8 := Lib.hid (HL7.out.step hB8)
              have hB08 := hB07.trans (hB8.mono hH7)
              have hH8 : H ≤ w8.heap.size := Nat.le_trans hH7 hB8.size
              have R8 := Lib.hid r8
              clear r8 hB8 hB07 hH7 HL7 P1 g67 g7
              have P1 := Names_good w8 b7 t7 g78 (by omega)
              go_wp2_with fail
              refine P1.mono ?_
              rintro e w9 ⟨v9, rfl, r9, hB9⟩
              have g69 := g68.step hB9
              have g79 := g78.step hB9
              have HL9 := Lib.hid (HL8.out.step hB9)
              have hB09 := hB08.trans (hB9.mono hH8)
              have hH9 : H ≤ w9.heap.size := Nat.le_trans hH8 hB9.size
              have P2 := same_good w9 v8 v9 _ _ (R8.out.step hB9) r9
              have hsm : sameT t6.names t7.names = true := by
                have : t6.names = t7.names := by rw [← kv_names, ← kv_names, HK6.out, HK7.out]
                simp [sameT, this]
              rw [hsm] at P2
              clear hsm r9 R8 hB9 hB08 hH8 HL8 P1 g68 g78
              go_wp2_with fail
              refine P2.mono ?_
              rintro e w10 ⟨rfl, hB10⟩
              have g610 := g69.step hB10
              have g710 := g79.step hB10
              have HL10 := Lib.hid (HL9.out.step hB10)
              have hB010 := hB09.trans (hB10.mono hH9)
              have hH10 : H ≤ w10.heap.size := Nat.le_trans hH9 hB10.size
              clear hB10 hB09 hH9 HL9 P2 g69 g79
              have G6 := Get_any w10 _ b6 t6 s g610.ok
              have G7 := Get_any w10 _ b7 t7 s g710.ok
              rw [getT_eq g610.sl g710.sl (by rw [HK6.out, HK7.out]) s] at G6
              generalize getT s t7 = gg at G6 G7
              obtain ⟨gi, gb⟩ := gg
              simp only at G6 G7
              go_wp2_with fail
              refine G6.mono ?_
              rintro e w11 ⟨rfl, rfl⟩
              go_wp2_with fail
              refine G7.mono ?_
              rintro e w11 ⟨rfl, rfl⟩
              clear G6 G7
              go_wp2_with fail
              go_loopw [12, 17] (fun v i wr2 => ∃ k : Nat, k ≤ L.length ∧ i = .int .i64 k ∧ DropRel H w L la lc k v wr2) (fun _ i _ => L.length - (intOf i).toNat)
              case atStart => exact ⟨0, Nat.zero_le _, rfl, b7, t7, rfl, g710, HK7.out, hB010, hH10, HL10.out⟩
              case round =>
                clear g610 g710 hB010 hH10
                obtain ⟨k, hk, rfl, b, t, rfl, hg, hkv, hB, hHr, hl⟩ := hrel
                have HKV := Lib.hid hkv
                have HLr := Lib.hid hl
                have hct : t.cnt ≤ 120 := by
                  have h1 := dropAll_len (L.take k) (kvOf L)
                  rw [← hkv, kv_len] at h1
                  have h2 := kvOf_len L L.length (Nat.le_refl _)
                  rw [List.take_length] at h2
                  omega
                clear hkv hl HL10
                by_cases hkl : k < L.length
                · obtain ⟨a', c', e, -, -, -, h5⟩ := HLr.out
                  simp only [Value.slice.injEq] at e
                  obtain ⟨rfl, -, rfl⟩ := e
                  obtain ⟨lb, loff, rfl, hlb, hlc⟩ := h5 (by omega)
                  obtain ⟨-, -, e3, -⟩ := hlc k L[k] (by simp [hkl])
                  have hds := dropAll_snoc (L := L) (k := k) (c := L[k]) (l := kvOf L) (by simp)
                  generalize L[k] = d at e3 hds
                  have HDS := Lib.hid hds
                  clear hds hlc h5
                  go_wp2_with fail
                  refine (Drop_good wr b t d.name hg (by omega)).mono ?_
                  rintro e w12 ⟨t12, b12, rfl, g12, ⟨hk12, _⟩, hB12⟩
                  have HK12 := Lib.hid hk12
                  clear hk12 e3
                  unfold rad
                  go_wp2_with fail
                  go_roundw
                  case rel => exact ⟨k + 1, by omega, by go_num, b12, t12, rfl, g12, by rw [HK12.out, HKV.out, HDS.out], hB.trans (hB12.mono hHr), Nat.le_trans hHr hB12.size, HLr.out.step hB12⟩
                  case measure => simp [intOf]; omega
                · obtain rfl : k = L.length := by omega
                  have hkv0 : t.kv = [] := by rw [HKV.out, List.take_length]; exact dropAll_all HP.out
                  have hc0 : t.cnt = 0 := by rw [← kv_len, hkv0]; rfl
                  have hn0 : t.names = [] := by rw [← kv_names, hkv0]; rfl
                  have P1 := Len_any wr _ b t hg.ok
                  have P2 := Names_good wr b t hg (by omega)
                  rw [hc0] at P1
                  rw [hn0] at P2
                  clear hkv0 hc0 hn0 HLr hct HKV
                  cases gb
                  all_goals
                    go_wp2_with fail
                    refine P1.mono ?_
                    rintro e w13 ⟨rfl, rfl⟩
                    go_wp2_with fail
                    refine P2.mono ?_
                    rintro e w13 ⟨v13, rfl, r13, hB13⟩
                    obtain ⟨a13, c13, rfl, -⟩ := r13.cells
                    go_wp2
                    go_ret
                    exact ⟨rfl, by rw [hH]; exact hB.trans (hB13.mono hHr)⟩

theorem order_str (w : World) (u : Value) (cs : List CallD) (a : ByteArray) (hu : rdC w.heap.size w u cs) (hs : ∀ c ∈ cs, c.name.length ≤ 1125899906842624) (hz : a.size ≤ 1125899906842624) :
    Calls Try.prog 4 #[u, .string a] w (TruePost w) := by
  have h := order_law w u cs a.data.toList hu hs (by simpa using hz)
  rwa [str_bytes] at h
end Go.Proofs.Ytegkjnibkilbpaa
