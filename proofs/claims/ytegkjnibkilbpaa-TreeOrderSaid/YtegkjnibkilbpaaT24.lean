import Derived.Test.YtegkjnibkilbpaaT23
import Derived.StillTailTactics
namespace Go.Proofs.Ytegkjnibkilbpaa
open Go.RowKit

def kvStep (l : List KV) (c : CallD) : List KV := if c.drop = true then l.filter (fun a => !(a.1 == c.name)) else insKV c.name c.n l
def kvOf (cs : List CallD) : List KV := cs.foldl kvStep []

theorem insKV_len (x : List UInt8) (n : Int) : ∀ l : List KV, (insKV x n l).length ≤ l.length + 1
  | [] => by simp [insKV]
  | a :: l => by
    have := insKV_len x n l
    unfold insKV
    split
    · simp
    · split
      · simp
      · simpa using this

theorem kvOf_snoc {cs : List CallD} {k : Nat} {c : CallD} (h : cs[k]? = some c) : kvOf (cs.take (k + 1)) = kvStep (kvOf (cs.take k)) c := by
  have hk : k < cs.length := (List.getElem?_eq_some_iff.1 h).1
  have hc : cs[k] = c := (List.getElem?_eq_some_iff.1 h).2
  unfold kvOf
  rw [List.take_succ_eq_append_getElem hk, List.foldl_append, hc]
  rfl

theorem kvStep_len (l : List KV) (c : CallD) : (kvStep l c).length ≤ l.length + 1 := by
  unfold kvStep
  split
  · exact Nat.le_succ_of_le (List.length_filter_le _ _)
  · exact insKV_len _ _ _

theorem kvOf_len (cs : List CallD) : ∀ k, k ≤ cs.length → (kvOf (cs.take k)).length ≤ k
  | 0, _ => by simp [kvOf]
  | k + 1, h => by
    have ih := kvOf_len cs k (by omega)
    have := kvOf_snoc (cs := cs) (k := k) (c := cs[k]) (by simp)
    have := kvStep_len (kvOf (cs.take k)) cs[k]
    simp_all
    omega

theorem Good.drew {w : World} {b : Nat} {t : T} (h : Good w b t) : Good w.drew b t := h.step ((Below.refl _ _).drew)

def LastRel (w0 : World) (cs : List CallD) (k : Nat) (v : Value) (wr : World) : Prop := ∃ b t, v = .pointer (some ⟨b, 0, none⟩) ∧ Good wr b t ∧ t.kv = kvOf (cs.take k) ∧ Below w0.heap.size w0 wr

set_option maxRecDepth 100000 in
set_option maxHeartbeats 1000000 in
theorem last_any (w : World) (u : Value) (cs : List CallD) (hu : rdC w.heap.size w u cs) (hn : cs.length ≤ 120) :
    Calls Try.prog 8 #[u] w (GPost (fun t => t.kv = kvOf cs) w) := by
  obtain ⟨a, cap, rfl, h2, h3, h4, h5⟩ := hu
  have H5 := Lib.hid h5
  clear h5
  go_enter Try.func8, Try.ntmps8
  go_wp2_with fail
  refine (New_good w).mono ?_
  rintro e w1 ⟨t1, b1, rfl, g1, ht1, hB1⟩
  unfold rad
  go_wp2_with fail
  go_loopw [3, 4] (fun v i wr => ∃ k : Nat, k ≤ cs.length ∧ i = .int .i64 k ∧ LastRel w cs k v wr) (fun _ i _ => cs.length - (intOf i).toNat)
  case atStart => exact ⟨0, Nat.zero_le _, rfl, b1, t1, rfl, g1, by rw [ht1]; rfl, hB1⟩
  case round =>
    obtain ⟨k, hk, rfl, b, t, rfl, hg, hkv, hB⟩ := hrel
    have hlen := kvOf_len cs k hk
    rw [← hkv, kv_len] at hlen
    have HKV := Lib.hid hkv
    clear hkv g1 ht1 hB1
    by_cases hlt : k < cs.length
    · obtain ⟨bb, off, rfl, hbb, hc⟩ := H5.out (by omega)
      have hcc := (hc k cs[k] (by simp [hlt])).below hB hbb
      have hsn := kvOf_snoc (cs := cs) (k := k) (c := cs[k]) (by simp [hlt])
      obtain ⟨c1, c2, c3, c4⟩ := hcc
      have HSN := Lib.hid hsn
      clear hc hsn
      generalize hck : cs[k] = c at c1 c2 c3 c4 HSN
      have HCK := Lib.hid hck
      clear hck c1
      cases hd : c.drop with
      | true =>
        have HD := Lib.hid hd
        rw [hd] at c4
        clear hd
        go_wp2_with fail
        refine (Drop_good wr b t c.name hg (by omega)).mono ?_
        rintro e w2 ⟨t2, b2, rfl, g2, ⟨hk2, _⟩, hB2⟩
        have HK2 := Lib.hid hk2
        clear hk2
        unfold rad
        go_wp2_with fail
        go_roundw
        case rel => exact ⟨k + 1, by omega, by go_num, b2, t2, rfl, g2, by rw [HK2.out, HSN.out, HKV.out]; simp [kvStep, HD.out], hB.trans (hB2.mono hB.size)⟩
        case measure => simp [intOf]; omega
      | false =>
        have HD := Lib.hid hd
        rw [hd] at c4
        clear hd
        go_wp2_with fail
        go_still_tail 11, (by kernel_rfl)
        change wpList _ _ _ _ _ wr.drew
        have hg2 := hg.drew
        have hB2 := hB.drew
        generalize wr.drew = w2 at *
        clear hg hB c2 c3 c4
        go_wp2_with fail
        refine (Put_good w2 b t c.name c.n hg2 (by omega)).mono ?_
        rintro e w3 ⟨t2, b2, rfl, g2, ⟨hk2, _⟩, hB3⟩
        have HK2 := Lib.hid hk2
        clear hk2
        unfold rad
        go_wp2_with fail
        go_roundw
        case rel => exact ⟨k + 1, by omega, by go_num, b2, t2, rfl, g2, by rw [HK2.out, HSN.out, HKV.out]; simp [kvStep, HD.out], hB2.trans (hB3.mono hB2.size)⟩
        case measure => simp [intOf]; omega
    · have hkk : k = cs.length := by omega
      subst hkk
      rw [List.take_length] at HKV
      go_wp2
      go_ret
      exact ⟨t, b, rfl, hg, HKV.out, hB⟩
end Go.Proofs.Ytegkjnibkilbpaa
