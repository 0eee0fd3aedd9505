/-
  NARROWER THAN 'FOR EVERY INPUT', by the rows' own cells (each row's printed sentence says how): WhnfSums: laid · WhnfStops: loops, laid · WhnfFuel: loops, laid · WhnfBetas: loops, laid · WhnfDeltas: loops, laid.
  DERIVED. THE GIVEN ROWS OF THIS SEAT. 5 by the template 'for every input the law returns true; each argument reads behind the call as it read before'; 0 by the template 'total and deterministic' (their statements: YtahdkhklngjmoaaGreatDoorTotals.lean).
  GIVEN WITH THE SEED: the statements are not yours to turn. If you find one false, say at which input.
  Laid BY PROGRAM, IN A SANDBOX (cutbox-rows.mjs): the forced cells as the released guide's own fill.sh prints them over the translation 251e0c7af28b08f9… (all of the seat's roots in one cut). By AI agents, Wed Nov 11 2026. No macro, syntax, notation, axiom, sorry.
-/
import Derived.Test.YtahdkhklngjmoaaGreatDoorChecked
import GoSem.PinnedTables
import GoSem.Claim
import GoSem.ClaimJoined
import GoSem.ClaimMapViews
import Derived.JoinedTies
import Derived.KernelRfl
namespace Go.Proofs.YtahdkhklngjmoaaGreatDoor
/- THE CELL 'sum', in the pinned program and in every row, IS THE sha256 OF THE DUMP (.gsa) THAT YtahdkhklngjmoaaGreatDoorProg.lean LOADS. Nothing in Lean hashes anything: it is a label: what it is worth is what the hold of that sum in a sandbox is worth. -/
noncomputable def Tryz.pinned : Pinned := { name := "ytahdkhklngjmoaagreatdoor", sum := "251e0c7af28b08f9c0dafba658196886a6c63865d14cff8d85c14f7680e420d2", checked := Tryz.checked }
namespace Rows
def none {H : Type} : Left H := { results := [], args := [] }

/- WHAT THE LISTED PACKAGE-LEVEL VARIABLES READ AS WHEN THE CALL BEGINS. Each datum BY PROGRAM (the guide's laid-datum.mjs) off the statement by which the dump's own 'gosem.cut.vars' lays the variable. In a bare row this is a premise. The card (YtahdkhklngjmoaaGreatDoorCards.lean) ties it to the program's text. -/
def laid_unicode_utf8_acceptRanges {H : Type} : DataW H := .agg [.agg [.lit (.int .u8 128), .lit (.int .u8 191)], .agg [.lit (.int .u8 160), .lit (.int .u8 191)], .agg [.lit (.int .u8 128), .lit (.int .u8 159)], .agg [.lit (.int .u8 144), .lit (.int .u8 191)], .agg [.lit (.int .u8 128), .lit (.int .u8 143)], .agg [.lit (.int .u8 0), .lit (.int .u8 0)], .agg [.lit (.int .u8 0), .lit (.int .u8 0)], .agg [.lit (.int .u8 0), .lit (.int .u8 0)], .agg [.lit (.int .u8 0), .lit (.int .u8 0)], .agg [.lit (.int .u8 0), .lit (.int .u8 0)], .agg [.lit (.int .u8 0), .lit (.int .u8 0)], .agg [.lit (.int .u8 0), .lit (.int .u8 0)], .agg [.lit (.int .u8 0), .lit (.int .u8 0)], .agg [.lit (.int .u8 0), .lit (.int .u8 0)], .agg [.lit (.int .u8 0), .lit (.int .u8 0)], .agg [.lit (.int .u8 0), .lit (.int .u8 0)]]
/-- One of Go's own tables, pinned by name: the form's constant. -/
def laid_unicode_utf8_first : DataW Unit := Go.Pinned.utf8First

/-- 'scholiumlaw13.WhnfSums': WHATEVER THE INPUT: true; the input reads as it did. -/
def whnfSumsSpec : ChangeSpec := { name := "whnfSums", fn := fun _ => fun
  | [d1, d2, d3] => { results := [.lit (.bool true)], args := [d1, d2, d3] }
  | _ => none }
def whnfSumsRow : OpenClaim := { program := "ytahdkhklngjmoaagreatdoor", sum := "251e0c7af28b08f9c0dafba658196886a6c63865d14cff8d85c14f7680e420d2", func := "scholium/scholiumlaw13.WhnfSums", spec := "whnfSums", inPlace := ["internal/bytealg.IndexByteString", "internal/bytealg.IndexString"], unfollowed := true, recurses := true, named := ["unicode/utf8.first", "unicode/utf8.acceptRanges", "internal/bytealg.MaxLen"], apart := false, laid := [("unicode/utf8.acceptRanges", laid_unicode_utf8_acceptRanges), ("unicode/utf8.first", laid_unicode_utf8_first)] }
def WhnfSumsSaid : Prop := whnfSumsRow.holds Tryz.pinned (OpenSpec.ofChange whnfSumsSpec)

/-- ITS FALSE NEIGHBOUR: 'it returns false'. Refute it at one input. -/
def whnfSumsWrong : ChangeSpec := { name := "whnfSums", fn := fun _ => fun
  | [d1, d2, d3] => { results := [.lit (.bool false)], args := [d1, d2, d3] }
  | _ => none }
def WhnfSumsWrongFalsely : Prop := whnfSumsRow.holds Tryz.pinned (OpenSpec.ofChange whnfSumsWrong)

/-- 'scholiumlaw13.WhnfStops': WHATEVER THE INPUT: true; the input reads as it did. -/
def whnfStopsSpec : ChangeSpec := { name := "whnfStops", fn := fun _ => fun
  | [d1, d2] => { results := [.lit (.bool true)], args := [d1, d2] }
  | _ => none }
def whnfStopsRow : OpenClaim := { program := "ytahdkhklngjmoaagreatdoor", sum := "251e0c7af28b08f9c0dafba658196886a6c63865d14cff8d85c14f7680e420d2", func := "scholium/scholiumlaw13.WhnfStops", spec := "whnfStops", inPlace := ["internal/bytealg.IndexByteString", "internal/bytealg.IndexString"], unfollowed := true, recurses := true, named := ["unicode/utf8.first", "unicode/utf8.acceptRanges", "internal/bytealg.MaxLen"], loops := true, apart := false, laid := [("unicode/utf8.acceptRanges", laid_unicode_utf8_acceptRanges), ("unicode/utf8.first", laid_unicode_utf8_first)] }
def WhnfStopsSaid : Prop := whnfStopsRow.holds Tryz.pinned (OpenSpec.ofChange whnfStopsSpec)

/-- ITS FALSE NEIGHBOUR: 'it returns false'. Refute it at one input. -/
def whnfStopsWrong : ChangeSpec := { name := "whnfStops", fn := fun _ => fun
  | [d1, d2] => { results := [.lit (.bool false)], args := [d1, d2] }
  | _ => none }
def WhnfStopsWrongFalsely : Prop := whnfStopsRow.holds Tryz.pinned (OpenSpec.ofChange whnfStopsWrong)

/-- 'scholiumlaw13.WhnfFuel': WHATEVER THE INPUT: true; the input reads as it did. -/
def whnfFuelSpec : ChangeSpec := { name := "whnfFuel", fn := fun _ => fun
  | [d1, d2, d3] => { results := [.lit (.bool true)], args := [d1, d2, d3] }
  | _ => none }
def whnfFuelRow : OpenClaim := { program := "ytahdkhklngjmoaagreatdoor", sum := "251e0c7af28b08f9c0dafba658196886a6c63865d14cff8d85c14f7680e420d2", func := "scholium/scholiumlaw13.WhnfFuel", spec := "whnfFuel", inPlace := ["internal/bytealg.IndexByteString", "internal/bytealg.IndexString"], unfollowed := true, recurses := true, named := ["unicode/utf8.first", "unicode/utf8.acceptRanges", "internal/bytealg.MaxLen"], loops := true, apart := false, laid := [("unicode/utf8.acceptRanges", laid_unicode_utf8_acceptRanges), ("unicode/utf8.first", laid_unicode_utf8_first)] }
def WhnfFuelSaid : Prop := whnfFuelRow.holds Tryz.pinned (OpenSpec.ofChange whnfFuelSpec)

/-- ITS FALSE NEIGHBOUR: 'it returns false'. Refute it at one input. -/
def whnfFuelWrong : ChangeSpec := { name := "whnfFuel", fn := fun _ => fun
  | [d1, d2, d3] => { results := [.lit (.bool false)], args := [d1, d2, d3] }
  | _ => none }
def WhnfFuelWrongFalsely : Prop := whnfFuelRow.holds Tryz.pinned (OpenSpec.ofChange whnfFuelWrong)

/-- 'scholiumlaw13.WhnfBetas': WHATEVER THE INPUT: true; the input reads as it did. -/
def whnfBetasSpec : ChangeSpec := { name := "whnfBetas", fn := fun _ => fun
  | [d1, d2, d3] => { results := [.lit (.bool true)], args := [d1, d2, d3] }
  | _ => none }
def whnfBetasRow : OpenClaim := { program := "ytahdkhklngjmoaagreatdoor", sum := "251e0c7af28b08f9c0dafba658196886a6c63865d14cff8d85c14f7680e420d2", func := "scholium/scholiumlaw13.WhnfBetas", spec := "whnfBetas", inPlace := ["internal/bytealg.IndexByteString", "internal/bytealg.IndexString"], unfollowed := true, recurses := true, named := ["unicode/utf8.first", "unicode/utf8.acceptRanges", "internal/bytealg.MaxLen"], loops := true, apart := false, laid := [("unicode/utf8.acceptRanges", laid_unicode_utf8_acceptRanges), ("unicode/utf8.first", laid_unicode_utf8_first)] }
def WhnfBetasSaid : Prop := whnfBetasRow.holds Tryz.pinned (OpenSpec.ofChange whnfBetasSpec)

/-- ITS FALSE NEIGHBOUR: 'it returns false'. Refute it at one input. -/
def whnfBetasWrong : ChangeSpec := { name := "whnfBetas", fn := fun _ => fun
  | [d1, d2, d3] => { results := [.lit (.bool false)], args := [d1, d2, d3] }
  | _ => none }
def WhnfBetasWrongFalsely : Prop := whnfBetasRow.holds Tryz.pinned (OpenSpec.ofChange whnfBetasWrong)

/-- 'scholiumlaw13.WhnfDeltas': WHATEVER THE INPUT: true; the input reads as it did. -/
def whnfDeltasSpec : ChangeSpec := { name := "whnfDeltas", fn := fun _ => fun
  | [d1, d2, d3] => { results := [.lit (.bool true)], args := [d1, d2, d3] }
  | _ => none }
def whnfDeltasRow : OpenClaim := { program := "ytahdkhklngjmoaagreatdoor", sum := "251e0c7af28b08f9c0dafba658196886a6c63865d14cff8d85c14f7680e420d2", func := "scholium/scholiumlaw13.WhnfDeltas", spec := "whnfDeltas", inPlace := ["internal/bytealg.IndexByteString", "internal/bytealg.IndexString"], unfollowed := true, recurses := true, named := ["unicode/utf8.first", "unicode/utf8.acceptRanges", "internal/bytealg.MaxLen"], loops := true, apart := false, laid := [("unicode/utf8.acceptRanges", laid_unicode_utf8_acceptRanges), ("unicode/utf8.first", laid_unicode_utf8_first)] }
def WhnfDeltasSaid : Prop := whnfDeltasRow.holds Tryz.pinned (OpenSpec.ofChange whnfDeltasSpec)

/-- ITS FALSE NEIGHBOUR: 'it returns false'. Refute it at one input. -/
def whnfDeltasWrong : ChangeSpec := { name := "whnfDeltas", fn := fun _ => fun
  | [d1, d2, d3] => { results := [.lit (.bool false)], args := [d1, d2, d3] }
  | _ => none }
def WhnfDeltasWrongFalsely : Prop := whnfDeltasRow.holds Tryz.pinned (OpenSpec.ofChange whnfDeltasWrong)

/- THE SECOND FORM. 'bulk': how many values and letters a reading holds, each counted each time it is reached (what is shared counts as often as it is met; a slice's spare places count too). A statement '..UptoSaid' is the law's where the arguments, and the package variables that the reading takes, are together of bulk at most 1048576: NARROWER than '..Said'. Prove '..Said' where nothing that the law and all that it calls make is longer than what came in: it says more and counts as full. Else prove '..UptoSaid'. A law counts once. -/
mutual
def uptoBulk {H : Type} : DataW H → Nat
  | .lit (.string bytes) => bytes.length + 1
  | .lit _ => 1
  | .nil => 1
  | .ptr d => uptoBulk d + 1
  | .slice elems spare => uptoBulkAll elems + uptoBulkAll spare + 1
  | .agg parts => uptoBulkAll parts + 1
  | .iface _ d => uptoBulk d + 1
  | .map entries => uptoBulkEntries entries + 1
  | .held _ => 1
def uptoBulkAll {H : Type} : List (DataW H) → Nat
  | [] => 0
  | d :: r => uptoBulk d + uptoBulkAll r
def uptoBulkEntries {H : Type} : List (Lit × DataW H) → Nat
  | [] => 0
  | x :: r => uptoBulkEntry x + uptoBulkEntries r
def uptoBulkEntry {H : Type} : Lit × DataW H → Nat
  | (.string bytes, d) => bytes.length + uptoBulk d + 1
  | (_, d) => uptoBulk d + 1
 end
def uptoSmall : (H : Type) → List (DataW H) → Bool := fun _ ds => decide (uptoBulkAll ds ≤ 1048576)
def OpenSpec.upto (s : _root_.Go.ChangeSpec) : _root_.Go.OpenSpec := { _root_.Go.OpenSpec.ofChange s with cond := some uptoSmall }

/-- 'scholiumlaw13.WhnfSums', WHERE WHAT IT READS IS OF BULK AT MOST 1048576: true; the input reads as it did. -/
def whnfSumsUptoRow : OpenClaim := { program := "ytahdkhklngjmoaagreatdoor", sum := "251e0c7af28b08f9c0dafba658196886a6c63865d14cff8d85c14f7680e420d2", func := "scholium/scholiumlaw13.WhnfSums", spec := "whnfSums", inPlace := ["internal/bytealg.IndexByteString", "internal/bytealg.IndexString"], unfollowed := true, recurses := true, named := ["unicode/utf8.first", "unicode/utf8.acceptRanges", "internal/bytealg.MaxLen"], apart := false, laid := [("unicode/utf8.acceptRanges", laid_unicode_utf8_acceptRanges), ("unicode/utf8.first", laid_unicode_utf8_first)], narrowed := true }
def WhnfSumsUptoSaid : Prop := whnfSumsUptoRow.holds Tryz.pinned (OpenSpec.upto whnfSumsSpec)

/-- 'scholiumlaw13.WhnfStops', WHERE WHAT IT READS IS OF BULK AT MOST 1048576: true; the input reads as it did. -/
def whnfStopsUptoRow : OpenClaim := { program := "ytahdkhklngjmoaagreatdoor", sum := "251e0c7af28b08f9c0dafba658196886a6c63865d14cff8d85c14f7680e420d2", func := "scholium/scholiumlaw13.WhnfStops", spec := "whnfStops", inPlace := ["internal/bytealg.IndexByteString", "internal/bytealg.IndexString"], unfollowed := true, recurses := true, named := ["unicode/utf8.first", "unicode/utf8.acceptRanges", "internal/bytealg.MaxLen"], loops := true, apart := false, laid := [("unicode/utf8.acceptRanges", laid_unicode_utf8_acceptRanges), ("unicode/utf8.first", laid_unicode_utf8_first)], narrowed := true }
def WhnfStopsUptoSaid : Prop := whnfStopsUptoRow.holds Tryz.pinned (OpenSpec.upto whnfStopsSpec)

/-- 'scholiumlaw13.WhnfFuel', WHERE WHAT IT READS IS OF BULK AT MOST 1048576: true; the input reads as it did. -/
def whnfFuelUptoRow : OpenClaim := { program := "ytahdkhklngjmoaagreatdoor", sum := "251e0c7af28b08f9c0dafba658196886a6c63865d14cff8d85c14f7680e420d2", func := "scholium/scholiumlaw13.WhnfFuel", spec := "whnfFuel", inPlace := ["internal/bytealg.IndexByteString", "internal/bytealg.IndexString"], unfollowed := true, recurses := true, named := ["unicode/utf8.first", "unicode/utf8.acceptRanges", "internal/bytealg.MaxLen"], loops := true, apart := false, laid := [("unicode/utf8.acceptRanges", laid_unicode_utf8_acceptRanges), ("unicode/utf8.first", laid_unicode_utf8_first)], narrowed := true }
def WhnfFuelUptoSaid : Prop := whnfFuelUptoRow.holds Tryz.pinned (OpenSpec.upto whnfFuelSpec)

/-- 'scholiumlaw13.WhnfBetas', WHERE WHAT IT READS IS OF BULK AT MOST 1048576: true; the input reads as it did. -/
def whnfBetasUptoRow : OpenClaim := { program := "ytahdkhklngjmoaagreatdoor", sum := "251e0c7af28b08f9c0dafba658196886a6c63865d14cff8d85c14f7680e420d2", func := "scholium/scholiumlaw13.WhnfBetas", spec := "whnfBetas", inPlace := ["internal/bytealg.IndexByteString", "internal/bytealg.IndexString"], unfollowed := true, recurses := true, named := ["unicode/utf8.first", "unicode/utf8.acceptRanges", "internal/bytealg.MaxLen"], loops := true, apart := false, laid := [("unicode/utf8.acceptRanges", laid_unicode_utf8_acceptRanges), ("unicode/utf8.first", laid_unicode_utf8_first)], narrowed := true }
def WhnfBetasUptoSaid : Prop := whnfBetasUptoRow.holds Tryz.pinned (OpenSpec.upto whnfBetasSpec)

/-- 'scholiumlaw13.WhnfDeltas', WHERE WHAT IT READS IS OF BULK AT MOST 1048576: true; the input reads as it did. -/
def whnfDeltasUptoRow : OpenClaim := { program := "ytahdkhklngjmoaagreatdoor", sum := "251e0c7af28b08f9c0dafba658196886a6c63865d14cff8d85c14f7680e420d2", func := "scholium/scholiumlaw13.WhnfDeltas", spec := "whnfDeltas", inPlace := ["internal/bytealg.IndexByteString", "internal/bytealg.IndexString"], unfollowed := true, recurses := true, named := ["unicode/utf8.first", "unicode/utf8.acceptRanges", "internal/bytealg.MaxLen"], loops := true, apart := false, laid := [("unicode/utf8.acceptRanges", laid_unicode_utf8_acceptRanges), ("unicode/utf8.first", laid_unicode_utf8_first)], narrowed := true }
def WhnfDeltasUptoSaid : Prop := whnfDeltasUptoRow.holds Tryz.pinned (OpenSpec.upto whnfDeltasSpec)

end Rows
end Go.Proofs.YtahdkhklngjmoaaGreatDoor
